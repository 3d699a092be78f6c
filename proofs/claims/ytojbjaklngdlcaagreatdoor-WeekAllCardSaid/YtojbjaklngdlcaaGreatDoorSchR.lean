/-
  How a school lies in memory.
-/
import Derived.Test.YtojbjaklngdlcaaGreatDoorSchP
import Derived.Test.YtojbjaklngdlcaaGreatDoorLotA
namespace Go.Proofs.YtojbjaklngdlcaaGreatDoor
open Go.RowKit
set_option linter.unusedVariables false
namespace Sc
def okT (s : List UInt8) : Prop := s.length ≤ 9223372036854775807
def RSlo (w : World) (B : Nat) (x : Slo) (r : List Value) : Prop := r = [.string (strOf x.name), .int .i64 x.day, .int .i64 x.hour] ∧ okT x.name ∧ okI x.day ∧ okI x.hour
def RRoo (w : World) (B : Nat) (x : Roo) (r : List Value) : Prop := ∃ A c, r = [.string (strOf x.name), .int .i64 x.house, .int .i64 x.seats, .slice A x.shut.length c] ∧ RdI w B A x.shut.length c x.shut ∧ okT x.name ∧ okI x.house ∧ okI x.seats
def RPer (w : World) (B : Nat) (x : Per) (r : List Value) : Prop := ∃ A c, r = [.string (strOf x.name), .slice A x.away.length c] ∧ RdI w B A x.away.length c x.away ∧ okT x.name
def RGro (w : World) (B : Nat) (x : Gro) (r : List Value) : Prop := r = [.string (strOf x.name), .int .i64 x.size] ∧ okT x.name ∧ okI x.size
def RLes (w : World) (B : Nat) (x : Les) (r : List Value) : Prop := ∃ A c A' c', r = [.string (strOf x.name), .slice A x.who.length c, .slice A' x.groups.length c'] ∧ RdI w B A x.who.length c x.who ∧ RdI w B A' x.groups.length c' x.groups ∧ okT x.name
theorem lasts_Slo : Lasts RSlo := ⟨fun h _ => h, fun h _ => h⟩
theorem lasts_Gro : Lasts RGro := ⟨fun h _ => h, fun h _ => h⟩
theorem lasts_Roo : Lasts RRoo := ⟨fun ⟨A, c, e, h, r⟩ hb => ⟨A, c, e, h.below hb, r⟩, fun ⟨A, c, e, h, r⟩ hB => ⟨A, c, e, h.more hB, r⟩⟩
theorem lasts_Per : Lasts RPer := ⟨fun ⟨A, c, e, h, r⟩ hb => ⟨A, c, e, h.below hb, r⟩, fun ⟨A, c, e, h, r⟩ hB => ⟨A, c, e, h.more hB, r⟩⟩
theorem lasts_Les : Lasts RLes := ⟨fun ⟨A, c, A', c', e, h, h', r⟩ hb => ⟨A, c, A', c', e, h.below hb, h'.below hb, r⟩, fun ⟨A, c, A', c', e, h, h', r⟩ hB => ⟨A, c, A', c', e, h.more hB, h'.more hB, r⟩⟩
/-- A school's five slices. -/
structure Five where
  aS : Option Addr
  nS : Nat
  cS : Nat
  aR : Option Addr
  nR : Nat
  cR : Nat
  aP : Option Addr
  nP : Nat
  cP : Nat
  aG : Option Addr
  nG : Nat
  cG : Nat
  aL : Option Addr
  nL : Nat
  cL : Nat
def Five.vals (f : Five) : Array Value := #[.slice f.aS f.nS f.cS, .slice f.aR f.nR f.cR, .slice f.aP f.nP f.cP, .slice f.aG f.nG f.cG, .slice f.aL f.nL f.cL]
/-- The school s lies in the five slices f. -/
structure RdSch (w : World) (B : Nat) (f : Five) (s : Sch) : Prop where
  slots : RdS 3 RSlo w B f.aS f.nS f.cS s.slots
  rooms : RdS 4 RRoo w B f.aR f.nR f.cR s.rooms
  people : RdS 2 RPer w B f.aP f.nP f.cP s.people
  groups : RdS 2 RGro w B f.aG f.nG f.cG s.groups
  lessons : RdS 3 RLes w B f.aL f.nL f.cL s.lessons
section
variable {w w' : World} {B B' : Nat} {f : Five} {s : Sch}
theorem RdSch.below (h : RdSch w B f s) (hb : Below B w w') : RdSch w' B f s := ⟨h.slots.below lasts_Slo hb, h.rooms.below lasts_Roo hb, h.people.below lasts_Per hb, h.groups.below lasts_Gro hb, h.lessons.below lasts_Les hb⟩
theorem RdSch.more (h : RdSch w B f s) (hB : B ≤ B') : RdSch w B' f s := ⟨h.slots.more lasts_Slo hB, h.rooms.more lasts_Roo hB, h.people.more lasts_Per hB, h.groups.more lasts_Gro hB, h.lessons.more lasts_Les hB⟩
end
end Sc
/-- A bool, what it tells, and the world as it was. -/
def TellsQ (p : Prop) (w : World) (e : Ending) (w' : World) : Prop := ∃ b, e = .returned (.bool b) ∧ (b = true ↔ p) ∧ w = w'
end Go.Proofs.YtojbjaklngdlcaaGreatDoor
