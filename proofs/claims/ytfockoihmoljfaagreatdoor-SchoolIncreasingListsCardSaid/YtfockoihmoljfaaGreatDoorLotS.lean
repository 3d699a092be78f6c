/-
  Words that the walks share: SchP, SchR, LookP.
-/
import Derived.Test.YtfockoihmoljfaaGreatDoorLotA
/-
  Schools: what they are, and when one is valid; no program in sight.
-/
namespace Go.Proofs.YtfockoihmoljfaaGreatDoor.Sc
set_option linter.unusedVariables false

structure Slo where
  name : List UInt8
  day : Int
  hour : Int
structure Roo where
  name : List UInt8
  house : Int
  seats : Int
  shut : List Int
structure Per where
  name : List UInt8
  away : List Int
structure Gro where
  name : List UInt8
  size : Int
structure Les where
  name : List UInt8
  who : List Int
  groups : List Int
structure Sch where
  slots : List Slo
  rooms : List Roo
  people : List Per
  groups : List Gro
  lessons : List Les

/-- The reserved words, each between blanks. -/
def reserved : List UInt8 := [32, 104, 97, 114, 100, 32, 115, 111, 102, 116, 32, 101, 97, 99, 104, 32, 97, 108, 108, 32, 115, 111, 109, 101, 32, 108, 101, 97, 115, 116, 32, 109, 111, 115, 116, 32, 116, 114, 117, 101, 32, 102, 97, 108, 115, 101, 32, 97, 116, 32, 105, 110, 32, 116, 101, 97, 99, 104, 101, 115, 32, 97, 116, 116, 101, 110, 100, 115, 32, 97, 119, 97, 121, 32, 115, 104, 117, 116, 32, 100, 97, 121, 32, 104, 111, 117, 114, 32, 104, 111, 117, 115, 101, 32, 115, 101, 97, 116, 115, 32, 115, 105, 122, 101, 32, 108, 101, 115, 115, 111, 110, 32, 115, 108, 111, 116, 32, 114, 111, 111, 109, 32, 112, 101, 114, 115, 111, 110, 32, 103, 114, 111, 117, 112, 32]
def inner (c : UInt8) : Bool := (decide (97 ≤ c.toNat) && decide (c.toNat ≤ 122)) || ((decide (48 ≤ c.toNat) && decide (c.toNat ≤ 57)) || decide (c.toNat = 95))
/-- The text x stands in the text l. -/
def standsIn (l x : List UInt8) : Prop := ∃ i, i + x.length ≤ l.length ∧ (l.drop i).take x.length = x
/-- A name. -/
def nameOk (s : List UInt8) : Prop := (∃ c r, s = c :: r ∧ 97 ≤ c.toNat) ∧ s.length ≤ 64 ∧ (∀ c ∈ s, inner c = true) ∧ ¬ standsIn reserved (32 :: (s ++ [32]))
def numbered (word : List UInt8) (n : Nat) : List (List UInt8) := (List.range n).map fun i => word ++ [UInt8.ofNat (48 + i)]
def days : List (List UInt8) := numbered [100, 97, 121] 7
def houses : List (List UInt8) := numbered [104, 111, 117, 115, 101] 8
/-- The names of the elements of a sort. -/
def names (s : Sch) (k : Int) : List (List UInt8) :=
  if k = 1 then s.lessons.map (·.name) else if k = 2 then s.slots.map (·.name) else if k = 3 then s.rooms.map (·.name) else if k = 4 then s.people.map (·.name) else if k = 5 then s.groups.map (·.name) else if k = 6 then days else if k = 7 then houses else []
/-- Names, no two alike. -/
def namesOk (l : List (List UInt8)) : Prop := (∀ x ∈ l, nameOk x) ∧ l.Nodup
/-- A strictly increasing list of indices below n. -/
def incr (l : List Int) (n : Nat) : Prop := l.Pairwise (· < ·) ∧ ∀ x ∈ l, 0 ≤ x ∧ x < (n : Int)
def within (x : Int) (m : Int) : Prop := 0 ≤ x ∧ x ≤ m
def timesOk (l : List Slo) : Prop := (∀ x ∈ l, within x.day 6 ∧ within x.hour 11) ∧ (l.map fun x => (x.day, x.hour)).Nodup
def roomOk (n : Nat) (x : Roo) : Prop := within x.house 7 ∧ within x.seats 1000 ∧ incr x.shut n
def lessonOk (p g : Nat) (x : Les) : Prop := incr x.who p ∧ incr x.groups g
def restOk (s : Sch) : Prop :=
  s.slots ≠ [] ∧ s.rooms ≠ [] ∧ (∀ x ∈ s.rooms, roomOk s.slots.length x) ∧ (∀ x ∈ s.people, incr x.away s.slots.length) ∧ (∀ x ∈ s.groups, within x.size 1000) ∧ ∀ x ∈ s.lessons, lessonOk s.people.length s.groups.length x
/-- Valid, but for the limits. -/
def May (s : Sch) : Prop := (∀ k : Int, 1 ≤ k → k ≤ 5 → namesOk (names s k)) ∧ timesOk s.slots ∧ restOk s
def Big (s : Sch) : Prop := 50 < s.slots.length ∨ 32 < s.rooms.length ∨ 64 < s.people.length ∨ 64 < s.groups.length ∨ 64 < s.lessons.length
open Classical in
/-- What Check answers. -/
noncomputable def chk (s : Sch) : Int := if ¬ May s then 1 else if Big s then 2 else 0
theorem chk_ok {s : Sch} : chk s = 0 ↔ May s ∧ ¬ Big s := by
  unfold chk
  by_cases h1 : May s
  · by_cases h2 : Big s <;> simp [h1, h2]
  · simp [h1]
theorem chk_bad {s : Sch} (h : ¬ May s) : chk s = 1 := by unfold chk; rw [if_pos h]
theorem chk_big {s : Sch} (h : May s) (h' : Big s) : chk s = 2 := by unfold chk; rw [if_neg (fun hh => hh h), if_pos h']
theorem chk_good {s : Sch} (h : May s) (h' : ¬ Big s) : chk s = 0 := chk_ok.2 ⟨h, h'⟩

/-! Lists, step by step. -/
theorem incr_nil (n : Nat) : incr [] n := ⟨List.Pairwise.nil, by simp⟩
theorem incr_take {l : List Int} {n : Nat} (h : incr l n) (k : Nat) : incr (l.take k) n := ⟨h.1.take, fun x hx => h.2 x (List.mem_of_mem_take hx)⟩
/-- One more index. -/
theorem incr_snoc {l : List Int} {n : Nat} {x : Int} : incr (l ++ [x]) n ↔ incr l n ∧ (l.getLast?.getD (-1)) < x ∧ x < (n : Int) := by
  constructor
  · rintro ⟨h1, h2⟩
    obtain ⟨p1, _, p3⟩ := List.pairwise_append.1 h1
    have hx := h2 x (by simp)
    refine ⟨⟨p1, fun y hy => h2 y (by simp [hy])⟩, ?_, hx.2⟩
    cases hl : l.getLast? with
    | none => simp; omega
    | some y =>
      have hy : y ∈ l := List.mem_of_getLast? hl
      simp only [Option.getD_some]
      exact p3 y hy x (by simp)
  · rintro ⟨⟨h1, h2⟩, h3, h4⟩
    have hall : ∀ y ∈ l, y < x := by
      intro y hy
      obtain ⟨i, hi, rfl⟩ := List.getElem_of_mem hy
      have hne : l ≠ [] := fun e => by subst e; simp at hi
      rw [List.getLast?_eq_some_getLast hne] at h3
      simp only [Option.getD_some] at h3
      rw [List.getLast_eq_getElem] at h3
      rcases Nat.lt_or_ge i (l.length - 1) with hlt | hge
      · have := List.pairwise_iff_getElem.1 h1 i (l.length - 1) hi (by omega) hlt
        omega
      · have : i = l.length - 1 := by omega
        subst this
        exact h3
    refine ⟨List.pairwise_append.2 ⟨h1, by simp, fun y hy z hz => by rw [List.mem_singleton] at hz; subst hz; exact hall y hy⟩, fun y hy => ?_⟩
    rcases List.mem_append.1 hy with hy | hy
    · exact h2 y hy
    · rw [List.mem_singleton] at hy
      subst hy
      refine ⟨?_, h4⟩
      cases hl : l.getLast? with
      | none => rw [hl] at h3; simp at h3; omega
      | some z =>
        rw [hl] at h3
        simp only [Option.getD_some] at h3
        have := (h2 z (List.mem_of_getLast? hl)).1
        omega
theorem incr_stop {l : List Int} {n i : Nat} (hi : i < l.length) (h : ¬ (((l.take i).getLast?.getD (-1)) < l[i] ∧ l[i] < (n : Int))) : ¬ incr l n := by
  intro hh
  have h1 := incr_take hh (i + 1)
  rw [List.take_succ_eq_append_getElem hi, incr_snoc] at h1
  exact h ⟨h1.2.1, h1.2.2⟩
theorem incr_go {l : List Int} {n i : Nat} (hi : i < l.length) (h0 : incr (l.take i) n) (h : ((l.take i).getLast?.getD (-1)) < l[i] ∧ l[i] < (n : Int)) : incr (l.take (i + 1)) n := by
  rw [List.take_succ_eq_append_getElem hi, incr_snoc]
  exact ⟨h0, h.1, h.2⟩
theorem last_step {l : List Int} {i : Nat} (hi : i < l.length) : (l.take (i + 1)).getLast?.getD (-1) = l[i] := by
  rw [List.take_succ_eq_append_getElem hi, List.getLast?_append]; rfl

theorem nodup_snoc {α : Type} {l : List α} {x : α} : (l ++ [x]).Nodup ↔ l.Nodup ∧ x ∉ l := by
  rw [List.nodup_append]
  constructor
  · rintro ⟨h1, _, h3⟩
    exact ⟨h1, fun hx => h3 x hx x (by simp) rfl⟩
  · rintro ⟨h1, h2⟩
    exact ⟨h1, by simp, fun a ha b hb e => by rw [List.mem_singleton] at hb; subst hb; subst e; exact h2 ha⟩
theorem nodup_take {α : Type} {l : List α} (h : l.Nodup) (k : Nat) : (l.take k).Nodup := h.sublist (List.take_sublist k l)
theorem namesOk_take {l : List (List UInt8)} (h : namesOk l) (k : Nat) : namesOk (l.take k) := ⟨fun x hx => h.1 x (List.mem_of_mem_take hx), nodup_take h.2 k⟩
theorem namesOk_step {l : List (List UInt8)} {i : Nat} (hi : i < l.length) : namesOk (l.take (i + 1)) ↔ namesOk (l.take i) ∧ nameOk l[i] ∧ l[i] ∉ l.take i := by
  rw [List.take_succ_eq_append_getElem hi]
  unfold namesOk
  rw [nodup_snoc]
  constructor
  · rintro ⟨h1, h2, h3⟩
    exact ⟨⟨fun x hx => h1 x (List.mem_append_left _ hx), h2⟩, h1 _ (List.mem_append_right _ (List.mem_singleton.2 rfl)), h3⟩
  · rintro ⟨⟨h1, h2⟩, h3, h4⟩
    refine ⟨fun x hx => ?_, h2, h4⟩
    rcases List.mem_append.1 hx with hx | hx
    · exact h1 x hx
    · rw [List.mem_singleton] at hx; subst hx; exact h3
theorem timesOk_take {l : List Slo} (h : timesOk l) (k : Nat) : timesOk (l.take k) := ⟨fun x hx => h.1 x (List.mem_of_mem_take hx), by rw [List.map_take]; exact nodup_take h.2 k⟩
theorem timesOk_step {l : List Slo} {i : Nat} (hi : i < l.length) : timesOk (l.take (i + 1)) ↔ timesOk (l.take i) ∧ within l[i].day 6 ∧ within l[i].hour 11 ∧ (l[i].day, l[i].hour) ∉ (l.take i).map fun x => (x.day, x.hour) := by
  rw [List.take_succ_eq_append_getElem hi]
  unfold timesOk
  rw [List.map_append, show (List.map (fun x : Slo => (x.day, x.hour)) [l[i]]) = [(l[i].day, l[i].hour)] from rfl, nodup_snoc]
  constructor
  · rintro ⟨h1, h2, h3⟩
    have := h1 l[i] (List.mem_append_right _ (List.mem_singleton.2 rfl))
    exact ⟨⟨fun x hx => h1 x (List.mem_append_left _ hx), h2⟩, this.1, this.2, h3⟩
  · rintro ⟨⟨h1, h2⟩, h3, h4, h5⟩
    refine ⟨fun x hx => ?_, h2, h5⟩
    rcases List.mem_append.1 hx with hx | hx
    · exact h1 x hx
    · rw [List.mem_singleton] at hx; subst hx; exact ⟨h3, h4⟩
end Go.Proofs.YtfockoihmoljfaaGreatDoor.Sc

/-
  How a school lies in memory.
-/
namespace Go.Proofs.YtfockoihmoljfaaGreatDoor
open Go.RowKit
set_option linter.unusedVariables false
namespace Sc
def okT (s : List UInt8) : Prop := s.length ≤ 9223372036854775807
def RSlo (w : World) (B : Nat) (x : Slo) (r : List Value) : Prop := r = [.string (strOf x.name), .int .i64 x.day, .int .i64 x.hour] ∧ okT x.name ∧ okI x.day ∧ okI x.hour
def RRoo (w : World) (B : Nat) (x : Roo) (r : List Value) : Prop := ∃ A c, r = [.string (strOf x.name), .int .i64 x.house, .int .i64 x.seats, .slice A x.shut.length c] ∧ RdI w B A x.shut.length c x.shut ∧ okT x.name ∧ okI x.house ∧ okI x.seats
def RPer (w : World) (B : Nat) (x : Per) (r : List Value) : Prop := ∃ A c, r = [.string (strOf x.name), .slice A x.away.length c] ∧ RdI w B A x.away.length c x.away ∧ okT x.name
def RGro (w : World) (B : Nat) (x : Gro) (r : List Value) : Prop := r = [.string (strOf x.name), .int .i64 x.size] ∧ okT x.name ∧ okI x.size
def RLes (w : World) (B : Nat) (x : Les) (r : List Value) : Prop := ∃ A c A' c', r = [.string (strOf x.name), .slice A x.who.length c, .slice A' x.groups.length c'] ∧ RdI w B A x.who.length c x.who ∧ RdI w B A' x.groups.length c' x.groups ∧ okT x.name
theorem lasts_Slo : Lasts RSlo := ⟨fun h _ => h, fun h _ => h⟩
theorem lasts_Gro : Lasts RGro := ⟨fun h _ => h, fun h _ => h⟩
theorem lasts_Roo : Lasts RRoo := ⟨fun ⟨A, c, e, h, r⟩ hb => ⟨A, c, e, h.below hb, r⟩, fun ⟨A, c, e, h, r⟩ hB => ⟨A, c, e, h.more hB, r⟩⟩
theorem lasts_Per : Lasts RPer := ⟨fun ⟨A, c, e, h, r⟩ hb => ⟨A, c, e, h.below hb, r⟩, fun ⟨A, c, e, h, r⟩ hB => ⟨A, c, e, h.more hB, r⟩⟩
theorem lasts_Les : Lasts RLes := ⟨fun ⟨A, c, A', c', e, h, h', r⟩ hb => ⟨A, c, A', c', e, h.below hb, h'.below hb, r⟩, fun ⟨A, c, A', c', e, h, h', r⟩ hB => ⟨A, c, A', c', e, h.more hB, h'.more hB, r⟩⟩
/-- A school's five slices. -/
structure Five where
  aS : Option Addr
  nS : Nat
  cS : Nat
  aR : Option Addr
  nR : Nat
  cR : Nat
  aP : Option Addr
  nP : Nat
  cP : Nat
  aG : Option Addr
  nG : Nat
  cG : Nat
  aL : Option Addr
  nL : Nat
  cL : Nat
def Five.vals (f : Five) : Array Value := #[.slice f.aS f.nS f.cS, .slice f.aR f.nR f.cR, .slice f.aP f.nP f.cP, .slice f.aG f.nG f.cG, .slice f.aL f.nL f.cL]
/-- The school s lies in the five slices f. -/
structure RdSch (w : World) (B : Nat) (f : Five) (s : Sch) : Prop where
  slots : RdS 3 RSlo w B f.aS f.nS f.cS s.slots
  rooms : RdS 4 RRoo w B f.aR f.nR f.cR s.rooms
  people : RdS 2 RPer w B f.aP f.nP f.cP s.people
  groups : RdS 2 RGro w B f.aG f.nG f.cG s.groups
  lessons : RdS 3 RLes w B f.aL f.nL f.cL s.lessons
section
variable {w w' : World} {B B' : Nat} {f : Five} {s : Sch}
theorem RdSch.below (h : RdSch w B f s) (hb : Below B w w') : RdSch w' B f s := ⟨h.slots.below lasts_Slo hb, h.rooms.below lasts_Roo hb, h.people.below lasts_Per hb, h.groups.below lasts_Gro hb, h.lessons.below lasts_Les hb⟩
theorem RdSch.more (h : RdSch w B f s) (hB : B ≤ B') : RdSch w B' f s := ⟨h.slots.more lasts_Slo hB, h.rooms.more lasts_Roo hB, h.people.more lasts_Per hB, h.groups.more lasts_Gro hB, h.lessons.more lasts_Les hB⟩
end
end Sc
/-- A bool, what it tells, and the world as it was. -/
def TellsQ (p : Prop) (w : World) (e : Ending) (w' : World) : Prop := ∃ b, e = .returned (.bool b) ∧ (b = true ↔ p) ∧ w = w'
end Go.Proofs.YtfockoihmoljfaaGreatDoor

/-
  Looking up names: plain words, no program in sight.
-/
namespace Go.Proofs.YtfockoihmoljfaaGreatDoor
theorem all_done2 {α : Type} {p : α → Prop} {l : List α} {j : Nat} (h : ∀ x ∈ l.take j, p x) (hj : l.length ≤ j) : ∀ x ∈ l, p x := by rwa [List.take_of_length_le hj] at h
namespace Sc
/-- The name at an index; none beyond. -/
def nameAt (l : List (List UInt8)) (x : Int) : List UInt8 := if 0 ≤ x then l.getD x.toNat [] else []
theorem nameAt_no {l : List (List UInt8)} {x : Int} (h : x < 0 ∨ (l.length : Int) ≤ x) : nameAt l x = [] := by
  unfold nameAt
  split
  · rw [List.getD_eq_getElem?_getD, List.getElem?_eq_none (by omega)]; rfl
  · rfl
theorem nameAt_yes {l : List (List UInt8)} {j : Nat} (h : j < l.length) : nameAt l (j : Int) = l[j] := by
  unfold nameAt
  rw [if_pos (by omega), Int.toNat_natCast, List.getD_eq_getElem?_getD, List.getElem?_eq_getElem h]; rfl
/-- The first index of a name, and whether there is one. -/
def findR (l : List (List UInt8)) (x : List UInt8) : Int × Bool := if x ∈ l then ((l.idxOf x : Nat), true) else (0, false)
theorem findR_no {l : List (List UInt8)} {x : List UInt8} (h : ∀ y ∈ l, y ≠ x) : findR l x = (0, false) := if_neg fun hx => h x hx rfl
theorem idxOf_first : ∀ {l : List (List UInt8)} {x : List UInt8} {j : Nat} (h : j < l.length), (∀ y ∈ l.take j, y ≠ x) → l[j] = x → l.idxOf x = j
  | y :: r, x, 0, h, _, e => by
    simp only [List.getElem_cons_zero] at e
    subst e
    rw [List.idxOf_cons_self]
  | y :: r, x, j + 1, h, ha, e => by
    have hy : y ≠ x := ha y (by simp)
    have := idxOf_first (l := r) (x := x) (j := j) (by simpa using h) (fun z hz => ha z (by simp [hz])) (by simpa using e)
    have h2 : (y == x) = false := by simpa using hy
    rw [List.idxOf_cons, this, h2]; rfl
theorem findR_yes {l : List (List UInt8)} {x : List UInt8} {j : Nat} (h : j < l.length) (ha : ∀ y ∈ l.take j, y ≠ x) (e : l[j] = x) : findR l x = ((j : Int), true) := by
  unfold findR
  rw [if_pos (e ▸ List.getElem_mem h), idxOf_first h ha e]
end Sc
end Go.Proofs.YtfockoihmoljfaaGreatDoor

