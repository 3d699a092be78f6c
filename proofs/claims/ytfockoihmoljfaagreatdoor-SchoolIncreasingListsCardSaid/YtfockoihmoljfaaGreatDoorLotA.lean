/-
  Words that the walks share: Mem, Ext, Places, Range, RangeT, RangeB, RdI, RdS, Words, Marks, MapSet, Grow, Stage, Round, Tree, Fix, FixR, FixX, PlanG, Trod, TrodS, Tied.
-/
import Derived.WalkKit
import Derived.Below
import Derived.Laws.OwnMore
import Derived.Maps.AppendAt
import Derived.Deep.AppendLies
import Derived.Deep.Draws
import Derived.Lib.Hide
import Derived.OwnWalk
import Derived.Deep.QuietTactic
import Derived.BigQuiet
import Derived.Test.YtfockoihmoljfaaGreatDoorProg
import Derived.KernelRfl
import Derived.RangeFuncBox
import Derived.RangeFuncLeaves
import Derived.RangeFuncCalls
import Derived.RangeFuncBound
import Derived.Shelf.Abstract
import Derived.OwnWalkIn
import Derived.TacticsInMore
import Derived.LoopNIn
import Derived.LoopIn
import Derived.Maps.Own
import Derived.Maps.OwnSet
import Derived.OrdersHeld
import Derived.OrdersIn
import Derived.ChangeArms
import Derived.WideShapes
import Derived.ChangeShapes
import Derived.SizedLaws
import Derived.HandedShaped
import Derived.Lay
import Derived.MakeChecks
import Derived.Stop.Joined
import Derived.Shelf.Vars
/-
  Words for memory, over whatever program: a slice that reads as a list of one-cell values (nil let in), a row that a call owns, what 'Below' keeps of them.
-/
namespace Go.Proofs.YtfockoihmoljfaaGreatDoor
open Go.RowKit

theorem add_block (a : Addr) (n : Nat) : (a.add n).block = a.block := by unfold Addr.add; split <;> rfl
theorem add_add' (a : Addr) (i j : Nat) : (a.add i).add j = a.add (i + j) := by
  unfold Addr.add
  by_cases hi : i = 0 <;> by_cases hj : j = 0 <;> simp [hi, hj, Nat.add_assoc]
theorem add_zero' (a : Addr) : a.add 0 = a := by unfold Addr.add; simp
theorem add_lit0 (g j : Nat) : (⟨g, 0, none⟩ : Addr).add j = ⟨g, j, none⟩ := by unfold Addr.add; split <;> simp_all

/-- The slice value '.slice A n c' reads as the cells xs, and lies below block B. -/
def Rd (w : World) (B : Nat) (A : Option Addr) (n c : Nat) (xs : List Value) : Prop :=
  xs.length = n ∧ n ≤ c ∧ c ≤ maxLen ∧ (0 < n → ∃ ad, A = some ad ∧ ad.block < B ∧ ∀ j u, xs[j]? = some u → w.cell? (ad.add j) = some u)

/-- A byte as a cell. -/
def bcell (c : UInt8) : Value := .int .u8 (c.toNat : Int)
def bv (l : List UInt8) : List Value := l.map bcell
theorem bv_length (l : List UInt8) : (bv l).length = l.length := List.length_map _
theorem bv_append (l r : List UInt8) : bv (l ++ r) = bv l ++ bv r := List.map_append
theorem bv_take (l : List UInt8) (k : Nat) : (bv l).take k = bv (l.take k) := by unfold bv; rw [List.map_take]
theorem bv_drop (l : List UInt8) (k : Nat) : (bv l).drop k = bv (l.drop k) := by unfold bv; rw [List.map_drop]
theorem bv_set (l : List UInt8) (k : Nat) (c : UInt8) : (bv l).set k (bcell c) = bv (l.set k c) := by unfold bv; rw [List.map_set]
theorem bv_nil : bv [] = [] := rfl
theorem bv_one (l : List UInt8) : ∀ u ∈ bv l, u.oneCell' = true := by
  intro u hu
  simp only [bv, List.mem_map] at hu
  obtain ⟨c, _, rfl⟩ := hu
  rfl
theorem bcell_inj {a b : UInt8} (h : bcell a = bcell b) : a = b := by
  unfold bcell at h
  injection h with _ h
  exact UInt8.toNat_inj.1 (by omega)
theorem bv_inj {l r : List UInt8} (h : bv l = bv r) : l = r := by
  unfold bv at h
  exact List.map_inj_right (fun _ _ => bcell_inj) |>.1 h

/-- The slice value '.slice A n c' reads as the bytes l. -/
def RdB (w : World) (B : Nat) (A : Option Addr) (n c : Nat) (l : List UInt8) : Prop := Rd w B A n c (bv l)

section
variable {w w' : World} {B B' : Nat} {A : Option Addr} {n c : Nat} {xs : List Value} {l : List UInt8}

theorem Rd.keep (h : Rd w B A n c xs) (hk : ∀ p : Addr, p.block < B → w'.cell? p = w.cell? p) : Rd w' B A n c xs :=
  ⟨h.1, h.2.1, h.2.2.1, fun hn => by
    obtain ⟨ad, e, hb, hc⟩ := h.2.2.2 hn
    exact ⟨ad, e, hb, fun j u hu => (hk _ (by rw [add_block]; exact hb)).trans (hc j u hu)⟩⟩
theorem Rd.more (h : Rd w B A n c xs) (hB : B ≤ B') : Rd w B' A n c xs :=
  ⟨h.1, h.2.1, h.2.2.1, fun hn => by
    obtain ⟨ad, e, hb, hc⟩ := h.2.2.2 hn
    exact ⟨ad, e, by omega, hc⟩⟩
theorem Rd.below (h : Rd w B A n c xs) (hb : Below B w w') : Rd w' B A n c xs := h.keep fun _ hp => hb.cell hp
theorem Rd.drew (h : Rd w B A n c xs) : Rd w.drew B A n c xs := h
theorem Rd.drewN (h : Rd w B A n c xs) (k : Nat) : Rd (w.drewN k) B A n c xs := h
theorem Rd.alloc (h : Rd w B A n c xs) (hB : B ≤ w.heap.size) (o : Obj) : Rd (w.alloc o) B A n c xs := h.keep fun p hp => World.cell?_alloc_lt w o p (by omega)
theorem Rd.setCell (h : Rd w B A n c xs) {p : Addr} (hB : B ≤ p.block) (u : Value) : Rd (w.setCell p u) B A n c xs :=
  h.keep fun q hq => World.cell?_setCell_other w p q u (fun e => by subst e; omega)
theorem Rd.grown (h : Rd w B A n c xs) {row : Option Nat} (hg : w.grownBy w' row) (hB : B ≤ w.heap.size) (hr : ∀ g, row = some g → B ≤ g) : Rd w' B A n c xs :=
  h.keep fun p hp => World.cell?_of_block (hg.block p.block (by omega) (fun e => by have := hr _ e.symm; omega))
theorem Rd.len (h : Rd w B A n c xs) : xs.length = n := h.1
theorem Rd.le (h : Rd w B A n c xs) : n ≤ c := h.2.1
theorem Rd.max (h : Rd w B A n c xs) : c ≤ 9223372036854775807 := h.2.2.1
theorem Rd.nil (w : World) (B : Nat) : Rd w B none 0 0 [] := ⟨rfl, Nat.le_refl _, by unfold maxLen; omega, fun h => absurd h (by omega)⟩
theorem Rd.at_ (h : Rd w B A n c xs) {k : Nat} (hk : k < n) : ∃ ad u, A = some ad ∧ ad.block < B ∧ xs[k]? = some u ∧ w.cell? (ad.add k) = some u := by
  obtain ⟨ad, e, hb, hc⟩ := h.2.2.2 (by omega)
  have hl : k < xs.length := by have := h.1; omega
  exact ⟨ad, xs[k], e, hb, List.getElem?_eq_getElem hl, hc k _ (List.getElem?_eq_getElem hl)⟩
/-- A cut 's[k:]' (the model's own if on the capacity). -/
theorem Rd.cut (h : Rd w B A n c xs) {k : Nat} (hk : k ≤ n) : Rd w B (if c = k then A else A.map (·.add k)) (n - k) (c - k) (xs.drop k) := by
  refine ⟨by rw [List.length_drop, h.1], by have := h.le; omega, by have := h.2.2.1; omega, fun hn => ?_⟩
  obtain ⟨ad, rfl, hb, hcell⟩ := h.2.2.2 (by omega)
  rw [if_neg (by have := h.le; omega)]
  refine ⟨ad.add k, rfl, by rw [add_block]; exact hb, fun j u hu => ?_⟩
  rw [add_add']
  exact hcell _ u (by rw [← hu, List.getElem?_drop])
/-- A cut 's[:k]'. -/
theorem Rd.upto (h : Rd w B A n c xs) {k : Nat} (hk : k ≤ n) : Rd w B A k c (xs.take k) := by
  refine ⟨by rw [List.length_take, h.1]; omega, by have := h.le; omega, h.2.2.1, fun hn => ?_⟩
  obtain ⟨ad, rfl, hb, hcell⟩ := h.2.2.2 (by omega)
  refine ⟨ad, rfl, hb, fun j u hu => hcell j u ?_⟩
  rw [List.getElem?_take] at hu
  split at hu
  · exact hu
  · cases hu
theorem RdB.at_ (h : RdB w B A n c l) {k : Nat} (hk : k < n) (hl : k < l.length) : ∃ ad, A = some ad ∧ ad.block < B ∧ w.cell? (ad.add k) = some (.int .u8 (l[k].toNat : Int)) := by
  obtain ⟨ad, u, e, hb, hu, hc⟩ := Rd.at_ h hk
  refine ⟨ad, e, hb, hc.trans ?_⟩
  rw [← hu]; simp [bv, bcell, hl]
theorem RdB.len (h : RdB w B A n c l) : l.length = n := by have := h.1; rwa [bv_length] at this
theorem RdB.le (h : RdB w B A n c l) : n ≤ c := Rd.le h
theorem RdB.max (h : RdB w B A n c l) : c ≤ 9223372036854775807 := Rd.max h
theorem RdB.below (h : RdB w B A n c l) (hb : Below B w w') : RdB w' B A n c l := Rd.below h hb
theorem RdB.drewN (h : RdB w B A n c l) (k : Nat) : RdB (w.drewN k) B A n c l := h
theorem RdB.more (h : RdB w B A n c l) (hB : B ≤ B') : RdB w B' A n c l := Rd.more h hB
theorem RdB.alloc (h : RdB w B A n c l) (hB : B ≤ w.heap.size) (o : Obj) : RdB (w.alloc o) B A n c l := Rd.alloc h hB o
theorem RdB.grown (h : RdB w B A n c l) {row : Option Nat} (hg : w.grownBy w' row) (hB : B ≤ w.heap.size) (hr : ∀ g, row = some g → B ≤ g) : RdB w' B A n c l := Rd.grown h hg hB hr
theorem RdB.cut (h : RdB w B A n c l) {k : Nat} (hk : k ≤ n) : RdB w B (if c = k then A else A.map (·.add k)) (n - k) (c - k) (l.drop k) := by
  have := Rd.cut h hk; rwa [bv_drop] at this
theorem RdB.upto (h : RdB w B A n c l) {k : Nat} (hk : k ≤ n) : RdB w B A k c (l.take k) := by
  have := Rd.upto h hk; rwa [bv_take] at this
theorem RdB.nil (w : World) (B : Nat) : RdB w B none 0 0 [] := Rd.nil w B

/-- What a call owns is a slice that reads. -/
theorem own_rd {base : Nat} {e : TypeId} {v : Value} (h : w.ownsRow base e 1 v n xs) : ∃ A c, v = .slice A n c ∧ Rd w w.heap.size A n c xs := by
  have h1 : xs.length = n := by have := h.1; omega
  rcases h.2 with ⟨rfl, rfl⟩ | ⟨g, cap, cur, rfl, _, hg, hnc, hcm, hcs, htake⟩
  · exact ⟨none, 0, rfl, h1, Nat.le_refl _, by unfold maxLen; omega, fun h => absurd h (by omega)⟩
  · exact ⟨some ⟨g, 0, none⟩, cap, rfl, h1, hnc, hcm, fun _ => ⟨⟨g, 0, none⟩, rfl, (Array.getElem?_eq_some_iff.1 hg).1, h.cells (g := g) rfl⟩⟩
theorem own_rdB {base : Nat} {e : TypeId} {v : Value} (h : w.ownsRow base e 1 v n (bv l)) : ∃ A c, v = .slice A n c ∧ RdB w w.heap.size A n c l := own_rd h
theorem own_below {base : Nat} {e : TypeId} {v : Value} {size : Nat} (h : w.ownsRow base e size v n xs) (hb : Below w.heap.size w w') : w'.ownsRow base e size v n xs := by
  refine ⟨h.1, ?_⟩
  rcases h.2 with hn | ⟨g, cap, cur, rfl, hbg, hgg, rest⟩
  · exact .inl hn
  · exact .inr ⟨g, cap, cur, rfl, hbg, (hb.block g (Array.getElem?_eq_some_iff.1 hgg).1).trans hgg, rest⟩
theorem own_mono {base base' : Nat} {e : TypeId} {v : Value} {size : Nat} (h : w.ownsRow base e size v n xs) (hb : base' ≤ base) : w.ownsRow base' e size v n xs := by
  refine ⟨h.1, ?_⟩
  rcases h.2 with hn | ⟨g, cap, cur, rfl, hbg, rest⟩
  · exact .inl hn
  · exact .inr ⟨g, cap, cur, rfl, by omega, rest⟩
theorem own_lt {base : Nat} {e : TypeId} {v : Value} {size : Nat} (h : w.ownsRow base e size v n xs) : ∀ g, v.ownBlock = some g → base ≤ g := fun g hg => (h.lt g hg).1

/-- A slice over a whole new block. -/
theorem Rd.newF (w : World) (cs : Array Value) (t : TypeId) (fr : Nat × Nat) (n : Nat) (hn : cs.size = n) (hm : n ≤ 9223372036854775807) : Rd (w.alloc (.cells cs t fr)) (w.heap.size + 1) (some ⟨w.heap.size, 0, none⟩) n n cs.toList :=
  ⟨by simpa using hn, Nat.le_refl _, by unfold maxLen; omega, fun _ => ⟨_, rfl, by simp, fun j u hu => by
    rw [add_lit0]
    rw [cell_of_row (w.alloc (.cells cs t fr)) w.heap.size j cs t fr (heap_alloc_new w _)]
    simpa using hu⟩⟩
theorem Rd.new (w : World) (cs : Array Value) (t : TypeId) (n : Nat) (hn : cs.size = n) (hm : n ≤ 9223372036854775807) : Rd (w.alloc (.cells cs t)) (w.heap.size + 1) (some ⟨w.heap.size, 0, none⟩) n n cs.toList := Rd.newF w cs t (0, 0) n hn hm

/-- What a slice's element type is in the program's table. -/
structure El (P : Program) (t e : TypeId) (z : Value) (bytes : Nat) : Prop where
  u : P.underlying t = some (.slice e)
  i : (P.info? e).map (fun i => (i.zero, i.size, i.bytes)) = some (some z, 1, bytes)
  one : z.cells.size = 1

section
variable {P : Program} {t e ty : TypeId} {z : Value} {bytes : Nat} {base : Nat} {v : Value} {m cm : Nat} {news : List Value} {Am : Option Addr}
theorem run_app (E : El P t e z bytes) (hown : w.ownsRow base e 1 v n xs) (hr : Rd w B Am m cm news) (h1 : ∀ u ∈ news, u.oneCell' = true)
    (hbytes : (n + m) * bytes ≤ 140737488355328) (h63 : n + m ≤ 140737488355328) (hbase : base ≤ w.heap.size) :
    ∃ v' w', (Builtin.append_ #[t, t] ty #[v, .slice Am m cm]).run P w = .ok v' w' ∧ w'.ownsRow base e 1 v' (n + m) (xs ++ news) ∧ w.grownBy w' v.ownBlock ∧
      (v'.ownBlock = v.ownBlock ∨ v'.ownBlock = some w.heap.size) := by
  obtain ⟨i, hi, hz0, hz1, hz2⟩ := info_parts E.i
  rcases Am with _ | ad
  · have hm : m = 0 := by
      rcases Nat.eq_zero_or_pos m with h0 | h0
      · exact h0
      · obtain ⟨ad, h, _⟩ := hr.2.2.2 h0
        cases h
    subst hm
    have hn : news = [] := List.eq_nil_of_length_eq_zero hr.1
    subst hn
    refine ⟨v, w, ?_, by simpa using hown, World.grownBy.refl w _, .inl rfl⟩
    rcases hown.2 with ⟨rfl, rfl⟩ | ⟨g, cap, cur, rfl, _, _, hnc, _⟩
    · simp [Builtin.append_, run_underlying E.u, sizeOf, typeInfo, hi, Builtin.lenOf, Builtin.firstCells]
    · simp [Builtin.append_, run_underlying E.u, sizeOf, typeInfo, hi, Builtin.lenOf, Builtin.firstCells, hnc, storeCells]
  · have hcells : ∀ j u, news[j]? = some u → w.cell? (ad.add j) = some u := by
      intro j u hu
      rcases Nat.eq_zero_or_pos m with h0 | h0
      · subst h0
        have hn : news = [] := List.eq_nil_of_length_eq_zero hr.1
        subst hn
        simp at hu
      · obtain ⟨ad', h, _, hc⟩ := hr.2.2.2 h0
        injection h with h
        subst h
        exact hc j u hu
    obtain ⟨v', w', hrun, h2, h3, _, h5⟩ := run_append_own_at (P := P) w base t ty e i z 1 bytes E.u hi hz0 hz1 hz2 E.one (by decide) v n xs hown ad m cm news (by rw [hr.1]; omega) hcells h1 (by unfold maxLen; omega) hbytes hbase
    exact ⟨v', w', hrun, h2, h3, h5⟩

/-- append onto a row of the call's own; the source nil, empty or not. -/
theorem wpList_app {ops : Array Oper} {rest : List Oper} {o : Oper} {a : Act} {Q : Exit → Act → World → Prop} (s x : Operand) (E : El P t e z bytes)
    (hown : w.ownsRow base e 1 v n xs) (hr : Rd w B Am m cm news) (h1 : ∀ u ∈ news, u.oneCell' = true)
    (hbytes : (n + m) * bytes ≤ 140737488355328) (h63 : n + m ≤ 140737488355328) (hbase : base ≤ w.heap.size) (hgd : o.guard = none)
    (ho : o.op = .call { callee := .builtin .append, args := #[s, x], argTypes := #[t, t] })
    (hs : a.eval s = v) (hx : a.eval x = .slice Am m cm)
    (h : ∀ v' w', w'.ownsRow base e 1 v' (n + m) (xs ++ news) → w.grownBy w' v.ownBlock → (v'.ownBlock = v.ownBlock ∨ v'.ownBlock = some w.heap.size) → wpList P ops Q rest (a.put o.dst v') w') :
    wpList P ops Q (o :: rest) a w := by
  refine wpList_plain hgd fun K hK => ?_
  obtain ⟨v', w', hrun, h2, h3, h4⟩ := run_app (ty := o.type) E hown hr h1 hbytes h63 hbase
  unfold Oper.wp execOp
  simp only [ho, resolve, invoke, builtin, Sem.run_bind, Sem.run_pure, Result.andThen_ok, List.map_toArray, List.map_cons, List.map_nil, hs, hx, hrun]
  exact hK _ _ (h v' w' h2 h3 h4)
end
theorem below_drewN' {B : Nat} {a : World} (h : Below B a w) (k : Nat) : Below B a (w.drewN k) := ⟨h.os, h.tape, h.output, h.size, h.block⟩
theorem below_cell {W w1 : World} (hb : Below W.heap.size W w1) : (∀ b o, b < W.heap.size → w1.cell? ⟨b, o, none⟩ = W.cell? ⟨b, o, none⟩) ∧ (∀ b o, b < W.heap.size → w1.frozen? ⟨b, o, none⟩ = W.frozen? ⟨b, o, none⟩) :=
  ⟨fun b o h => hb.cell (p := ⟨b, o, none⟩) h, fun b o h => hb.frozen (p := ⟨b, o, none⟩) h⟩
/-- A new block, then a growth: what was there before but for the row is kept. -/
theorem grownBy_of_alloc {o : Obj} {row : Option Nat} (h : (w.alloc o).grownBy w' row) : w.grownBy w' row :=
  ⟨h.os, h.tape, h.output, Nat.le_trans (by simp) h.size, fun k hk hne => (h.block k (by simp; omega) hne).trans (Below.heap_alloc w o k hk)⟩
theorem below_of_grown {row : Option Nat} {B : Nat} (h : w.grownBy w' row) (hB : B ≤ w.heap.size) (hr : ∀ g, row = some g → B ≤ g) : Below B w w' := (Below.refl B w).grown h hB hr
theorem below_of_alloc_grown {o : Obj} {row : Option Nat} (h : (w.alloc o).grownBy w' row) (hr : ∀ g, row = some g → w.heap.size ≤ g) : Below w.heap.size w w' :=
  below_of_grown (grownBy_of_alloc h) (Nat.le_refl _) hr
/-- A quiet call, for a contract that states 'w = w''. -/
theorem quiet_eq {P : Program} {f : FuncId} {args : Array Value} {k : Nat} {v : Value} (h : Calls P f args (w.drewN k) fun e w' => e = .returned v ∧ w.drewN k = w') :
    Calls P f args (w.drewN k) fun e w'' => e = .returned v ∧ ∃ m, w'' = w.drewN m := h.mono fun _ _ ⟨he, hm⟩ => ⟨he, k, hm.symm⟩
theorem quiet_add {P : Program} {f : FuncId} {args : Array Value} {k : Nat} {v : Value} (h : Calls P f args (w.drewN k) fun e w' => e = .returned v ∧ ∃ m, w' = (w.drewN k).drewN m) :
    Calls P f args (w.drewN k) fun e w'' => e = .returned v ∧ ∃ m, w'' = w.drewN m := h.mono fun _ _ ⟨he, m, hm⟩ => ⟨he, k + m, by rw [hm, World.drewN_drewN]⟩
theorem ret_bool {a b : Bool} (h : a = b) : Ending.returned (.bool a) = .returned (.bool b) := by rw [h]
theorem ret_int {k : IntKind} {a b : Int} (h : a = b) : Ending.returned (.int k a) = .returned (.int k b) := by rw [h]
end
end Go.Proofs.YtfockoihmoljfaaGreatDoor

/-
  A region that draws its order, whose operations read or make new memory: one walk, in the text's order, over all worlds that keep what lay below block B.
-/
namespace Go.Proofs.YtfockoihmoljfaaGreatDoor
open Go.RowKit

/-- A later world: below block B all is as it was. -/
structure Ext (B : Nat) (w : World) where
  val : World
  ok : Below B w val

instance (B : Nat) (w : World) : Nonempty (Ext B w) := ⟨⟨w, Below.refl _ _⟩⟩

theorem wp_region_ext {P : Program} {id : Nat} {Q : Exit → Act → World → Prop} {a : Act} {w : World} {l : List Oper} (B : Nat) (hm : P.follows .mixedOrders = true) (hB : Region.lexB .any l.toArray = true)
    (h : wpQuiet P l.toArray (fun w' => ∃ x : Ext B w, w' = x.val) (fun a' => ∀ w', (∃ x : Ext B w, w' = x.val) → Q .normal a' w') l a) : (Code.region id l.toArray true).wp P Q a w :=
  wp_region_quiet (C := fun w' => ∃ x : Ext B w, w' = x.val) hm hB ⟨⟨_, (Below.refl _ _).drew⟩, rfl⟩ (by simpa using h)

theorem ext_call {P : Program} {f : FuncId} {args : Array Value} {B : Nat} {w : World} {x : Ext B w} {v : Value} (hB : B ≤ w.heap.size)
    (h : Calls P f args x.val fun e w' => e = .returned v ∧ Below x.val.heap.size x.val w') : Calls P f args x.val fun e w'' => e = .returned v ∧ ∃ y : Ext B w, w'' = y.val :=
  h.mono fun _ w'' ⟨he, hb⟩ => ⟨he, ⟨w'', x.ok.trans (hb.mono (Nat.le_trans hB x.ok.size))⟩, rfl⟩
theorem ext_call_eq {P : Program} {f : FuncId} {args : Array Value} {B : Nat} {w : World} {x : Ext B w} {v : Value}
    (h : Calls P f args x.val fun e w' => e = .returned v ∧ x.val = w') : Calls P f args x.val fun e w'' => e = .returned v ∧ ∃ y : Ext B w, w'' = y.val :=
  h.mono fun _ _ ⟨he, hb⟩ => ⟨he, x, hb.symm⟩
theorem ext_call_drew {P : Program} {f : FuncId} {args : Array Value} {B : Nat} {w : World} {x : Ext B w} {v : Value}
    (h : Calls P f args x.val fun e w' => e = .returned v ∧ ∃ m, w' = x.val.drewN m) : Calls P f args x.val fun e w'' => e = .returned v ∧ ∃ y : Ext B w, w'' = y.val :=
  h.mono fun _ w'' ⟨he, m, hb⟩ => ⟨he, ⟨w'', by rw [hb]; exact below_drewN' x.ok m⟩, rfl⟩
theorem Ext.cell {B : Nat} {w : World} (x : Ext B w) {p : Addr} (hp : p.block < B) : x.val.cell? p = w.cell? p := x.ok.cell hp
theorem RdB.ext {B : Nat} {w : World} {A : Option Addr} {n c : Nat} {l : List UInt8} (h : RdB w B A n c l) (x : Ext B w) (hB : B ≤ w.heap.size) : RdB x.val x.val.heap.size A n c l := (h.below x.ok).more (Nat.le_trans hB x.ok.size)

/-- append onto a row of the call's own, at a step of a region that draws its order. -/
theorem step_app {P : Program} {w : World} {t e : TypeId} {z : Value} {bytes base B n m cm : Nat} {v : Value} {xs news : List Value} {Am : Option Addr} {ops : Array Oper} {o : Oper} {a : Act} {K : Act → World → Prop} {Q : Exit → Act → World → Prop} {D : Prop} (s x : Operand) (E : El P t e z bytes)
    (hgd : o.guard = none) (ho : o.op = .call { callee := .builtin .append, args := #[s, x], argTypes := #[t, t] })
    (hs : a.eval s = v) (hx : a.eval x = .slice Am m cm)
    (hown : w.ownsRow base e 1 v n xs) (hr : Rd w B Am m cm news) (h1 : ∀ u ∈ news, u.oneCell' = true)
    (hbytes : (n + m) * bytes ≤ 140737488355328) (h63 : n + m ≤ 140737488355328) (hbase : base ≤ w.heap.size)
    (h : ∀ v' w', w'.ownsRow base e 1 v' (n + m) (xs ++ news) → w.grownBy w' v.ownBlock → (v'.ownBlock = v.ownBlock ∨ v'.ownBlock = some w.heap.size) → K (a.put o.dst v') w') :
    if Region.wanted o (yielded ops a.tmps) = true then Oper.wp P o a w K Q else D := by
  have hw : Region.wanted o (yielded ops a.tmps) = true := by simp [Region.wanted, hgd]
  rw [if_pos hw]
  obtain ⟨v', w', hrun, h2, h3, h4⟩ := run_app (ty := o.type) E hown hr h1 hbytes h63 hbase
  unfold Oper.wp execOp
  simp only [ho, resolve, invoke, builtin, Sem.run_bind, Sem.run_pure, Result.andThen_ok, List.map_toArray, List.map_cons, List.map_nil, hs, hx, hrun]
  exact h v' w' h2 h3 h4
/-- One new cell, for an append of one element. -/
theorem Rd.one (w : World) (u : Value) (t : TypeId) : Rd (w.alloc (.cells #[u] t)) (w.heap.size + 1) (some ⟨w.heap.size, 0, none⟩) 1 1 [u] := Rd.new w #[u] t 1 rfl (by omega)
theorem own_drew {w : World} {base n size : Nat} {e : TypeId} {v : Value} {xs : List Value} (h : w.ownsRow base e size v n xs) : w.drew.ownsRow base e size v n xs := h
theorem own_drewN {w : World} {base n size : Nat} {e : TypeId} {v : Value} {xs : List Value} (h : w.ownsRow base e size v n xs) (k : Nat) : (w.drewN k).ownsRow base e size v n xs := h
end Go.Proofs.YtfockoihmoljfaaGreatDoor

/-
  Slices of places: what they read as; feed's 'within', 'all' over places.
-/
namespace Go.Proofs.YtfockoihmoljfaaGreatDoor
open Go.RowKit
set_option linter.unusedVariables false
set_option linter.unusedSimpArgs false

theorem add_sub (a : Addr) (i j : Nat) : a.add (i + (j + 1)) = ⟨(a.add i).block, (a.add i).off + (j + 1), none⟩ := by
  unfold Addr.add
  by_cases hi : i = 0 <;> simp [hi, Nat.add_assoc]

/-- The slice value '.slice A n c' reads as n elements of k cells each, laid end to end, all below block B. -/
def RdK (k : Nat) (w : World) (B : Nat) (A : Option Addr) (n c : Nat) (xs : List Value) : Prop :=
  xs.length = n * k ∧ n ≤ c ∧ c ≤ maxLen ∧ (0 < n → ∃ ad, A = some ad ∧ ad.block < B ∧ ∀ (j : Nat) (u : Value), xs[j]? = some u → w.cell? (ad.add j) = some u)

section
variable {k : Nat} {w w' : World} {B B' : Nat} {A : Option Addr} {n c : Nat} {xs : List Value}
theorem RdK.keep (h : RdK k w B A n c xs) (hk : ∀ p : Addr, p.block < B → w'.cell? p = w.cell? p) : RdK k w' B A n c xs :=
  ⟨h.1, h.2.1, h.2.2.1, fun hn => by
    obtain ⟨ad, e, hb, hc⟩ := h.2.2.2 hn
    exact ⟨ad, e, hb, fun j u hu => (hk _ (by rw [add_block]; exact hb)).trans (hc j u hu)⟩⟩
theorem RdK.more (h : RdK k w B A n c xs) (hB : B ≤ B') : RdK k w B' A n c xs :=
  ⟨h.1, h.2.1, h.2.2.1, fun hn => by
    obtain ⟨ad, e, hb, hc⟩ := h.2.2.2 hn
    exact ⟨ad, e, by omega, hc⟩⟩
theorem RdK.below (h : RdK k w B A n c xs) (hb : Below B w w') : RdK k w' B A n c xs := h.keep fun _ hp => hb.cell hp
theorem RdK.drewN (h : RdK k w B A n c xs) (m : Nat) : RdK k (w.drewN m) B A n c xs := h
theorem RdK.len (h : RdK k w B A n c xs) : xs.length = n * k := h.1
theorem RdK.le (h : RdK k w B A n c xs) : n ≤ c := h.2.1
theorem RdK.max (h : RdK k w B A n c xs) : c ≤ 9223372036854775807 := h.2.2.1
theorem RdK.nil (k : Nat) (w : World) (B : Nat) : RdK k w B none 0 0 [] := ⟨by simp, Nat.le_refl _, by unfold maxLen; omega, fun h => absurd h (by omega)⟩
theorem RdK.upto (h : RdK k w B A n c xs) {m : Nat} (hm : m ≤ n) : RdK k w B A m c (xs.take (m * k)) := by
  refine ⟨by rw [List.length_take, h.1]; exact Nat.min_eq_left (Nat.mul_le_mul_right _ hm), by have := h.le; omega, h.2.2.1, fun hn => ?_⟩
  obtain ⟨ad, rfl, hb, hcell⟩ := h.2.2.2 (by omega)
  refine ⟨ad, rfl, hb, fun j u hu => hcell j u ?_⟩
  rw [List.getElem?_take] at hu
  split at hu
  · exact hu
  · cases hu
/-- A cut 's[m:]'. -/
theorem RdK.cut (h : RdK k w B A n c xs) {m : Nat} (hm : m ≤ n) : RdK k w B (if c = m then A else A.map (·.add (m * k))) (n - m) (c - m) (xs.drop (m * k)) := by
  refine ⟨by rw [List.length_drop, h.1, Nat.sub_mul], by have := h.le; omega, by have := h.2.2.1; omega, fun hn => ?_⟩
  obtain ⟨ad, rfl, hb, hcell⟩ := h.2.2.2 (by omega)
  rw [if_neg (by have := h.le; omega)]
  refine ⟨ad.add (m * k), rfl, by rw [add_block]; exact hb, fun j u hu => ?_⟩
  rw [add_add']
  exact hcell _ u (by rw [← hu, List.getElem?_drop])
/-- What a call owns is a slice that reads. -/
theorem own_rdK {base : Nat} {e : TypeId} {v : Value} (h : w.ownsRow base e k v n xs) : ∃ A c, v = .slice A n c ∧ RdK k w w.heap.size A n c xs := by
  have h1 : xs.length = n * k := h.1
  rcases h.2 with ⟨rfl, rfl⟩ | ⟨g, cap, cur, rfl, _, hg, hnc, hcm, hcs, htake⟩
  · exact ⟨none, 0, rfl, h1, Nat.le_refl _, by unfold maxLen; omega, fun h => absurd h (by omega)⟩
  · exact ⟨some ⟨g, 0, none⟩, cap, rfl, h1, hnc, hcm, fun _ => ⟨⟨g, 0, none⟩, rfl, (Array.getElem?_eq_some_iff.1 hg).1, h.cells (g := g) rfl⟩⟩
/-- A slice over a whole new block. -/
theorem RdK.new (k : Nat) (w : World) (cs : Array Value) (t : TypeId) (fr : Nat × Nat) (n : Nat) (hn : cs.size = n * k) (hm : n ≤ 9223372036854775807) : RdK k (w.alloc (.cells cs t fr)) (w.heap.size + 1) (some ⟨w.heap.size, 0, none⟩) n n cs.toList :=
  ⟨by simpa using hn, Nat.le_refl _, by unfold maxLen; omega, fun _ => ⟨_, rfl, by simp, fun j u hu => by
    rw [add_lit0]
    rw [cell_of_row (w.alloc (.cells cs t fr)) w.heap.size j cs t fr (heap_alloc_new w _)]
    simpa using hu⟩⟩
end

/-- What a slice's element type is in the program's table. -/
structure ElK (P : Program) (k : Nat) (t e : TypeId) (z : Value) (bytes : Nat) : Prop where
  u : P.underlying t = some (.slice e)
  i : (P.info? e).map (fun i => (i.zero, i.size, i.bytes)) = some (some z, k, bytes)
  one : z.cells.size = k
  pos : 0 < k

section
variable {P : Program} {t e ty : TypeId} {z : Value} {k bytes : Nat} {base B n c : Nat} {v : Value} {m cm : Nat} {xs news : List Value} {Am : Option Addr} {w : World}
theorem run_appK (E : ElK P k t e z bytes) (hown : w.ownsRow base e k v n xs) (hr : RdK k w B Am m cm news) (h1 : ∀ u ∈ news, u.oneCell' = true)
    (hbytes : (n + m) * bytes ≤ 140737488355328) (h63 : n + m ≤ 140737488355328) (hbase : base ≤ w.heap.size) :
    ∃ v' w', (Builtin.append_ #[t, t] ty #[v, .slice Am m cm]).run P w = .ok v' w' ∧ w'.ownsRow base e k v' (n + m) (xs ++ news) ∧ w.grownBy w' v.ownBlock ∧
      (v'.ownBlock = v.ownBlock ∨ v'.ownBlock = some w.heap.size) := by
  obtain ⟨i, hi, hz0, hz1, hz2⟩ := info_parts E.i
  rcases Am with _ | ad
  · have hm : m = 0 := by
      rcases Nat.eq_zero_or_pos m with h0 | h0
      · exact h0
      · obtain ⟨ad, h, _⟩ := hr.2.2.2 h0
        cases h
    subst hm
    have hn : news = [] := List.eq_nil_of_length_eq_zero (by have := hr.1; simpa using this)
    subst hn
    refine ⟨v, w, ?_, by simpa using hown, World.grownBy.refl w _, .inl rfl⟩
    rcases hown.2 with ⟨rfl, rfl⟩ | ⟨g, cap, cur, rfl, _, _, hnc, _⟩
    · simp [Builtin.append_, run_underlying E.u, sizeOf, typeInfo, hi, Builtin.lenOf, Builtin.firstCells]
    · simp [Builtin.append_, run_underlying E.u, sizeOf, typeInfo, hi, Builtin.lenOf, Builtin.firstCells, hnc, storeCells]
  · have hcells : ∀ j u, news[j]? = some u → w.cell? (ad.add j) = some u := by
      intro j u hu
      rcases Nat.eq_zero_or_pos m with h0 | h0
      · subst h0
        have hn : news = [] := List.eq_nil_of_length_eq_zero (by have := hr.1; simpa using this)
        subst hn
        simp at hu
      · obtain ⟨ad', h, _, hc⟩ := hr.2.2.2 h0
        injection h with h
        subst h
        exact hc j u hu
    obtain ⟨v', w', hrun, h2, h3, _, h5⟩ := run_append_own_at (P := P) w base t ty e i z k bytes E.u hi hz0 hz1 hz2 E.one E.pos v n xs hown ad m cm news hr.1 hcells h1 (by unfold maxLen; omega) hbytes hbase
    exact ⟨v', w', hrun, h2, h3, h5⟩

/-- append onto a row of the call's own; the source nil, empty or not; elements of k cells. -/
theorem wpList_appK {ops : Array Oper} {rest : List Oper} {o : Oper} {a : Act} {Q : Exit → Act → World → Prop} (s x : Operand) (E : ElK P k t e z bytes)
    (hown : w.ownsRow base e k v n xs) (hr : RdK k w B Am m cm news) (h1 : ∀ u ∈ news, u.oneCell' = true)
    (hbytes : (n + m) * bytes ≤ 140737488355328) (h63 : n + m ≤ 140737488355328) (hbase : base ≤ w.heap.size) (hgd : o.guard = none)
    (ho : o.op = .call { callee := .builtin .append, args := #[s, x], argTypes := #[t, t] })
    (hs : a.eval s = v) (hx : a.eval x = .slice Am m cm)
    (h : ∀ v' w', w'.ownsRow base e k v' (n + m) (xs ++ news) → w.grownBy w' v.ownBlock → (v'.ownBlock = v.ownBlock ∨ v'.ownBlock = some w.heap.size) → wpList P ops Q rest (a.put o.dst v') w') :
    wpList P ops Q (o :: rest) a w := by
  refine wpList_plain hgd fun K hK => ?_
  obtain ⟨v', w', hrun, h2, h3, h4⟩ := run_appK (ty := o.type) E hown hr h1 hbytes h63 hbase
  unfold Oper.wp execOp
  simp only [ho, resolve, invoke, builtin, Sem.run_bind, Sem.run_pure, Result.andThen_ok, List.map_toArray, List.map_cons, List.map_nil, hs, hx, hrun]
  exact hK _ _ (h v' w' h2 h3 h4)
end

/-- Elements of k cells each, laid end to end. -/
theorem flat_get {α : Type} {f : α → List Value} {k : Nat} (hf : ∀ x, (f x).length = k) (l : List α) (i j : Nat) (hi : i < l.length) (hj : j < k) : (l.flatMap f)[i * k + j]? = (f l[i])[j]? := by
  induction l generalizing i with
  | nil => simp at hi
  | cons x r ih =>
    cases i with
    | zero => rw [List.flatMap_cons, List.getElem?_append_left (by rw [hf]; omega)]; simp
    | succ i =>
      rw [List.flatMap_cons, List.getElem?_append_right (by rw [hf, Nat.succ_mul]; omega), hf, show (i + 1) * k + j - k = i * k + j by rw [Nat.succ_mul]; omega]
      simpa using ih i (by simpa using hi)
theorem flat_length {α : Type} {f : α → List Value} {k : Nat} (hf : ∀ x, (f x).length = k) (l : List α) : (l.flatMap f).length = l.length * k := by
  induction l with
  | nil => simp
  | cons x r ih => rw [List.flatMap_cons, List.length_append, hf, ih, List.length_cons, Nat.succ_mul]; omega
theorem flat_take {α : Type} {f : α → List Value} {k : Nat} (hf : ∀ x, (f x).length = k) (l : List α) (m : Nat) : (l.flatMap f).take (m * k) = (l.take m).flatMap f := by
  induction l generalizing m with
  | nil => simp
  | cons x r ih =>
    cases m with
    | zero => simp
    | succ m => rw [List.flatMap_cons, List.take_succ_cons, List.flatMap_cons, Nat.succ_mul, Nat.add_comm, List.take_append, hf, Nat.add_sub_cancel_left, ih, List.take_of_length_le (by rw [hf]; omega)]
theorem flat_drop {α : Type} {f : α → List Value} {k : Nat} (hf : ∀ x, (f x).length = k) (l : List α) (m : Nat) : (l.flatMap f).drop (m * k) = (l.drop m).flatMap f := by
  induction l generalizing m with
  | nil => simp
  | cons x r ih =>
    cases m with
    | zero => simp
    | succ m => rw [List.flatMap_cons, List.drop_succ_cons, Nat.succ_mul, Nat.add_comm, List.drop_append, hf, Nat.add_sub_cancel_left, ih, List.drop_of_length_le (by rw [hf]; omega)]; simp

/-- A place: slot, room. -/
abbrev Pl := Int × Int
def okI (z : Int) : Prop := -9223372036854775808 ≤ z ∧ z ≤ 9223372036854775807
def pcell (p : Pl) : List Value := [.int .i64 p.1, .int .i64 p.2]
theorem pcell_length (p : Pl) : (pcell p).length = 2 := rfl
def pv (l : List Pl) : List Value := l.flatMap pcell
theorem pv_append (l r : List Pl) : pv (l ++ r) = pv l ++ pv r := List.flatMap_append
theorem pv_one (l : List Pl) : ∀ u ∈ pv l, u.oneCell' = true := by
  intro u hu
  simp only [pv, List.mem_flatMap] at hu
  obtain ⟨p, _, hp⟩ := hu
  simp [pcell] at hp
  rcases hp with rfl | rfl <;> rfl
def okPs (l : List Pl) : Prop := ∀ p ∈ l, okI p.1 ∧ okI p.2
def RdP (w : World) (B : Nat) (A : Option Addr) (n c : Nat) (l : List Pl) : Prop := RdK 2 w B A n c (pv l) ∧ okPs l

section
variable {w w' : World} {B B' : Nat} {A : Option Addr} {n c : Nat} {l : List Pl}
theorem RdP.below (h : RdP w B A n c l) (hb : Below B w w') : RdP w' B A n c l := ⟨h.1.below hb, h.2⟩
theorem RdP.more (h : RdP w B A n c l) (hB : B ≤ B') : RdP w B' A n c l := ⟨h.1.more hB, h.2⟩
theorem RdP.drewN (h : RdP w B A n c l) (m : Nat) : RdP (w.drewN m) B A n c l := h
theorem RdP.len (h : RdP w B A n c l) : l.length = n := by have := h.1.len; rw [pv, flat_length pcell_length] at this; omega
theorem RdP.le (h : RdP w B A n c l) : n ≤ c := h.1.le
theorem RdP.max (h : RdP w B A n c l) : c ≤ 9223372036854775807 := h.1.max
theorem RdP.nil (w : World) (B : Nat) : RdP w B none 0 0 [] := ⟨RdK.nil 2 w B, by simp [okPs]⟩
theorem RdP.at_ (h : RdP w B A n c l) {i : Nat} (hi : i < n) (hl : i < l.length) : ∃ ad, A = some ad ∧ ad.block < B ∧ w.cell? (ad.add (i * 2)) = some (.int .i64 l[i].1) ∧ w.cell? ⟨(ad.add (i * 2)).block, (ad.add (i * 2)).off + 1, none⟩ = some (.int .i64 l[i].2) ∧ okI l[i].1 ∧ okI l[i].2 := by
  obtain ⟨ad, e, hb, hc⟩ := h.1.2.2.2 (by omega)
  have h0 := hc (i * 2 + 0) _ (by rw [pv, flat_get pcell_length l i 0 hl (by omega)]; rfl)
  have h1 := hc (i * 2 + 1) _ (by rw [pv, flat_get pcell_length l i 1 hl (by omega)]; rfl)
  exact ⟨ad, e, hb, h0, (add_sub ad (i * 2) 0) ▸ h1, h.2 _ (List.getElem_mem hl)⟩
end

/-- What 'all' answers. -/
def AllIs {α : Type} (f : Nat → α → Bool) (l : List α) (r : Bool) : Prop := r = true ↔ ∀ (k : Nat) (h : k < l.length), f k l[k] = true

end Go.Proofs.YtfockoihmoljfaaGreatDoor

/-
  A range over a function, at the wide fence: an iterator's contract (Iter) whose yielded values may lie in memory that it makes between two rounds, or in cells of its own; and the law for the loop.
-/
namespace Go.Proofs.YtfockoihmoljfaaGreatDoor
set_option linter.unusedVariables false
open Go.RowKit

/-- An iterator value (function g, captured lb), from the world w on: it calls yield at most m times, the i-th time with args that 'Y i' describes in the world of that call. 'St': what its own steps do to the world. 'Kp': what a round must keep for it. -/
def Iter (P : Program) (g : Nat) (lb : Array Value) (St Kp : World → World → Prop) (m : Nat) (Y : Nat → Array Value → World → Prop) (w : World) : Prop :=
  ∀ (l : Nat) (J Jx : Nat → World → Prop) (W : World), Kp w W →
    (∀ i A B, J i A → St A B → J i B) → (∀ i A B, Jx i A → St A B → Jx i B) →
    (∀ i args W1, i < m → J i W1 → Y i args W1 → YieldAt Fence.wide 1 P l args W1 fun e W' =>
      (e = .returned (.bool true) ∧ J (i + 1) W' ∧ Kp W1 W') ∨ (e = .returned (.bool false) ∧ Jx (i + 1) W')) →
    J 0 W →
    CallsIn Fence.wide 2 P g (#[.func (.yield l) #[] #[]] ++ lb) W fun e W' => (∃ v, e = .returned v) ∧ (J m W' ∨ ∃ i, i ≤ m ∧ Jx i W')

/-- How a round's body may be left. -/
def rangeRound (B : Nat) (Kp : World → World → Prop) (I : Nat → World → Prop) (Ix : Code → Nat → World → Prop) (i : Nat) (W : World) : Exit → Act → World → Prop
  | .normal, _, W' => KeepsFrom B W W' ∧ Kp W W' ∧ I i W'
  | .ret, _, W' => KeepsFrom B W W' ∧ Ix .ret i W'
  | .exit id, _, W' => KeepsFrom B W W' ∧ Ix (.exit id) i W'
  | .goto t, _, W' => KeepsFrom B W W' ∧ Ix (.goto t) i W'
  | .panic _, _, _ => False
  | .outgrown, _, _ => False

/-- What abides the turn of a block, from B on, that is no cells. -/
def Puts (B : Nat) (p : World → Prop) : Prop := ∀ A r o o', p A → B ≤ r → A.heap[r]? = some o → o.isCells = false → p (A.putObj r o')

theorem wpIn_range {P : Program} {g : Operand} {ps : Array Tmp} {assign body : Code} {Q : Exit → Act → World → Prop} {a : Act} {w : World}
    {gf : Nat} {lb : Array Value} (hg : a.eval g = .func (.func gf) #[] lb) (eg : ∀ args w, (callFunc gf args).run P w = .ok (.enter gf args) w)
    {St Kp : World → World → Prop} {m : Nat} {Y : Nat → Array Value → World → Prop} (hseq : Iter P gf lb St Kp m Y w)
    (hSa : ∀ A o, St A (A.alloc o)) (hSn : ∀ A B k o, St A B → w.heap.size ≤ k → A.heap[k]? = some o → o.isCells = false → B.heap[k]? = some o)
    (hKa : ∀ A o, w.heap.size ≤ A.heap.size → Kp A (A.alloc o)) (hKt : ∀ A B C, Kp A B → Kp B C → Kp A C) (hKb : ∀ A r o o', w.heap.size ≤ r → A.heap[r]? = some o → o.isCells = false → Kp A (A.putObj r o'))
    (hYb : ∀ i args, Puts w.heap.size (Y i args)) (hps : ∀ i args W, Y i args W → args.size = ps.size)
    (I : Nat → World → Prop) (Ix : Code → Nat → World → Prop) (hI : ∀ i A B, I i A → St A B → I i B) (hIb : ∀ i, Puts w.heap.size (I i))
    (hIx : ∀ c i A B, Ix c i A → St A B → Ix c i B) (hIxb : ∀ c i, Puts w.heap.size (Ix c i)) (h0 : I 0 w) (a₁ : Array Value → Act)
    (hassign : ∀ (l i : Nat) (args : Array Value) (W : World) (K : Act → World → Prop), Y i args W → K (a₁ args) W →
      assign.wpIn (Fence.wide.inRound l) 1 P (Exit.then K (fun _ _ _ => False)) { tmps := (ps.zip args).foldl (fun t (p, v) => t.setIfInBounds p v) a.tmps, defers := [] } W)
    (hbody : ∀ (l i : Nat) (args : Array Value) (W : World), i < m → I i W → Y i args W → body.wpIn (Fence.wide.inRound l) 1 P (rangeRound w.heap.size Kp I Ix (i + 1) W) (a₁ args) W)
    (hdone : ∀ W, I m W → W.heap[w.heap.size]? = some (.deferred (some [])) → Q .normal { a with defers := { target := .collected w.heap.size, args := #[] } :: a.defers } W)
    (hstop : ∀ c i W, i ≤ m → Ix c i W → W.heap[w.heap.size]? = some (.deferred (some [])) → c.wpIn Fence.wide 3 P Q { a with defers := { target := .collected w.heap.size, args := #[] } :: a.defers } W) :
    (Code.rangeFunc g ps assign body).wpIn Fence.wide 3 P Q a w := by
  refine wpIn_rangeFunc ?_
  intro fn hfn
  obtain ⟨rec, hrec⟩ : ∃ rec : LoopState → Option Code → Loop, rec = fun st pe => { state := st, pending := pe, fn, tmps := a.tmps, params := ps, assign, body, defers := w.heap.size } := ⟨_, rfl⟩
  obtain ⟨W1, hW1⟩ : ∃ W1, (w.alloc (.deferred (some []))).alloc (.loop (rec .ready none)) = W1 := ⟨_, rfl⟩
  have hL1 : W1.heap[w.heap.size + 1]? = some (.loop (rec .ready none)) := by
    rw [← hW1]; have := World.alloc_heap_new (w.alloc (.deferred (some []))) (.loop (rec .ready none)); rwa [World.size_alloc] at this
  have hK1 : W1.heap[w.heap.size]? = some (.deferred (some [])) := by
    rw [← hW1]; exact (Below.heap_alloc _ _ _ (by simp)).trans (World.alloc_heap_new w _)
  have hI1 : I 0 W1 := by rw [← hW1]; exact hI _ _ _ (hI _ _ _ h0 (hSa _ _)) (hSa _ _)
  have hk1 : Kp w W1 := by rw [← hW1]; exact hKt _ _ _ (hKa _ _ (Nat.le_refl _)) (hKa _ _ (by simp))
  refine ⟨w.heap.size + 1, [{ target := .collected w.heap.size, args := #[] }], W1, { target := .fn (.func gf) lb, args := #[.func (.yield (w.heap.size + 1)) #[] #[]] }, W1, gf,
    #[.func (.yield (w.heap.size + 1)) #[] #[]] ++ lb, W1, ?_, ?_, fun _ _ => trivial, ?_, fun h => by simp [Fence.wide] at h, ?_⟩
  · rw [← hW1, hrec]; exact run_enterLoop_outer _ _ _ _ _
  · simp only [resolve, hg]
    simp [go_sem]
  · simp [invoke, go_sem, eg]
  · refine CallsIn.mono (hseq (w.heap.size + 1)
      (fun i W => I i W ∧ W.heap[w.heap.size + 1]? = some (.loop (rec .ready none)) ∧ W.heap[w.heap.size]? = some (.deferred (some [])))
      (fun i W => ∃ c, Ix c i W ∧ W.heap[w.heap.size + 1]? = some (.loop (rec .done (some c))) ∧ W.heap[w.heap.size]? = some (.deferred (some [])))
      W1 hk1
      (fun i A B hs hst => ⟨hI i A B hs.1 hst, hSn A B _ _ hst (by omega) hs.2.1 rfl, hSn A B _ _ hst (Nat.le_refl _) hs.2.2 rfl⟩)
      (fun i A B hs hst => by
        obtain ⟨c, hc, hl, hk⟩ := hs
        exact ⟨c, hIx c i A B hc hst, hSn A B _ _ hst (by omega) hl rfl, hSn A B _ _ hst (Nat.le_refl _) hk rfl⟩)
      ?_ ⟨hI1, hL1, hK1⟩) ?_
    · rintro i args W him ⟨hi, hl, hk⟩ hY
      have hlt : w.heap.size + 1 < W.heap.size := (Array.getElem?_eq_some_iff.1 hl).1
      have hy := run_yield (P := P) (args := args) hl (by rw [hrec]; exact hps i args W hY)
      rw [hrec] at hy
      refine ⟨fn, _, assign, body, hy, roundIn_of_wpIn hfn (hassign _ i args W _ hY ⟨_, run_beginRound hl (by rw [hrec]), ?_⟩)⟩
      have hl2 : (W.putObj (w.heap.size + 1) (.loop { rec .ready none with state := .busy })).heap[w.heap.size + 1]? = some (.loop { rec .ready none with state := .busy }) := World.putObj_heap_same hlt
      have hk2 : (W.putObj (w.heap.size + 1) (.loop { rec .ready none with state := .busy })).heap[w.heap.size]? = some (.deferred (some [])) := (World.putObj_heap_other (by omega)).trans hk
      have hw2 : Kp W (W.putObj (w.heap.size + 1) (.loop { rec .ready none with state := .busy })) := hKb _ _ _ _ (by omega) hl rfl
      refine wpIn_mono (hbody _ i args _ him (hIb i _ _ _ _ hi (by omega) hl rfl) (hYb i args _ _ _ _ hY (by omega) hl rfl)) ?_
      have fin : ∀ (jump : Option Code) (W3 : World), KeepsFrom w.heap.size (W.putObj (w.heap.size + 1) (.loop { rec .ready none with state := .busy })) W3 →
          (Instr.endRound (w.heap.size + 1) jump).run P W3 = .ok (.bool jump.isNone) (W3.putObj (w.heap.size + 1) (.loop (rec (if jump.isNone then .ready else .done) jump))) ∧
          W3.heap[w.heap.size + 1]? = some (.loop { rec .ready none with state := .busy }) ∧
          (W3.putObj (w.heap.size + 1) (.loop (rec (if jump.isNone then .ready else .done) jump))).heap[w.heap.size + 1]? = some (.loop (rec (if jump.isNone then .ready else .done) jump)) ∧
          (W3.putObj (w.heap.size + 1) (.loop (rec (if jump.isNone then .ready else .done) jump))).heap[w.heap.size]? = some (.deferred (some [])) := fun jump W3 hk3 => by
        have hl3 := hk3.same _ _ (by omega) hl2 rfl
        have := run_endRound (P := P) jump hl3
        rw [hrec] at this ⊢
        exact ⟨this, by rw [hrec] at hl3; exact hl3, World.putObj_heap_same (Array.getElem?_eq_some_iff.1 hl3).1, (World.putObj_heap_other (by omega)).trans (hk3.same _ _ (Nat.le_refl _) hk2 rfl)⟩
      rintro e a3 W3 hp
      cases e with
      | normal =>
        obtain ⟨hk3, hkp3, hi3⟩ := hp
        obtain ⟨hr, hl3, hl4, hk4⟩ := fin none W3 hk3
        exact ⟨_, _, hr, .inl ⟨rfl, ⟨hIb _ _ _ _ _ hi3 (by omega) hl3 rfl, hl4, hk4⟩, hKt _ _ _ (hKt _ _ _ hw2 hkp3) (hKb _ _ _ _ (by omega) hl3 rfl)⟩⟩
      | ret =>
        obtain ⟨hk3, hi3⟩ := hp
        obtain ⟨hr, hl3, hl4, hk4⟩ := fin (some .ret) W3 hk3
        exact ⟨_, _, hr, .inr ⟨rfl, .ret, hIxb _ _ _ _ _ _ hi3 (by omega) hl3 rfl, hl4, hk4⟩⟩
      | exit id =>
        obtain ⟨hk3, hi3⟩ := hp
        obtain ⟨hr, hl3, hl4, hk4⟩ := fin (some (.exit id)) W3 hk3
        exact ⟨_, _, hr, .inr ⟨rfl, .exit id, hIxb _ _ _ _ _ _ hi3 (by omega) hl3 rfl, hl4, hk4⟩⟩
      | goto t =>
        obtain ⟨hk3, hi3⟩ := hp
        obtain ⟨hr, hl3, hl4, hk4⟩ := fin (some (.goto t)) W3 hk3
        exact ⟨_, _, hr, .inr ⟨rfl, .goto t, hIxb _ _ _ _ _ _ hi3 (by omega) hl3 rfl, hl4, hk4⟩⟩
      | panic ch => exact hp.elim
      | outgrown => exact hp.elim
    · rintro e W2 ⟨⟨v, rfl⟩, (⟨hi, hl, hk⟩ | ⟨i, him, c, hi, hl, hk⟩)⟩
      · exact ⟨none, _, by have := run_endLoop (P := P) hl (by rw [hrec]; simp); rw [hrec] at this; exact this, hdone _ (hIb _ _ _ _ _ hi (by omega) hl rfl) ((World.putObj_heap_other (by omega)).trans hk)⟩
      · exact ⟨some c, _, by have := run_endLoop (P := P) hl (by rw [hrec]; simp); rw [hrec] at this; exact this, hstop c i _ him (hIxb _ _ _ _ _ _ hi (by omega) hl rfl) ((World.putObj_heap_other (by omega)).trans hk)⟩

/-- append onto a row of the call's own, inside a fence. -/
theorem wpListIn_app {F : Fence} {nF : Nat} {P : Program} {w : World} {t e : TypeId} {z : Value} {bytes base B n m cm : Nat} {v : Value} {xs news : List Value} {Am : Option Addr} {ops : Array Oper} {rest : List Oper} {o : Oper} {a : Act} {Q : Exit → Act → World → Prop} (s x : Operand) (E : El P t e z bytes)
    (hown : w.ownsRow base e 1 v n xs) (hr : Rd w B Am m cm news) (h1 : ∀ u ∈ news, u.oneCell' = true)
    (hbytes : (n + m) * bytes ≤ 140737488355328) (h63 : n + m ≤ 140737488355328) (hbase : base ≤ w.heap.size) (hgd : o.guard = none)
    (ho : o.op = .call { callee := .builtin .append, args := #[s, x], argTypes := #[t, t] })
    (hs : a.eval s = v) (hx : a.eval x = .slice Am m cm)
    (h : ∀ v' w', w'.ownsRow base e 1 v' (n + m) (xs ++ news) → w.grownBy w' v.ownBlock → (v'.ownBlock = v.ownBlock ∨ v'.ownBlock = some w.heap.size) → wpListIn F nF P ops Q rest (a.put o.dst v') w') :
    wpListIn F nF P ops Q (o :: rest) a w := by
  refine wpListIn_plain hgd fun K hK' => ?_
  obtain ⟨v', w', hrun, h2, h3, h4⟩ := run_app (ty := o.type) E hown hr h1 hbytes h63 hbase
  unfold Oper.wpIn
  refine ⟨?_, ?_⟩
  · simp [Oper.about, ho, resolve, Target.leads, Sem.run_pure]
  · rw [Oper.semAt_plain F _ _ (by rw [ho]; intro c hc'; cases hc')]
    simp [execOp, ho, resolve, invoke, builtin, hs, hx, hrun, Result.andThen]
    exact hK' _ _ (h v' w' h2 h3 h4)

theorem boxed_put {W : World} {B : Nat} {t : TypeId} {v : Value} (h : Boxed W B t v) {r : Nat} {o : Obj} (o' : Obj) (hr : W.heap[r]? = some o) (ho : o.isCells = false) : Boxed (W.putObj r o') B t v := by
  refine (World.putObj_heap_other (fun e => ?_)).trans h
  subst e
  rw [show W.heap[B]? = _ from h] at hr
  cases hr
  cases ho
theorem boxed_below {W W' : World} {B : Nat} {t : TypeId} {v : Value} (h : Boxed W B t v) (hb : Below W.heap.size W W') : Boxed W' B t v := (hb.block B h.lt).trans h
theorem below_put {W0 W : World} {B : Nat} (h : Below B W0 W) {r : Nat} {o : Obj} (o' : Obj) (hB : B ≤ r) (hr : W.heap[r]? = some o) : Below B W0 (W.putObj r o') :=
  h.trans ⟨rfl, rfl, rfl, by simp, fun k hk => World.putObj_heap_other (by omega)⟩
/-- Two rows of different element types lie in different blocks. -/
theorem own_apart {W : World} {b b' e e' n n' s s' : Nat} {v v' : Value} {xs xs' : List Value} (h : W.ownsRow b e s v n xs) (h' : W.ownsRow b' e' s' v' n' xs') (hne : e ≠ e') : v.ownBlock = none ∨ v.ownBlock ≠ v'.ownBlock := by
  rcases h.2 with ⟨rfl, _⟩ | ⟨g, cap, cur, rfl, _, hg, _⟩
  · exact .inl rfl
  · refine .inr fun he => ?_
    rcases h'.2 with ⟨rfl, _⟩ | ⟨g', cap', cur', rfl, _, hg', _⟩
    · simp [Value.ownBlock] at he
    · obtain rfl : g = g' := by simpa [Value.ownBlock] using he
      rw [hg] at hg'
      simp at hg'
      exact hne hg'.2
end Go.Proofs.YtfockoihmoljfaaGreatDoor

/-
  A range over a function whose rounds never stop it, at the wide fence: the iterator may read its own cells behind every yield.
-/
namespace Go.Proofs.YtfockoihmoljfaaGreatDoor
set_option linter.unusedVariables false
open Go.RowKit

/-- An iterator value (function g, captured lb), from the world w on: it calls yield m times, the i-th time with args that 'Y i' describes in the world of that call; yield always answers true. 'St': what its own steps do to the world. 'Kp': what a round must keep for it. -/
def IterT (P : Program) (g : Nat) (lb : Array Value) (St Kp : World → World → Prop) (m : Nat) (Y : Nat → Array Value → World → Prop) (w : World) : Prop :=
  ∀ (l : Nat) (J : Nat → World → Prop) (W : World), Kp w W →
    (∀ i A B, J i A → St A B → J i B) →
    (∀ i args W1, i < m → J i W1 → Y i args W1 → YieldAt Fence.wide 1 P l args W1 fun e W' => e = .returned (.bool true) ∧ J (i + 1) W' ∧ Kp W1 W') →
    J 0 W →
    CallsIn Fence.wide 2 P g (#[.func (.yield l) #[] #[]] ++ lb) W fun e W' => (∃ v, e = .returned v) ∧ J m W'

/-- How a round's body may be left. -/
def rangeRoundT (B : Nat) (Kp : World → World → Prop) (I : Nat → World → Prop) (i : Nat) (W : World) : Exit → Act → World → Prop
  | .normal, _, W' => KeepsFrom B W W' ∧ Kp W W' ∧ I i W'
  | _, _, _ => False

theorem wpIn_rangeT {P : Program} {g : Operand} {ps : Array Tmp} {assign body : Code} {Q : Exit → Act → World → Prop} {a : Act} {w : World}
    {gf : Nat} {lb : Array Value} (hg : a.eval g = .func (.func gf) #[] lb) (eg : ∀ args w, (callFunc gf args).run P w = .ok (.enter gf args) w)
    {St Kp : World → World → Prop} {m : Nat} {Y : Nat → Array Value → World → Prop} (hseq : IterT P gf lb St Kp m Y w)
    (hSa : ∀ A o, St A (A.alloc o)) (hSn : ∀ A B k o, St A B → w.heap.size ≤ k → A.heap[k]? = some o → o.isCells = false → B.heap[k]? = some o)
    (hKa : ∀ A o, w.heap.size ≤ A.heap.size → Kp A (A.alloc o)) (hKt : ∀ A B C, Kp A B → Kp B C → Kp A C) (hKb : ∀ A r o o', w.heap.size ≤ r → A.heap[r]? = some o → o.isCells = false → Kp A (A.putObj r o'))
    (hYb : ∀ i args, Puts w.heap.size (Y i args)) (hps : ∀ i args W, Y i args W → args.size = ps.size)
    (I : Nat → World → Prop) (hI : ∀ i A B, I i A → St A B → I i B) (hIb : ∀ i, Puts w.heap.size (I i)) (h0 : I 0 w) (a₁ : Array Value → Act)
    (hassign : ∀ (l i : Nat) (args : Array Value) (W : World) (K : Act → World → Prop), Y i args W → K (a₁ args) W →
      assign.wpIn (Fence.wide.inRound l) 1 P (Exit.then K (fun _ _ _ => False)) { tmps := (ps.zip args).foldl (fun t (p, v) => t.setIfInBounds p v) a.tmps, defers := [] } W)
    (hbody : ∀ (l i : Nat) (args : Array Value) (W : World), i < m → I i W → Y i args W → body.wpIn (Fence.wide.inRound l) 1 P (rangeRoundT w.heap.size Kp I (i + 1) W) (a₁ args) W)
    (hdone : ∀ W, I m W → W.heap[w.heap.size]? = some (.deferred (some [])) → Q .normal { a with defers := { target := .collected w.heap.size, args := #[] } :: a.defers } W) :
    (Code.rangeFunc g ps assign body).wpIn Fence.wide 3 P Q a w := by
  refine wpIn_rangeFunc ?_
  intro fn hfn
  obtain ⟨rec, hrec⟩ : ∃ rec : LoopState → Option Code → Loop, rec = fun st pe => { state := st, pending := pe, fn, tmps := a.tmps, params := ps, assign, body, defers := w.heap.size } := ⟨_, rfl⟩
  obtain ⟨W1, hW1⟩ : ∃ W1, (w.alloc (.deferred (some []))).alloc (.loop (rec .ready none)) = W1 := ⟨_, rfl⟩
  have hL1 : W1.heap[w.heap.size + 1]? = some (.loop (rec .ready none)) := by
    rw [← hW1]; have := World.alloc_heap_new (w.alloc (.deferred (some []))) (.loop (rec .ready none)); rwa [World.size_alloc] at this
  have hK1 : W1.heap[w.heap.size]? = some (.deferred (some [])) := by
    rw [← hW1]; exact (Below.heap_alloc _ _ _ (by simp)).trans (World.alloc_heap_new w _)
  have hI1 : I 0 W1 := by rw [← hW1]; exact hI _ _ _ (hI _ _ _ h0 (hSa _ _)) (hSa _ _)
  have hk1 : Kp w W1 := by rw [← hW1]; exact hKt _ _ _ (hKa _ _ (Nat.le_refl _)) (hKa _ _ (by simp))
  refine ⟨w.heap.size + 1, [{ target := .collected w.heap.size, args := #[] }], W1, { target := .fn (.func gf) lb, args := #[.func (.yield (w.heap.size + 1)) #[] #[]] }, W1, gf,
    #[.func (.yield (w.heap.size + 1)) #[] #[]] ++ lb, W1, ?_, ?_, fun _ _ => trivial, ?_, fun h => by simp [Fence.wide] at h, ?_⟩
  · rw [← hW1, hrec]; exact run_enterLoop_outer _ _ _ _ _
  · simp only [resolve, hg]
    simp [go_sem]
  · simp [invoke, go_sem, eg]
  · refine CallsIn.mono (hseq (w.heap.size + 1)
      (fun i W => I i W ∧ W.heap[w.heap.size + 1]? = some (.loop (rec .ready none)) ∧ W.heap[w.heap.size]? = some (.deferred (some [])))
      W1 hk1
      (fun i A B hs hst => ⟨hI i A B hs.1 hst, hSn A B _ _ hst (by omega) hs.2.1 rfl, hSn A B _ _ hst (Nat.le_refl _) hs.2.2 rfl⟩)
      ?_ ⟨hI1, hL1, hK1⟩) ?_
    · rintro i args W him ⟨hi, hl, hk⟩ hY
      have hlt : w.heap.size + 1 < W.heap.size := (Array.getElem?_eq_some_iff.1 hl).1
      have hy := run_yield (P := P) (args := args) hl (by rw [hrec]; exact hps i args W hY)
      rw [hrec] at hy
      refine ⟨fn, _, assign, body, hy, roundIn_of_wpIn hfn (hassign _ i args W _ hY ⟨_, run_beginRound hl (by rw [hrec]), ?_⟩)⟩
      have hl2 : (W.putObj (w.heap.size + 1) (.loop { rec .ready none with state := .busy })).heap[w.heap.size + 1]? = some (.loop { rec .ready none with state := .busy }) := World.putObj_heap_same hlt
      have hk2 : (W.putObj (w.heap.size + 1) (.loop { rec .ready none with state := .busy })).heap[w.heap.size]? = some (.deferred (some [])) := (World.putObj_heap_other (by omega)).trans hk
      have hw2 : Kp W (W.putObj (w.heap.size + 1) (.loop { rec .ready none with state := .busy })) := hKb _ _ _ _ (by omega) hl rfl
      refine wpIn_mono (hbody _ i args _ him (hIb i _ _ _ _ hi (by omega) hl rfl) (hYb i args _ _ _ _ hY (by omega) hl rfl)) ?_
      have fin : ∀ (jump : Option Code) (W3 : World), KeepsFrom w.heap.size (W.putObj (w.heap.size + 1) (.loop { rec .ready none with state := .busy })) W3 →
          (Instr.endRound (w.heap.size + 1) jump).run P W3 = .ok (.bool jump.isNone) (W3.putObj (w.heap.size + 1) (.loop (rec (if jump.isNone then .ready else .done) jump))) ∧
          W3.heap[w.heap.size + 1]? = some (.loop { rec .ready none with state := .busy }) ∧
          (W3.putObj (w.heap.size + 1) (.loop (rec (if jump.isNone then .ready else .done) jump))).heap[w.heap.size + 1]? = some (.loop (rec (if jump.isNone then .ready else .done) jump)) ∧
          (W3.putObj (w.heap.size + 1) (.loop (rec (if jump.isNone then .ready else .done) jump))).heap[w.heap.size]? = some (.deferred (some [])) := fun jump W3 hk3 => by
        have hl3 := hk3.same _ _ (by omega) hl2 rfl
        have := run_endRound (P := P) jump hl3
        rw [hrec] at this ⊢
        exact ⟨this, by rw [hrec] at hl3; exact hl3, World.putObj_heap_same (Array.getElem?_eq_some_iff.1 hl3).1, (World.putObj_heap_other (by omega)).trans (hk3.same _ _ (Nat.le_refl _) hk2 rfl)⟩
      rintro e a3 W3 hp
      cases e with
      | normal =>
        obtain ⟨hk3, hkp3, hi3⟩ := hp
        obtain ⟨hr, hl3, hl4, hk4⟩ := fin none W3 hk3
        exact ⟨_, _, hr, rfl, ⟨hIb _ _ _ _ _ hi3 (by omega) hl3 rfl, hl4, hk4⟩, hKt _ _ _ (hKt _ _ _ hw2 hkp3) (hKb _ _ _ _ (by omega) hl3 rfl)⟩
      | ret => exact hp.elim
      | exit id => exact hp.elim
      | goto t => exact hp.elim
      | panic ch => exact hp.elim
      | outgrown => exact hp.elim
    · rintro e W2 ⟨⟨v, rfl⟩, hi, hl, hk⟩
      exact ⟨none, _, by have := run_endLoop (P := P) hl (by rw [hrec]; simp); rw [hrec] at this; exact this, hdone _ (hIb _ _ _ _ _ hi (by omega) hl rfl) ((World.putObj_heap_other (by omega)).trans hk)⟩
end Go.Proofs.YtfockoihmoljfaaGreatDoor

/-
  As RangeT, for an iterator that makes its memory at its start: two blocks (the mark and the loop) lie behind the world of the range.
-/
namespace Go.Proofs.YtfockoihmoljfaaGreatDoor
set_option linter.unusedVariables false
open Go.RowKit

/-- An iterator value (function g, captured lb), from the world w on: it calls yield m times, the i-th time with args that 'Y i' describes in the world of that call; yield always answers true. 'St': what its own steps do to the world. 'Kp': what a round must keep for it. -/
def IterB (P : Program) (g : Nat) (lb : Array Value) (St Kp : World → World → Prop) (m : Nat) (Y : Nat → Array Value → World → Prop) (w : World) : Prop :=
  ∀ (l : Nat) (J : Nat → World → Prop) (W : World), Kp w W → W.heap.size = w.heap.size + 2 →
    (∀ i A B, J i A → St A B → J i B) →
    (∀ i args W1, i < m → J i W1 → Y i args W1 → YieldAt Fence.wide 1 P l args W1 fun e W' => e = .returned (.bool true) ∧ J (i + 1) W' ∧ Kp W1 W') →
    J 0 W →
    CallsIn Fence.wide 2 P g (#[.func (.yield l) #[] #[]] ++ lb) W fun e W' => (∃ v, e = .returned v) ∧ J m W'

theorem wpIn_rangeB {P : Program} {g : Operand} {ps : Array Tmp} {assign body : Code} {Q : Exit → Act → World → Prop} {a : Act} {w : World}
    {gf : Nat} {lb : Array Value} (hg : a.eval g = .func (.func gf) #[] lb) (eg : ∀ args w, (callFunc gf args).run P w = .ok (.enter gf args) w)
    {St Kp : World → World → Prop} {m : Nat} {Y : Nat → Array Value → World → Prop} (hseq : IterB P gf lb St Kp m Y w)
    (hSa : ∀ A o, St A (A.alloc o)) (hSn : ∀ A B k o, St A B → w.heap.size ≤ k → A.heap[k]? = some o → o.isCells = false → B.heap[k]? = some o)
    (hKa : ∀ A o, w.heap.size ≤ A.heap.size → Kp A (A.alloc o)) (hKt : ∀ A B C, Kp A B → Kp B C → Kp A C) (hKb : ∀ A r o o', w.heap.size ≤ r → A.heap[r]? = some o → o.isCells = false → Kp A (A.putObj r o'))
    (hYb : ∀ i args, Puts w.heap.size (Y i args)) (hps : ∀ i args W, Y i args W → args.size = ps.size)
    (I : Nat → World → Prop) (hI : ∀ i A B, I i A → St A B → I i B) (hIb : ∀ i, Puts w.heap.size (I i)) (h0 : I 0 w) (a₁ : Array Value → Act)
    (hassign : ∀ (l i : Nat) (args : Array Value) (W : World) (K : Act → World → Prop), Y i args W → K (a₁ args) W →
      assign.wpIn (Fence.wide.inRound l) 1 P (Exit.then K (fun _ _ _ => False)) { tmps := (ps.zip args).foldl (fun t (p, v) => t.setIfInBounds p v) a.tmps, defers := [] } W)
    (hbody : ∀ (l i : Nat) (args : Array Value) (W : World), i < m → I i W → Y i args W → body.wpIn (Fence.wide.inRound l) 1 P (rangeRoundT w.heap.size Kp I (i + 1) W) (a₁ args) W)
    (hdone : ∀ W, I m W → W.heap[w.heap.size]? = some (.deferred (some [])) → Q .normal { a with defers := { target := .collected w.heap.size, args := #[] } :: a.defers } W) :
    (Code.rangeFunc g ps assign body).wpIn Fence.wide 3 P Q a w := by
  refine wpIn_rangeFunc ?_
  intro fn hfn
  obtain ⟨rec, hrec⟩ : ∃ rec : LoopState → Option Code → Loop, rec = fun st pe => { state := st, pending := pe, fn, tmps := a.tmps, params := ps, assign, body, defers := w.heap.size } := ⟨_, rfl⟩
  obtain ⟨W1, hW1⟩ : ∃ W1, (w.alloc (.deferred (some []))).alloc (.loop (rec .ready none)) = W1 := ⟨_, rfl⟩
  have hL1 : W1.heap[w.heap.size + 1]? = some (.loop (rec .ready none)) := by
    rw [← hW1]; have := World.alloc_heap_new (w.alloc (.deferred (some []))) (.loop (rec .ready none)); rwa [World.size_alloc] at this
  have hK1 : W1.heap[w.heap.size]? = some (.deferred (some [])) := by
    rw [← hW1]; exact (Below.heap_alloc _ _ _ (by simp)).trans (World.alloc_heap_new w _)
  have hI1 : I 0 W1 := by rw [← hW1]; exact hI _ _ _ (hI _ _ _ h0 (hSa _ _)) (hSa _ _)
  have hk1 : Kp w W1 := by rw [← hW1]; exact hKt _ _ _ (hKa _ _ (Nat.le_refl _)) (hKa _ _ (by simp))
  refine ⟨w.heap.size + 1, [{ target := .collected w.heap.size, args := #[] }], W1, { target := .fn (.func gf) lb, args := #[.func (.yield (w.heap.size + 1)) #[] #[]] }, W1, gf,
    #[.func (.yield (w.heap.size + 1)) #[] #[]] ++ lb, W1, ?_, ?_, fun _ _ => trivial, ?_, fun h => by simp [Fence.wide] at h, ?_⟩
  · rw [← hW1, hrec]; exact run_enterLoop_outer _ _ _ _ _
  · simp only [resolve, hg]
    simp [go_sem]
  · simp [invoke, go_sem, eg]
  · refine CallsIn.mono (hseq (w.heap.size + 1)
      (fun i W => I i W ∧ W.heap[w.heap.size + 1]? = some (.loop (rec .ready none)) ∧ W.heap[w.heap.size]? = some (.deferred (some [])))
      W1 hk1 (by rw [← hW1, World.size_alloc, World.size_alloc])
      (fun i A B hs hst => ⟨hI i A B hs.1 hst, hSn A B _ _ hst (by omega) hs.2.1 rfl, hSn A B _ _ hst (Nat.le_refl _) hs.2.2 rfl⟩)
      ?_ ⟨hI1, hL1, hK1⟩) ?_
    · rintro i args W him ⟨hi, hl, hk⟩ hY
      have hlt : w.heap.size + 1 < W.heap.size := (Array.getElem?_eq_some_iff.1 hl).1
      have hy := run_yield (P := P) (args := args) hl (by rw [hrec]; exact hps i args W hY)
      rw [hrec] at hy
      refine ⟨fn, _, assign, body, hy, roundIn_of_wpIn hfn (hassign _ i args W _ hY ⟨_, run_beginRound hl (by rw [hrec]), ?_⟩)⟩
      have hl2 : (W.putObj (w.heap.size + 1) (.loop { rec .ready none with state := .busy })).heap[w.heap.size + 1]? = some (.loop { rec .ready none with state := .busy }) := World.putObj_heap_same hlt
      have hk2 : (W.putObj (w.heap.size + 1) (.loop { rec .ready none with state := .busy })).heap[w.heap.size]? = some (.deferred (some [])) := (World.putObj_heap_other (by omega)).trans hk
      have hw2 : Kp W (W.putObj (w.heap.size + 1) (.loop { rec .ready none with state := .busy })) := hKb _ _ _ _ (by omega) hl rfl
      refine wpIn_mono (hbody _ i args _ him (hIb i _ _ _ _ hi (by omega) hl rfl) (hYb i args _ _ _ _ hY (by omega) hl rfl)) ?_
      have fin : ∀ (jump : Option Code) (W3 : World), KeepsFrom w.heap.size (W.putObj (w.heap.size + 1) (.loop { rec .ready none with state := .busy })) W3 →
          (Instr.endRound (w.heap.size + 1) jump).run P W3 = .ok (.bool jump.isNone) (W3.putObj (w.heap.size + 1) (.loop (rec (if jump.isNone then .ready else .done) jump))) ∧
          W3.heap[w.heap.size + 1]? = some (.loop { rec .ready none with state := .busy }) ∧
          (W3.putObj (w.heap.size + 1) (.loop (rec (if jump.isNone then .ready else .done) jump))).heap[w.heap.size + 1]? = some (.loop (rec (if jump.isNone then .ready else .done) jump)) ∧
          (W3.putObj (w.heap.size + 1) (.loop (rec (if jump.isNone then .ready else .done) jump))).heap[w.heap.size]? = some (.deferred (some [])) := fun jump W3 hk3 => by
        have hl3 := hk3.same _ _ (by omega) hl2 rfl
        have := run_endRound (P := P) jump hl3
        rw [hrec] at this ⊢
        exact ⟨this, by rw [hrec] at hl3; exact hl3, World.putObj_heap_same (Array.getElem?_eq_some_iff.1 hl3).1, (World.putObj_heap_other (by omega)).trans (hk3.same _ _ (Nat.le_refl _) hk2 rfl)⟩
      rintro e a3 W3 hp
      cases e with
      | normal =>
        obtain ⟨hk3, hkp3, hi3⟩ := hp
        obtain ⟨hr, hl3, hl4, hk4⟩ := fin none W3 hk3
        exact ⟨_, _, hr, rfl, ⟨hIb _ _ _ _ _ hi3 (by omega) hl3 rfl, hl4, hk4⟩, hKt _ _ _ (hKt _ _ _ hw2 hkp3) (hKb _ _ _ _ (by omega) hl3 rfl)⟩
      | ret => exact hp.elim
      | exit id => exact hp.elim
      | goto t => exact hp.elim
      | panic ch => exact hp.elim
      | outgrown => exact hp.elim
    · rintro e W2 ⟨⟨v, rfl⟩, hi, hl, hk⟩
      exact ⟨none, _, by have := run_endLoop (P := P) hl (by rw [hrec]; simp); rw [hrec] at this; exact this, hdone _ (hIb _ _ _ _ _ hi (by omega) hl rfl) ((World.putObj_heap_other (by omega)).trans hk)⟩
end Go.Proofs.YtfockoihmoljfaaGreatDoor

/-
  Slices of integers, and strings: words over whatever program.
-/
namespace Go.Proofs.YtfockoihmoljfaaGreatDoor
open Go.RowKit
set_option linter.unusedVariables false

def iv (l : List Int) : List Value := l.map (Value.int .i64)
def okIs (l : List Int) : Prop := ∀ z ∈ l, -9223372036854775808 ≤ z ∧ z ≤ 9223372036854775807
theorem iv_one (l : List Int) : ∀ u ∈ iv l, u.oneCell' = true := by
  intro u hu
  simp only [iv, List.mem_map] at hu
  obtain ⟨c, _, rfl⟩ := hu
  rfl
theorem iv_append (l r : List Int) : iv (l ++ r) = iv l ++ iv r := List.map_append
theorem iv_length (l : List Int) : (iv l).length = l.length := List.length_map _
def RdI (w : World) (B : Nat) (A : Option Addr) (n c : Nat) (l : List Int) : Prop := Rd w B A n c (iv l) ∧ okIs l
section
variable {w w' : World} {B B' : Nat} {A : Option Addr} {n c : Nat} {l : List Int}
theorem RdI.below (h : RdI w B A n c l) (hb : Below B w w') : RdI w' B A n c l := ⟨h.1.below hb, h.2⟩
theorem RdI.more (h : RdI w B A n c l) (hB : B ≤ B') : RdI w B' A n c l := ⟨h.1.more hB, h.2⟩
theorem RdI.drewN (h : RdI w B A n c l) (m : Nat) : RdI (w.drewN m) B A n c l := h
theorem RdI.len (h : RdI w B A n c l) : l.length = n := by have := h.1.len; rwa [iv_length] at this
theorem RdI.le (h : RdI w B A n c l) : n ≤ c := h.1.le
theorem RdI.max (h : RdI w B A n c l) : c ≤ 9223372036854775807 := h.1.max
theorem RdI.nil (w : World) (B : Nat) : RdI w B none 0 0 [] := ⟨Rd.nil w B, by simp [okIs]⟩
theorem RdI.at_ (h : RdI w B A n c l) {k : Nat} (hk : k < n) (hl : k < l.length) : ∃ ad, A = some ad ∧ ad.block < B ∧ w.cell? (ad.add k) = some (.int .i64 l[k]) ∧ -9223372036854775808 ≤ l[k] ∧ l[k] ≤ 9223372036854775807 := by
  obtain ⟨ad, u, e, hb, hu, hc⟩ := h.1.at_ hk
  refine ⟨ad, e, hb, hc.trans ?_, h.2 _ (List.getElem_mem hl)⟩
  rw [← hu]; simp [iv, hl]
theorem own_rdI {base : Nat} {e : TypeId} {v : Value} (h : w.ownsRow base e 1 v n (iv l)) (hok : okIs l) : ∃ A c, v = .slice A n c ∧ RdI w w.heap.size A n c l := by
  obtain ⟨A, c, h1, h2⟩ := own_rd h
  exact ⟨A, c, h1, h2, hok⟩
end
/-- A string of bytes. -/
def strOf (l : List UInt8) : ByteArray := ⟨l.toArray⟩
theorem strOf_inj {l r : List UInt8} : strOf l = strOf r ↔ l = r := by
  unfold strOf
  constructor
  · intro h
    injection h with h
    exact congrArg Array.toList h
  · intro h; rw [h]
theorem strOf_size (l : List UInt8) : (strOf l).size = l.length := rfl
theorem strOf_data (s : ByteArray) : strOf s.data.toList = s := rfl
end Go.Proofs.YtfockoihmoljfaaGreatDoor

/-
  Slices whose elements are rows of k cells that read by R: words over whatever program.
-/
namespace Go.Proofs.YtfockoihmoljfaaGreatDoor
open Go.RowKit
set_option linter.unusedVariables false

/-- A slice of n elements of k cells each; R says how an element lies. -/
def RdS {α : Type} (k : Nat) (R : World → Nat → α → List Value → Prop) (w : World) (B : Nat) (A : Option Addr) (n c : Nat) (l : List α) : Prop :=
  ∃ rows : List (List Value), rows.length = l.length ∧ (∀ r ∈ rows, r.length = k) ∧ RdK k w B A n c rows.flatten ∧ ∀ (i : Nat) (x : α) (r : List Value), l[i]? = some x → rows[i]? = some r → R w B x r
/-- What lies so stays so. -/
structure Lasts {α : Type} (R : World → Nat → α → List Value → Prop) : Prop where
  below : ∀ {w w' : World} {B : Nat} {x : α} {r : List Value}, R w B x r → Below B w w' → R w' B x r
  more : ∀ {w : World} {B B' : Nat} {x : α} {r : List Value}, R w B x r → B ≤ B' → R w B' x r
section
variable {α : Type} {k : Nat} {R : World → Nat → α → List Value → Prop} {w w' : World} {B B' : Nat} {A : Option Addr} {n c : Nat} {l : List α}
theorem flatten_len : ∀ {rows : List (List Value)}, (∀ r ∈ rows, r.length = k) → rows.flatten.length = rows.length * k
  | [], _ => by simp
  | x :: r, h => by
    rw [List.flatten_cons, List.length_append, h x (by simp), flatten_len (fun y hy => h y (by simp [hy])), List.length_cons, Nat.succ_mul]
    omega
theorem flatten_get : ∀ {rows : List (List Value)}, (∀ r ∈ rows, r.length = k) → ∀ {i j : Nat} {r : List Value}, rows[i]? = some r → j < k → rows.flatten[i * k + j]? = r[j]?
  | [], _, i, j, r, h, _ => by simp at h
  | x :: rs, h, i, j, r, hr, hj => by
    have hx := h x (by simp)
    rw [List.flatten_cons]
    cases i with
    | zero =>
      simp only [List.getElem?_cons_zero, Option.some.injEq] at hr
      subst hr
      rw [Nat.zero_mul, Nat.zero_add, List.getElem?_append_left (by omega)]
    | succ i =>
      rw [List.getElem?_append_right (by rw [hx, Nat.succ_mul]; omega), hx, show (i + 1) * k + j - k = i * k + j by rw [Nat.succ_mul]; omega]
      exact flatten_get (fun y hy => h y (by simp [hy])) (by simpa using hr) hj
theorem RdS.below (L : Lasts R) (h : RdS k R w B A n c l) (hb : Below B w w') : RdS k R w' B A n c l := by
  obtain ⟨rows, h1, h2, h3, h4⟩ := h
  exact ⟨rows, h1, h2, h3.below hb, fun i x r hi hr => L.below (h4 i x r hi hr) hb⟩
theorem RdS.more (L : Lasts R) (h : RdS k R w B A n c l) (hB : B ≤ B') : RdS k R w B' A n c l := by
  obtain ⟨rows, h1, h2, h3, h4⟩ := h
  exact ⟨rows, h1, h2, h3.more hB, fun i x r hi hr => L.more (h4 i x r hi hr) hB⟩
theorem RdS.le (h : RdS k R w B A n c l) : n ≤ c := by obtain ⟨_, _, _, h3, _⟩ := h; exact h3.le
theorem RdS.max (h : RdS k R w B A n c l) : c ≤ 9223372036854775807 := by obtain ⟨_, _, _, h3, _⟩ := h; exact h3.max
theorem RdS.len (hk : 0 < k) (h : RdS k R w B A n c l) : l.length = n := by
  obtain ⟨rows, h1, h2, h3, _⟩ := h
  have := h3.len
  rw [flatten_len h2] at this
  rw [← h1]
  exact Nat.eq_of_mul_eq_mul_right hk this
theorem RdS.nil (w : World) (B : Nat) : RdS k R w B none 0 0 ([] : List α) := ⟨[], rfl, by simp, RdK.nil k w B, by simp⟩
/-- An element's cells. -/
theorem RdS.at_ (hk : 0 < k) (h : RdS k R w B A n c l) {i : Nat} (hi : i < n) (hl : i < l.length) :
    ∃ ad r, A = some ad ∧ ad.block < B ∧ r.length = k ∧ R w B l[i] r ∧ ∀ (j : Nat) (u : Value), r[j]? = some u → w.cell? (ad.add (i * k + j)) = some u := by
  obtain ⟨rows, h1, h2, h3, h4⟩ := h
  have hr : i < rows.length := by omega
  obtain ⟨ad, e, hb, hc⟩ := h3.2.2.2 (by omega)
  refine ⟨ad, rows[i], e, hb, h2 _ (List.getElem_mem hr), h4 i _ _ (List.getElem?_eq_getElem hl) (List.getElem?_eq_getElem hr), fun j u hu => hc _ _ ?_⟩
  have hj : j < k := by
    have := (List.getElem?_eq_some_iff.1 hu).1
    rw [h2 _ (List.getElem_mem hr)] at this
    exact this
  rw [flatten_get h2 (List.getElem?_eq_getElem hr) hj]
  exact hu
end
/-- The walk's spelling of a field's cell. -/
theorem cell_sub {w : World} {ad : Addr} {i j : Nat} {u : Value} (h : w.cell? (ad.add (i + (j + 1))) = some u) : w.cell? ⟨(ad.add i).block, (ad.add i).off + (j + 1), none⟩ = some u := by
  rw [← add_sub]; exact h
end Go.Proofs.YtfockoihmoljfaaGreatDoor

/-
  Words for blocks and rows, over whatever program.
-/
namespace Go.Proofs.YtfockoihmoljfaaGreatDoor
open Go.RowKit
set_option linter.unusedSimpArgs false
set_option linter.unusedVariables false
theorem blk_below {w w' : World} {b : Nat} {o : Obj} (h : w.heap[b]? = some o) (hb : Below w.heap.size w w') : w'.heap[b]? = some o := (hb.block b (Array.getElem?_eq_some_iff.1 h).1).trans h
theorem blk_new {w W : World} {o : Obj} (h : W = w.alloc o) : W.heap[w.heap.size]? = some o := by rw [h]; exact heap_alloc_new _ _
theorem below_new {w W : World} {o : Obj} (h : W = w.alloc o) : Below w.heap.size w W := by rw [h]; exact (Below.refl _ _).alloc (Nat.le_refl _) _
theorem blk_lt {w : World} {b : Nat} {o : Obj} (h : w.heap[b]? = some o) : b < w.heap.size := (Array.getElem?_eq_some_iff.1 h).1
theorem blk_cell {w : World} {b j : Nat} {cs : Array Value} {t : TypeId} {fr : Nat × Nat} (h : w.heap[b]? = some (.cells cs t fr)) : w.cell? ⟨b, j, none⟩ = cs[j]? := cell_of_row w b j _ _ _ h
theorem blk_set {w : World} {b k : Nat} {cs : Array Value} {t : TypeId} (v : Value) (h : w.heap[b]? = some (.cells cs t)) : (w.setCell ⟨b, k, none⟩ v).heap[b]? = some (.cells (cs.setIfInBounds k v) t) := heap_setCell_same w b k _ _ v h
theorem blk_other {w : World} {b : Nat} {p : Addr} {o : Obj} (v : Value) (h : w.heap[b]? = some o) (hne : p.block ≠ b) : (w.setCell p v).heap[b]? = some o := (heap_setCell_other w p b v (fun e => hne e.symm)).trans h
theorem blk_frozen {w : World} {b : Nat} (j : Nat) {cs : Array Value} {t : TypeId} (h : w.heap[b]? = some (.cells cs t)) : w.frozen? ⟨b, j, none⟩ = false := frozen_of_row w b j cs t h
theorem results_cell_row2 {P : Program} {fn : Func} {p q : Tmp} {ty : TypeId} (h : fn.results = #[.cell p ty, .tmp q]) (tmps : Array Value) (w : World) (g : Nat) (t : TypeId) (cs : Array Value) (fr : Nat × Nat) (d : TypeDesc)
    (hp : tmps.getD p undef = .pointer (some ⟨g, 0, none⟩)) (hg : w.heap[g]? = some (.cells cs t fr))
    (hu : P.underlying ty = some d) (hd : (match d with | .struct _ | .array _ _ => true | _ => false) = true) (hi : (P.info? ty).map (·.size) = some cs.size) :
    (results fn tmps).run P w = .ok (.tuple #[.agg cs, tmps.getD q undef]) w := by
  have hp' : tmps[p]?.getD undef = .pointer (some ⟨g, 0, none⟩) := by simpa using hp
  simp [results, h, hp', asAddr, run_loadVar_row w g t ty cs fr d hg hu hd hi]
theorem results_cell_row3 {P : Program} {fn : Func} {p q r : Tmp} {ty : TypeId} (h : fn.results = #[.cell p ty, .tmp q, .tmp r]) (tmps : Array Value) (w : World) (g : Nat) (t : TypeId) (cs : Array Value) (fr : Nat × Nat) (d : TypeDesc)
    (hp : tmps.getD p undef = .pointer (some ⟨g, 0, none⟩)) (hg : w.heap[g]? = some (.cells cs t fr))
    (hu : P.underlying ty = some d) (hd : (match d with | .struct _ | .array _ _ => true | _ => false) = true) (hi : (P.info? ty).map (·.size) = some cs.size) :
    (results fn tmps).run P w = .ok (.tuple #[.agg cs, tmps.getD q undef, tmps.getD r undef]) w := by
  have hp' : tmps[p]?.getD undef = .pointer (some ⟨g, 0, none⟩) := by simpa using hp
  simp [results, h, hp', asAddr, run_loadVar_row w g t ty cs fr d hg hu hd hi]
theorem blk_grown {w w' : World} {b : Nat} {o : Obj} {r : Option Nat} (h : w.heap[b]? = some o) (hg : w.grownBy w' r) (hne : some b ≠ r) : w'.heap[b]? = some o := (hg.block b (blk_lt h) hne).trans h
theorem Rd.blk {w : World} {b : Nat} {cs : Array Value} {t : TypeId} {fr : Nat × Nat} {n : Nat} (h : w.heap[b]? = some (.cells cs t fr)) (hn : cs.size = n) (hm : n ≤ 9223372036854775807) : Rd w w.heap.size (some ⟨b, 0, none⟩) n n cs.toList :=
  ⟨by simpa using hn, Nat.le_refl _, by unfold maxLen; omega, fun _ => ⟨_, rfl, (Array.getElem?_eq_some_iff.1 h).1, fun j u hu => by
    rw [add_lit0, cell_of_row w b j cs t fr h]
    simpa using hu⟩⟩
theorem RdK.blk (k : Nat) {w : World} {b : Nat} {cs : Array Value} {t : TypeId} {fr : Nat × Nat} {n : Nat} (h : w.heap[b]? = some (.cells cs t fr)) (hn : cs.size = n * k) (hm : n ≤ 9223372036854775807) : RdK k w w.heap.size (some ⟨b, 0, none⟩) n n cs.toList :=
  ⟨by simpa using hn, Nat.le_refl _, by unfold maxLen; omega, fun _ => ⟨_, rfl, (Array.getElem?_eq_some_iff.1 h).1, fun j u hu => by
    rw [add_lit0, cell_of_row w b j cs t fr h]
    simpa using hu⟩⟩
theorem own_set {w : World} {base e size n : Nat} {v u : Value} {xs : List Value} (h : w.ownsRow base e size v n xs) {p : Addr} (hp : ∀ g, v.ownBlock = some g → p.block ≠ g) : (w.setCell p u).ownsRow base e size v n xs := by
  refine ⟨h.1, ?_⟩
  rcases h.2 with hn0 | ⟨g, cap, cur, rfl, e2, e3, e4⟩
  · exact .inl hn0
  · exact .inr ⟨g, cap, cur, rfl, e2, (heap_setCell_other w _ g _ (fun e => hp g rfl (by simpa [eq_comm] using e))).trans e3, e4⟩
theorem own_blk_ne {w : World} {B e size n bC : Nat} {v : Value} {xs : List Value} {cs : Array Value} {t : TypeId} {fr : Nat × Nat} (h : w.ownsRow B e size v n xs) (hb : w.heap[bC]? = some (.cells cs t fr)) (hne : e ≠ t) : ∀ g, v.ownBlock = some g → bC ≠ g := by
  intro g hg e'
  subst e'
  rcases h.2 with ⟨rfl, _⟩ | ⟨g', cap, cur, rfl, _, hg', _⟩
  · simp [Value.ownBlock] at hg
  · simp [Value.ownBlock] at hg
    subst hg
    rw [hb] at hg'
    injection hg' with hg'
    injection hg' with _ h2 _
    exact hne h2.symm
theorem grown_then {w w' w'' : World} {r r' : Option Nat} (h1 : w.grownBy w' r) (h2 : w'.grownBy w'' r') (hr : ∀ g, r' = some g → w.heap.size ≤ g) : w.grownBy w'' r :=
  ⟨h2.os.trans h1.os, h2.tape.trans h1.tape, h2.output.trans h1.output, Nat.le_trans h1.size h2.size, fun k hk hne => (h2.block k (Nat.lt_of_lt_of_le hk h1.size) (fun e => by have := hr k e.symm; omega)).trans (h1.block k hk hne)⟩
theorem own_some_lt {w : World} {B e size n g c k : Nat} {xs : List Value} (h : w.ownsRow B e size (.slice (some ⟨g, 0, none⟩) n c) k xs) : g < w.heap.size := by
  rcases h.2 with ⟨h1, _⟩ | ⟨g', cap, cur, h1, _, hg', _⟩
  · cases h1
  · injection h1 with h1
    injection h1 with h1
    injection h1 with h1
    subst h1
    exact (Array.getElem?_eq_some_iff.1 hg').1
theorem own_cell {w : World} {B e size n g c : Nat} {xs : List Value} (h : w.ownsRow B e size (.slice (some ⟨g, 0, none⟩) n c) n xs) {j : Nat} (hj : j < n * size) : ∃ u, w.cell? ⟨g, j, none⟩ = some u := by
  have hx := h.cellAt j (by omega)
  rw [List.getElem?_eq_getElem (by have : xs.length = n * size := h.1; omega)] at hx
  exact ⟨_, hx⟩
theorem grown_of_below {w w' : World} {r : Option Nat} (hb : Below w.heap.size w w') : w.grownBy w' r := ⟨hb.os, hb.tape, hb.output, hb.size, fun k hk _ => hb.block k hk⟩
theorem grown_set {w w' : World} {b i : Nat} {v : Value} (hg : w.grownBy w' (some b)) : w.grownBy (w'.setCell ⟨b, i, none⟩ v) (some b) :=
  ⟨hg.os, hg.tape, hg.output, by simpa [World.setCell] using hg.size, fun k hk hne => (heap_setCell_other w' _ k v (fun e => hne (by rw [e]))).trans (hg.block k hk hne)⟩
theorem grown_set_new {w w' : World} {r : Option Nat} {p : Addr} {v : Value} (hg : w.grownBy w' r) (hp : w.heap.size ≤ p.block) : w.grownBy (w'.setCell p v) r :=
  ⟨hg.os, hg.tape, hg.output, by simpa [World.setCell] using hg.size, fun k hk hne => (heap_setCell_other w' _ k v (by omega)).trans (hg.block k hk hne)⟩
theorem grown_trans {w w' w'' : World} {r : Option Nat} (h1 : w.grownBy w' r) (h2 : w'.grownBy w'' r) : w.grownBy w'' r :=
  ⟨h2.os.trans h1.os, h2.tape.trans h1.tape, h2.output.trans h1.output, Nat.le_trans h1.size h2.size, fun k hk hne => (h2.block k (Nat.lt_of_lt_of_le hk h1.size) hne).trans (h1.block k hk hne)⟩
theorem own_grown' {w w' : World} {B e size n : Nat} {v : Value} {xs : List Value} {r : Option Nat} (h : w.ownsRow B e size v n xs) (hg : w.grownBy w' r) (hne : ∀ g, v.ownBlock = some g → some g ≠ r) : w'.ownsRow B e size v n xs := by
  refine ⟨h.1, ?_⟩
  rcases h.2 with hn | ⟨g, cap, cur, rfl, hbg, hgg, rest⟩
  · exact .inl hn
  · exact .inr ⟨g, cap, cur, rfl, hbg, (hg.block g (Array.getElem?_eq_some_iff.1 hgg).1 (hne g rfl)).trans hgg, rest⟩
theorem own_rdP {w : World} {base n : Nat} {e : TypeId} {v : Value} {l : List Pl} (h : w.ownsRow base e 2 v n (pv l)) (hl : okPs l) : ∃ A c, v = .slice A n c ∧ RdP w w.heap.size A n c l := by
  obtain ⟨A, c, h1, h2⟩ := own_rdK h
  exact ⟨A, c, h1, h2, hl⟩
theorem pv_length (l : List Pl) : (pv l).length = l.length * 2 := flat_length pcell_length l
end Go.Proofs.YtfockoihmoljfaaGreatDoor

/-
  The marks that ranges over functions leave among a function's deferred calls: words over whatever program.
-/
namespace Go.Proofs.YtfockoihmoljfaaGreatDoor
open Go.RowKit
set_option linter.unusedVariables false

/-- Each of ds is a mark of its own, from block m on, and its block stands open. -/
def Marks (m : Nat) : List Deferred → World → Prop
  | [], _ => True
  | d :: r, W => ∃ b, d = { target := .collected b, args := #[] } ∧ m ≤ b ∧ W.heap[b]? = some (.deferred (some [])) ∧ (∀ d' ∈ r, d' ≠ d) ∧ Marks m r W
theorem Marks.keep {m : Nat} {W W' : World} (hk : ∀ b, m ≤ b → W.heap[b]? = some (.deferred (some [])) → W'.heap[b]? = some (.deferred (some []))) : ∀ {ds : List Deferred}, Marks m ds W → Marks m ds W'
  | [], _ => trivial
  | d :: r, ⟨b, h1, h2, h3, h4, h5⟩ => ⟨b, h1, h2, hk b h2 h3, h4, Marks.keep hk h5⟩
theorem Marks.below {m : Nat} {W W' : World} {ds : List Deferred} (h : Marks m ds W) (hb : Below W.heap.size W W') : Marks m ds W' :=
  h.keep fun b _ hd => (hb.block b (Array.getElem?_eq_some_iff.1 hd).1).trans hd
theorem Marks.grown {m : Nat} {W W' : World} {ds : List Deferred} {row : Option Nat} (h : Marks m ds W) (hg : W.grownBy W' row) (hr : ∀ b, row = some b → W.heap[b]? ≠ some (.deferred (some []))) : Marks m ds W' :=
  h.keep fun b _ hd => (hg.block b (Array.getElem?_eq_some_iff.1 hd).1 (fun e => hr b e.symm hd)).trans hd
theorem Marks.setCell {m : Nat} {W : World} {ds : List Deferred} (h : Marks m ds W) {p : Addr} {cs : Array Value} {t : TypeId} {fr : Nat × Nat} (hp : W.heap[p.block]? = some (.cells cs t fr)) (u : Value) : Marks m ds (W.setCell p u) :=
  h.keep fun b _ hd => (heap_setCell_other W p b u (fun e => by subst e; rw [hp] at hd; cases hd)).trans hd
theorem Marks.lt {m : Nat} {W : World} : ∀ {ds : List Deferred}, Marks m ds W → ∀ d ∈ ds, ∃ b, d = { target := .collected b, args := #[] } ∧ b < W.heap.size
  | [], _, d, hd => by simp at hd
  | d :: r, ⟨b, h1, h2, h3, h4, h5⟩, d', hd => by
    rcases List.mem_cons.1 hd with rfl | hd
    · exact ⟨b, h1, (Array.getElem?_eq_some_iff.1 h3).1⟩
    · exact Marks.lt h5 d' hd
/-- One mark more, made at w. -/
theorem Marks.push {m : Nat} {w W : World} {ds : List Deferred} (h : Marks m ds w) (h' : Marks m ds W) (hm : m ≤ w.heap.size) (hd : W.heap[w.heap.size]? = some (.deferred (some []))) :
    Marks m ({ target := .collected w.heap.size, args := #[] } :: ds) W := by
  refine ⟨w.heap.size, rfl, hm, hd, fun d' hd' e => ?_, h'⟩
  obtain ⟨b, hb, hlt⟩ := h.lt d' hd'
  rw [hb] at e
  injection e with e1 _
  injection e1 with e1
  omega
theorem Marks.put {m : Nat} {w A : World} {r : Nat} (o : Obj) (hr : w.heap.size ≤ r) : ∀ {ds : List Deferred}, Marks m ds w → Marks m ds A → Marks m ds (A.putObj r o)
  | [], _, _ => trivial
  | d :: ds, ⟨b0, e1, e2, e3, e4, e5⟩, ⟨b, h1, h2, h3, h4, h5⟩ => by
    have hlt : b0 < w.heap.size := (Array.getElem?_eq_some_iff.1 e3).1
    have hbb : b = b0 := by
      rw [h1] at e1
      injection e1 with e1 _
      injection e1 with e1
    exact ⟨b, h1, h2, (World.putObj_heap_other (by omega)).trans h3, h4, Marks.put o hr e5 h5⟩
/-- Marks' blocks have been shut, nothing else. -/
def Tidied (m : Nat) (W W' : World) : Prop := Below m W W' ∧ ∀ (k : Nat) (cs : Array Value) (t : TypeId) (fr : Nat × Nat), W.heap[k]? = some (.cells cs t fr) → W'.heap[k]? = some (.cells cs t fr)
theorem Tidied.refl (m : Nat) (W : World) : Tidied m W W := ⟨Below.refl _ _, fun _ _ _ _ h => h⟩
theorem leaves_marks {F : Fence} {n : Nat} {P : Program} {fn : Func} {tmps : Array Value} {R : Ending → World → Prop} {m : Nat} : ∀ {ds : List Deferred} {W : World}, Marks m ds W →
    (∀ W', Tidied m W W' → LeavesInM F n P fn tmps R [] .returning W') → LeavesInM F n P fn tmps R ds .returning W
  | [], W, _, h => h W (Tidied.refl _ _)
  | d :: r, W, ⟨b, h1, h2, h3, h4, h5⟩, h => by
    refine ⟨by simp, .inl ⟨b, _, by rw [h1], run_takeDeferred h3, ?_⟩⟩
    have hlt : b < W.heap.size := (Array.getElem?_eq_some_iff.1 h3).1
    have hT : Tidied m W (W.putObj b (.deferred none)) := by
      refine ⟨below_put (Below.refl _ _) _ h2 h3, fun k cs t fr hk => ?_⟩
      refine (World.putObj_heap_other (fun e => ?_)).trans hk
      subst e
      rw [hk] at h3
      cases h3
    have h5' : Marks m r (W.putObj b (.deferred none)) := by
      have key : ∀ (ds : List Deferred), (∀ d' ∈ ds, d' ≠ d) → Marks m ds W → Marks m ds (W.putObj b (.deferred none)) := by
        intro ds
        induction ds with
        | nil => intro _ _; trivial
        | cons d1 r1 ih =>
          rintro hne ⟨b1, g1, g2, g3, g4, g5⟩
          refine ⟨b1, g1, g2, (World.putObj_heap_other (fun e => ?_)).trans g3, g4, ih (fun d' hd' => hne d' (by simp [hd'])) g5⟩
          have := hne d1 (by simp)
          rw [g1, h1] at this
          exact this (by rw [e])
      exact key r h4 h5
    refine leaves_marks h5' fun W' hW' => h W' ⟨hT.1.trans hW'.1, fun k cs t fr hk => hW'.2 k cs t fr (hT.2 k cs t fr hk)⟩
end Go.Proofs.YtfockoihmoljfaaGreatDoor

/-
  A map of bools that the call makes, as a set of keys: words over whatever program.
-/
namespace Go.Proofs.YtfockoihmoljfaaGreatDoor
open Go.RowKit Go.Maps
set_option linter.unusedVariables false

/-- Block b is a map of at most n entries that holds true at just the keys S. -/
def SetOwn (P : Program) (K E : TypeId) (W : World) (b n : Nat) (S : List Value) : Prop :=
  ∃ D : DataW Unit, W.ownsMap P K (plainElem P E) b n D ∧ ∀ (v : Value) (kl : Lit), keyOf P K v = some kl → ∃ bb, D.atKey kl (.lit (.bool false)) = .lit (.bool bb) ∧ (bb = true ↔ v ∈ S)
section
variable {P : Program} {K E t : TypeId} {w w' : World} {b n : Nat} {S : List Value}
theorem SetOwn.made (w : World) : SetOwn P K E (w.alloc (.map #[] 0)) w.heap.size 0 [] := by
  refine ⟨.map [], World.ownsMap_made _ _ _ _, fun v kl _ => ⟨false, ?_, by simp⟩⟩
  simp [DataW.atKey]
theorem SetOwn.kept (h : SetOwn P K E w b n S) {row : Option Nat} (hg : w.grownBy w' row) (hne : some b ≠ row) : SetOwn P K E w' b n S := by
  obtain ⟨D, h1, h2⟩ := h
  exact ⟨D, h1.kept hg hne, h2⟩
theorem SetOwn.lt (h : SetOwn P K E w b n S) : b < w.heap.size := by obtain ⟨D, h1, _⟩ := h; exact h1.lt
theorem SetOwn.same (h : SetOwn P K E w b n S) (hb : w'.heap[b]? = w.heap[b]?) : SetOwn P K E w' b n S := by
  obtain ⟨D, ⟨es, clock, h1, h2⟩, h3⟩ := h
  exact ⟨D, ⟨es, clock, hb.trans h1, h2⟩, h3⟩
theorem SetOwn.block (h : SetOwn P K E w b n S) : ∃ o, w.heap[b]? = some o ∧ o.isCells = false := by
  obtain ⟨D, ⟨es, clock, h1, h2⟩, h3⟩ := h
  exact ⟨_, h1, rfl⟩
theorem plainElem_bool_inv {P : Program} {e : TypeId} (he : P.underlying e = some .bool) {v : Value} {z : DataW Unit × List MemPlace} (h : plainElem P e v = some z) : ∃ x, v = .bool x ∧ z = (.lit (.bool x), []) := by
  unfold plainElem at h
  rw [he] at h
  cases v <;> simp at h
  exact ⟨_, rfl, h.symm⟩
/-- m[k]. -/
theorem SetOwn.look (h : SetOwn P K E w b n S) (KD : Keyed P K) (ht : P.underlying t = some (.map K E)) (he : P.underlying E = some .bool) (hz : (zeroValue E).run P w = .ok (.bool false) w) {key : Value} {kl : Lit} (hkey : keyOf P K key = some kl) :
    ∃ bb, (Instr.lookup t (.map (some b)) key false).run P w = .ok (.bool bb) w ∧ (bb = true ↔ key ∈ S) := by
  obtain ⟨D, h1, h2⟩ := h
  obtain ⟨v, ps, hrun, hv⟩ := h1.lookup KD ht hz (plainElem_bool he false) hkey
  obtain ⟨x, rfl, hx⟩ := plainElem_bool_inv he hv
  obtain ⟨bb, hb, hiff⟩ := h2 key kl hkey
  simp only [Prod.mk.injEq] at hx
  rw [hb] at hx
  have : bb = x := by simpa using hx.1
  subst this
  exact ⟨_, hrun, hiff⟩
/-- m[k] = true. -/
theorem SetOwn.add (h : SetOwn P K E w b n S) (KD : Keyed P K) (ht : P.underlying t = some (.map K E)) (he : P.underlying E = some .bool) (hn : n < maxLen) {key : Value} {kl : Lit} (hkey : keyOf P K key = some kl) :
    ∃ w', (Instr.mapUpdate t (.map (some b)) key (.bool true)).run P w = .ok () w' ∧ SetOwn P K E w' b (n + 1) (S ++ [key]) ∧ w.grownBy w' (some b) := by
  obtain ⟨D, h1, h2⟩ := h
  obtain ⟨w', hrun, hown, hg⟩ := h1.update KD ht hn hkey (plainElem_bool he true)
  refine ⟨w', hrun, ⟨_, hown, fun v kv hv => ?_⟩, hg⟩
  by_cases hkk : kv = kl
  · subst hkk
    have := KD.inj hv hkey
    subst this
    exact ⟨true, atKey_put_same h1.isMap (KD.key hkey) _ _, by simp⟩
  · obtain ⟨bb, hb, hiff⟩ := h2 v kv hv
    refine ⟨bb, (atKey_put_other hkk _ _).trans hb, ?_⟩
    rw [hiff]
    have hne : v ≠ key := fun e => by subst e; rw [hv] at hkey; injection hkey with e; exact hkk e
    simp [hne]
end
end Go.Proofs.YtfockoihmoljfaaGreatDoor

/-
  A region that draws its order and holds calls that make memory: one walk, by a plan: stretches of plain operations (whose value is the same in every later world), and between them one call at a time, where nothing else is ready.
-/
namespace Go.Proofs.YtfockoihmoljfaaGreatDoor
open Go.RowKit

/-- An operation that hands on a value and enters no function. -/
def plainOp (o : Oper) : Bool :=
  match o.op with
  | .move _ | .assign _ | .pick .. | .build .. | .load .. | .binOp .. | .unOp .. | .convert .. | .slice .. | .fieldAddr .. | .field .. | .indexAddr .. | .index .. | .lookup .. | .extract .. | .makeInterface .. => true
  | .call c => match c.callee with | .builtin .len | .builtin .cap | .builtin .min | .builtin .max => true | _ => false
  | _ => false

theorem val_of {P : Program} {s : Sem Value} {w w' : World} {n : Next} (h : (do pure (Next.value (← s)) : Sem Next).run P w = .ok n w') : ∃ x, n = .value x := by
  simp only [Sem.run_bind, Sem.run_pure] at h
  cases hs : s.run P w with
  | ok v w1 => rw [hs] at h; simp only [Result.andThen_ok] at h; injection h with h _; exact ⟨v, h.symm⟩
  | halt x w1 => rw [hs] at h; simp [Result.andThen] at h

theorem plain_val {P : Program} {ρ : Operand → Value} {o : Oper} {w w' : World} {n : Next} (hp : plainOp o = true) (h : (execOp ρ o).run P w = .ok n w') : ∃ x, n = .value x := by
  obtain ⟨dst, op, type, pos, after, guard⟩ := o
  cases op <;> simp only [plainOp, Bool.false_eq_true] at hp <;> simp only [execOp] at h
  case move x => simp only [Sem.run_pure] at h; injection h with h _; exact ⟨_, h.symm⟩
  case assign x => simp only [Sem.run_pure] at h; injection h with h _; exact ⟨_, h.symm⟩
  case pick c a b =>
    simp only [Sem.run_bind, Sem.run_pure] at h
    cases hs : (asBool (ρ c)).run P w with
    | ok v w1 => rw [hs] at h; simp only [Result.andThen_ok] at h; injection h with h _; exact ⟨_, h.symm⟩
    | halt x w1 => rw [hs] at h; simp [Result.andThen] at h
  case call c =>
    obtain ⟨callee, args, argTypes⟩ := c
    cases callee with
    | value f => simp at hp
    | invoke r m => simp at hp
    | builtin b =>
      simp only [resolve, Sem.run_bind, Sem.run_pure, Result.andThen_ok, invoke] at h
      cases b <;> simp at hp <;> exact val_of h
  all_goals exact val_of h

section
variable {P : Program} {ops : Array Oper} {Q : Exit → Act → World → Prop} {md : Region.Mode}

theorem held_imp {S S' : World → Prop} (hS : ∀ w, S' w → S w) :
    ∀ (fuel : Nat) (listed : Array Bool) (a : Act) (w : World), wpAnyH P md ops Q S' fuel listed a w → wpAnyH P md ops Q S fuel listed a w
  | 0, _, _, _, h => h
  | fuel + 1, _, _, _, h => ⟨h.1, fun i hi => wpOp_mono (fun a' w' h' => ⟨hS _ h'.1, held_imp hS fuel _ a' w' h'.2⟩) (h.2 i hi)⟩

def setAll : List Nat → Array Bool → Array Bool
  | [], listed => listed
  | i :: is, listed => setAll is (listed.setIfInBounds i true)

def takesB (md : Region.Mode) (ops : Array Oper) : List Nat → Array Bool → Bool
  | [], _ => true
  | i :: is, listed => (Region.ready md ops listed).contains i && Region.free md ops listed i && ((ops[i]?).map plainOp).getD false && takesB md ops is (listed.setIfInBounds i true)

def pick (l : List Oper) (is : List Nat) : List Oper := is.map fun i => l.getD i default

theorem getD_of {l : List Oper} {i : Nat} {o : Oper} (h : l.toArray[i]? = some o) : l.getD i default = o := by
  simp at h; simp [List.getD, h]

theorem held_takes {l : List Oper} {w : World} {fuel : Nat} (hs : Region.noSelect l.toArray = true) (hQ : ∀ c a d v w, Q (.panic c) (Act.put a d v) w → Q (.panic c) a w) :
    ∀ (is : List Nat) (listed : Array Bool) (a : Act), takesB md l.toArray is listed = true →
      wpQuiet P l.toArray (fun w' => ∃ x : Ext w.heap.size w, w' = x.val) (fun a' => wpAnyH P md l.toArray Q (Below w.heap.size w) fuel (setAll is listed) a' w) (pick l is) a →
      wpAnyH P md l.toArray Q (Below w.heap.size w) (fuel + is.length) listed a w
  | [], _, _, _, h => h
  | i :: is, listed, a, hB, h => by
    simp only [takesB, Bool.and_eq_true] at hB
    obtain ⟨⟨⟨hr, hf⟩, hp⟩, hB'⟩ := hB
    obtain ⟨o, ho, hpo⟩ : ∃ o, l.toArray[i]? = some o ∧ plainOp o = true := by
      cases hoi : l.toArray[i]? with
      | none => rw [hoi] at hp; simp at hp
      | some o => rw [hoi] at hp; exact ⟨o, rfl, by simpa using hp⟩
    have he : pick l (i :: is) = o :: pick l is := by simp only [pick, List.map_cons, getD_of ho]
    rw [he] at h
    have hC : ∀ {w' : World}, Below w.heap.size w w' → ∃ x : Ext w.heap.size w, w' = x.val := fun {w'} hb => ⟨⟨w', hb⟩, rfl⟩
    simp only [wpQuiet] at h
    show wpAnyH P md l.toArray Q (Below w.heap.size w) ((fuel + is.length) + 1) listed a w
    by_cases hw : Region.wanted o (yielded l.toArray a.tmps) = true
    · simp only [hw, if_true] at h
      obtain ⟨v, h1, h2⟩ := h
      refine wpAnyH_take ho hs hf hr (fun c a w h => hQ c a _ _ w h) (.inl ⟨hw, fun w' hw' => ?_⟩) (Below.refl _ _) (held_takes hs hQ is _ _ hB' h2)
      have h3 := h1 w' (hC hw')
      unfold Oper.quietAt at h3
      cases hrun : (execOp a.eval o).run P w' with
      | ok n w1 =>
        obtain ⟨x, rfl⟩ := plain_val hpo hrun
        rw [hrun] at h3
        obtain ⟨e1, e2⟩ := h3
        rw [e1, e2]
      | halt x w1 => rw [hrun] at h3; exact h3.elim
    · simp only [hw] at h
      exact wpAnyH_take ho hs hf hr (fun c a w h => hQ c a _ _ w h) (.inr ⟨by simpa using hw, rfl⟩) (Below.refl _ _) (held_takes hs hQ is _ _ hB' h)

/-- What stands behind a stretch: nothing, or a call. -/
def planNext (P : Program) (ops : Array Oper) (Q : Exit → Act → World → Prop) (next : Act → World → Prop) (w : World) (a : Act) : Option Oper → Prop
  | none => next a w
  | some o => if Region.wanted o (yielded ops a.tmps) = true then o.wp P a w (fun a'' w'' => Below w.heap.size w w'' ∧ next a'' w'') Q else next (a.put o.dst undef) w
/-- The walk by a plan. -/
def wpPlan (P : Program) (ops : Array Oper) (Q : Exit → Act → World → Prop) : List (List Oper × Option Oper) → Act → World → Prop
  | [], a, w => Q .normal a w
  | (qs, m) :: rest, a, w => wpQuiet P ops (fun w' => ∃ x : Ext w.heap.size w, w' = x.val) (fun a' => planNext P ops Q (wpPlan P ops Q rest) w a' m) qs a

def planB (md : Region.Mode) (ops : Array Oper) : List (List Nat × Option Nat) → Array Bool → Bool
  | [], listed => (Region.ready md ops listed).isEmpty
  | (is, m) :: rest, listed => takesB md ops is listed && (match m with
      | none => planB md ops rest (setAll is listed)
      | some i => (Region.ready md ops (setAll is listed) == [i]) && (ops[i]?).isSome && planB md ops rest ((setAll is listed).setIfInBounds i true))

def planN : List (List Nat × Option Nat) → Nat
  | [] => 0
  | (is, m) :: rest => (planN rest + match m with | none => 0 | some _ => 1) + is.length

def pickP (l : List Oper) (plan : List (List Nat × Option Nat)) : List (List Oper × Option Oper) := plan.map fun p => (pick l p.1, p.2.map fun i => l.getD i default)

theorem held_plan {l : List Oper} (hs : Region.noSelect l.toArray = true) (hQ : ∀ c a d v w, Q (.panic c) (Act.put a d v) w → Q (.panic c) a w) :
    ∀ (plan : List (List Nat × Option Nat)) (listed : Array Bool) (a : Act) (w : World), planB md l.toArray plan listed = true → wpPlan P l.toArray Q (pickP l plan) a w →
      wpAnyH P md l.toArray Q (Below w.heap.size w) (planN plan) listed a w
  | [], _, _, _, hB, h => wpAnyH_done (by simpa [planB] using hB) h _
  | (is, none) :: rest, listed, a, w, hB, h => by
    simp only [planB, Bool.and_eq_true] at hB
    exact held_takes hs hQ is listed a hB.1 (wpQuiet_mono' (fun a' h' => held_plan hs hQ rest _ _ _ hB.2 h') h)
  | (is, some i) :: rest, listed, a, w, hB, h => by
    simp only [planB, Bool.and_eq_true] at hB
    obtain ⟨h1, ⟨h2, h3⟩, h4⟩ := hB
    obtain ⟨o, ho⟩ := Option.isSome_iff_exists.1 h3
    refine held_takes hs hQ is listed a h1 (wpQuiet_mono' (fun a' h' => ?_) h)
    refine wpAnyH_all (rs := [i]) (by simpa using h2) (by simp) fun j hj => ?_
    obtain rfl : j = i := by simpa using hj
    simp only [Option.map_some, getD_of ho, planNext] at h'
    unfold wpOp
    simp only [ho]
    split
    · rename_i hw
      simp only [hw, if_true] at h'
      exact .inl (Oper.wp_mono (fun a'' w'' ⟨hb, hk⟩ => ⟨hb, held_imp (fun w3 hb3 => hb.trans (hb3.mono hb.size)) _ _ _ _ (held_plan hs hQ rest _ _ _ h4 hk)⟩) h')
    · rename_i hw
      simp only [hw] at h'
      exact ⟨Below.refl _ _, held_plan hs hQ rest _ _ _ h4 h'⟩
where
  wpQuiet_mono' {C : World → Prop} {K K' : Act → Prop} (hk : ∀ a, K a → K' a) : ∀ {qs : List Oper} {a : Act}, wpQuiet P l.toArray C K qs a → wpQuiet P l.toArray C K' qs a
    | [], _, h => hk _ h
    | o :: qs, a, h => by
      simp only [wpQuiet] at h ⊢
      split
      · rename_i hw; simp only [hw, if_true] at h; exact Oper.quiet_mono (fun a' h' => wpQuiet_mono' hk h') h
      · rename_i hw; simp only [hw] at h; exact wpQuiet_mono' hk h

def planOk (l : List Oper) (plan : List (List Nat × Option Nat)) : Bool := Region.noSelect l.toArray && planB .any l.toArray plan (Array.replicate l.length false) && planN plan == l.length

/-- The region ends as it should, and no other way. -/
def NormalOnly (Q : Exit → Act → World → Prop) : Exit → Act → World → Prop := fun x a w => match x with | .normal => Q .normal a w | _ => False

theorem wp_region_plan {l : List Oper} {id : Nat} {a : Act} {w : World} (plan : List (List Nat × Option Nat)) (hm : P.follows .mixedOrders = true) (hB : planOk l plan = true)
    (h : ∀ w' : World, w'.heap.size = w.heap.size → Below w.heap.size w w' → wpPlan P l.toArray (NormalOnly Q) (pickP l plan) a w') : (Code.region id l.toArray true).wp P Q a w := by
  simp only [planOk, Bool.and_eq_true] at hB
  obtain ⟨⟨h1, h2⟩, h3⟩ := hB
  have h3 : planN plan = l.length := by simpa using h3
  refine Code.wp_mono (Q := NormalOnly Q) (fun e a w h => ?_) ?_
  · cases e <;> first | exact h | exact h.elim
  refine wp_region_held (S := Below w.drew.heap.size w.drew) hm ?_
  have := held_plan (P := P) (Q := NormalOnly Q) (md := .any) h1 (fun _ _ _ _ _ h => h) plan (Array.replicate l.length false) a w.drew h2 (h _ rfl ((Below.refl _ _).drew))
  rw [h3] at this
  simpa using this

theorem plan_cons {l : List Oper} {qs : List Oper} {m : Option Oper} {rest : List (List Oper × Option Oper)} {a : Act} {w : World}
    (h : wpQuiet P l.toArray (fun w' => ∃ x : Ext w.heap.size w, w' = x.val) (fun a' => planNext P l.toArray Q (wpPlan P l.toArray Q rest) w a' m) qs a) :
    wpPlan P l.toArray Q ((qs, m) :: rest) a w := h
theorem plan_nil {C : World → Prop} {m : Option Oper} {next : Act → World → Prop} {a : Act} {w : World} (h : planNext P ops Q next w a m) : wpQuiet P ops C (fun a' => planNext P ops Q next w a' m) [] a := h
/-- The call between two stretches. -/
theorem plan_call {o : Oper} {next : Act → World → Prop} {a : Act} {w : World} (hw : Region.wanted o (yielded ops a.tmps) = true)
    (h : ∀ K : Act → World → Prop, Hid (∀ a' w', Below w.heap.size w w' → next a' w' → K a' w') → o.wp P a w K Q) : planNext P ops Q next w a (some o) := by
  simp only [planNext]; rw [if_pos hw]; exact h _ (Lib.hid fun _ _ h1 h2 => ⟨h1, h2⟩)
theorem plan_pass {o : Oper} {next : Act → World → Prop} {a : Act} {w : World} (hw : Region.wanted o (yielded ops a.tmps) = false)
    (h : next (a.put o.dst undef) w) : planNext P ops Q next w a (some o) := by
  simp only [planNext]; rw [if_neg (by rw [hw]; simp)]; exact h
theorem plan_end {l : List Oper} {a : Act} {w : World} (h : Q .normal a w) : planNext P l.toArray (NormalOnly Q) (wpPlan P l.toArray (NormalOnly Q) []) w a none := h
end
end Go.Proofs.YtfockoihmoljfaaGreatDoor

/-
  A region that draws its order, makes memory by calls and then stores into memory that was there: one walk by a plan of two stages. Up to the first store k: stretches of plain operations (which either wait ahead of k, or read no memory), and one mover at a time. From k on: plain operations that read no memory, and one mover at a time.
-/
namespace Go.Proofs.YtfockoihmoljfaaGreatDoor
open Go.RowKit
set_option linter.unusedSimpArgs false
set_option linter.unusedVariables false

/-- An operation that reads no memory. -/
def deafOp (o : Oper) : Bool :=
  match o.op with
  | .move _ | .assign _ | .pick .. | .extract .. => true
  | _ => false
/-- An operation that hands on a value and enters no function; a nil check may be one. -/
def tameOp (o : Oper) : Bool := plainOp o || match o.op with | .nilCheck .. => true | _ => false

theorem nil_val {P : Program} {ρ : Operand → Value} {dst : Option Nat} {x : Operand} {type : TypeId} {pos : String} {after : Array Edge} {guard : Option (Nat × Bool)} {w w' : World} {n : Next}
    (h : (execOp ρ ⟨dst, .nilCheck x, type, pos, after, guard⟩).run P w = .ok n w') : ∃ x, n = .value x := by
  simp only [execOp] at h
  split at h
  · simp [runtimePanic] at h
  · simp [runtimePanic] at h
  · simp [runtimePanic] at h
  · split at h
    · simp [runtimePanic] at h
    · simp only [Sem.run_bind] at h
      generalize Sem.run P program w = r at h
      cases r with
      | halt x w1 => simp [Result.andThen] at h
      | ok p w1 =>
        simp only [Result.andThen_ok] at h
        generalize Sem.run P (nilAhead _ _ _ _) w1 = r2 at h
        cases r2 with
        | halt x w2 => simp [Result.andThen] at h
        | ok p w2 =>
          simp only [Result.andThen_ok] at h
          split at h
          · simp [unsupported] at h
          · simp only [Sem.run_pure] at h; injection h with h _; exact ⟨_, h.symm⟩
    · simp only [Sem.run_pure] at h; injection h with h _; exact ⟨_, h.symm⟩
  · simp only [Sem.run_pure] at h; injection h with h _; exact ⟨_, h.symm⟩
theorem tame_val {P : Program} {ρ : Operand → Value} {o : Oper} {w w' : World} {n : Next} (hp : tameOp o = true) (h : (execOp ρ o).run P w = .ok n w') : ∃ x, n = .value x := by
  simp only [tameOp, Bool.or_eq_true] at hp
  rcases hp with hp | hp
  · exact plain_val hp h
  · obtain ⟨dst, op, type, pos, after, guard⟩ := o
    cases op <;> simp only [Bool.false_eq_true] at hp
    exact nil_val h
theorem deaf_run {P : Program} {ρ : Operand → Value} {o : Oper} {w w1 : World} {n : Next} (hp : deafOp o = true) (h : (execOp ρ o).run P w = .ok n w1) (w' : World) : (execOp ρ o).run P w' = .ok n w' := by
  obtain ⟨dst, op, type, pos, after, guard⟩ := o
  cases op <;> simp only [deafOp, Bool.false_eq_true] at hp <;> simp only [execOp] at h ⊢
  case move x => simp only [Sem.run_pure] at h ⊢; injection h with h _; rw [h]
  case assign x => simp only [Sem.run_pure] at h ⊢; injection h with h _; rw [h]
  case pick c a b =>
    cases hc : ρ c <;> rw [hc] at h <;> simp only [asBool, stuck, Sem.run_bind, Sem.run_pure, Sem.run_halt, Result.andThen_ok, Result.andThen] at h ⊢
    all_goals first | (injection h with h _; rw [h]) | cases h
  case extract t ix =>
    cases hc : ρ t <;> rw [hc] at h <;> simp only [Instr.extract, stuck, Sem.run_bind, Sem.run_pure, Sem.run_halt, Result.andThen_ok, Result.andThen] at h ⊢
    all_goals first | cases h | skip
    rename_i xs
    cases hx : xs[ix]? <;> rw [hx] at h <;> simp only [Sem.run_pure, Sem.run_halt, Result.andThen_ok, Result.andThen] at h ⊢
    · cases h
    · injection h with h _; rw [h]

section
variable {P : Program} {ops : Array Oper} {Q : Exit → Act → World → Prop} {md : Region.Mode}

/-- What has come up has all that it waited for behind it. -/
def Down (md : Region.Mode) (ops : Array Oper) (listed : Array Bool) : Prop :=
  ∀ j o, ops[j]? = some o → listed.getD j false = true → ∀ e ∈ o.after, Region.binds md e = true → listed.getD e.on false = true

theorem down_step {listed : Array Bool} (hd : Down md ops listed) {i : Nat} (hi : i ∈ Region.ready md ops listed) : Down md ops (listed.setIfInBounds i true) := by
  intro j o ho hj e he hb
  by_cases hij : i = j
  · subst hij
    obtain ⟨_, o', ho', hall⟩ := mem_ready.1 hi
    rw [ho] at ho'
    injection ho' with ho'
    subst ho'
    exact getD_set_true (hall e he hb)
  · rw [getD_set_ne false hij] at hj
    exact getD_set_true (hd j o ho hj e he hb)

/-- All that k waits for. -/
def waitsFor (md : Region.Mode) (ops : Array Oper) : List Nat → Array Bool → Array Bool
  | [], m => m
  | j :: js, m => waitsFor md ops js (if m.getD j false then (match ops[j]? with | some o => o.after.foldl (fun m e => if Region.binds md e then m.setIfInBounds e.on true else m) m | none => m) else m)
def waitsOn (md : Region.Mode) (ops : Array Oper) (k : Nat) : Array Bool := waitsFor md ops (List.range (k + 1)).reverse ((Array.replicate ops.size false).setIfInBounds k true)

theorem getD_set_iff {m : Array Bool} {i j : Nat} (h : (m.setIfInBounds i true).getD j false = true) : j = i ∨ m.getD j false = true := by
  by_cases hij : i = j
  · exact .inl hij.symm
  · rw [getD_set_ne false hij] at h; exact .inr h
theorem fold_marks {listed : Array Bool} {l : List Edge} (hl : ∀ e ∈ l, Region.binds md e = true → listed.getD e.on false = true) :
    ∀ (m : Array Bool), (∀ i, m.getD i false = true → listed.getD i false = true) →
      ∀ i, (l.foldl (fun m e => if Region.binds md e then m.setIfInBounds e.on true else m) m).getD i false = true → listed.getD i false = true := by
  induction l with
  | nil => intro m hm i hi; exact hm i hi
  | cons e r ih =>
    intro m hm i hi
    rw [List.foldl_cons] at hi
    refine ih (fun e' he' => hl e' (List.mem_cons_of_mem _ he')) _ (fun q hq => ?_) i hi
    split at hq
    · rename_i hb
      rcases getD_set_iff hq with rfl | hq
      · exact hl e (List.mem_cons_self ..) hb
      · exact hm q hq
    · exact hm q hq
theorem waitsFor_listed {listed : Array Bool} (hd : Down md ops listed) : ∀ (js : List Nat) (m : Array Bool), (∀ i, m.getD i false = true → listed.getD i false = true) →
    ∀ i, (waitsFor md ops js m).getD i false = true → listed.getD i false = true := by
  intro js
  induction js with
  | nil => intro m hm i hi; exact hm i hi
  | cons j r ih =>
    intro m hm i hi
    simp only [waitsFor] at hi
    refine ih _ (fun q hq => ?_) i hi
    split at hq
    · rename_i hj
      cases ho : ops[j]? with
      | none => rw [ho] at hq; exact hm q hq
      | some o =>
        rw [ho] at hq
        dsimp only at hq
        rw [← Array.foldl_toList] at hq
        exact fold_marks (fun e he hb => hd j o ho (hm j hj) e (by simpa using he) hb) m hm q hq
    · exact hm q hq
theorem waitsOn_listed {listed : Array Bool} (hd : Down md ops listed) {k i : Nat} (hk : listed.getD k false = true) (h : (waitsOn md ops k).getD i false = true) : listed.getD i false = true := by
  refine waitsFor_listed hd _ _ (fun q hq => ?_) i h
  rcases getD_set_iff hq with rfl | hq
  · exact hk
  · rcases Nat.lt_or_ge q ops.size with h' | h'
    · simp [h'] at hq
    · simp [h'] at hq

/-- Whatever order is picked from here on, and 'S' of what has come up and of the world holds behind every operation. -/
def wpAnyT (P : Program) (md : Region.Mode) (ops : Array Oper) (Q : Exit → Act → World → Prop) (S : Array Bool → World → Prop) : Nat → Array Bool → Act → World → Prop
  | 0, listed, a, w => Region.ready md ops listed = [] ∧ Q .normal a w
  | fuel + 1, listed, a, w =>
    (Region.ready md ops listed = [] → Q .normal a w) ∧
    ∀ i ∈ Region.ready md ops listed, wpOp P ops Q i (fun a' w' => S (listed.setIfInBounds i true) w' ∧ wpAnyT P md ops Q S fuel (listed.setIfInBounds i true) a' w') a w

variable {S S' : Array Bool → World → Prop}
theorem wpAny_of_T : ∀ (fuel : Nat) (listed : Array Bool) (a : Act) (w : World), wpAnyT P md ops Q S fuel listed a w → wpAny P md ops Q fuel listed a w
  | 0, _, _, _, h => h
  | fuel + 1, _, _, _, h => ⟨h.1, fun i hi => wpOp_mono (fun a' w' h' => wpAny_of_T fuel _ a' w' h'.2) (h.2 i hi)⟩
theorem T_imp (R : Array Bool → Prop) (hR : ∀ listed i, R listed → R (listed.setIfInBounds i true)) (hS : ∀ listed w, R listed → S' listed w → S listed w) :
    ∀ (fuel : Nat) (listed : Array Bool) (a : Act) (w : World), R listed → wpAnyT P md ops Q S' fuel listed a w → wpAnyT P md ops Q S fuel listed a w
  | 0, _, _, _, _, h => h
  | fuel + 1, listed, _, _, hr, h => ⟨h.1, fun i hi => wpOp_mono (fun a' w' h' => ⟨hS _ _ (hR _ _ hr) h'.1, T_imp R hR hS fuel _ a' w' (hR _ _ hr) h'.2⟩) (h.2 i hi)⟩

/-- In state 'a', wherever i has not come up and S holds, 'o' leaves 'v' in its temporary and does nothing else. -/
def YieldsT (P : Program) (md : Region.Mode) (ops : Array Oper) (S : Array Bool → World → Prop) (i : Nat) (o : Oper) (v : Value) (a : Act) : Prop :=
  (Region.wanted o (yielded ops a.tmps) = true ∧ ∀ listed w, Down md ops listed → listed.getD i true = false → S listed w → (execOp a.eval o).run P w = .ok (.value v) w) ∨
  (Region.wanted o (yielded ops a.tmps) = false ∧ v = undef)

theorem wpAnyT_first {i : Nat} {oi : Oper} {v : Value} (hi : ops[i]? = some oi) (hsel : ∀ (j : Nat) (o : Oper) cs b, ops[j]? = some o → o.op ≠ .select cs b)
    (hQ : ∀ c a w, Q (.panic c) (a.put oi.dst v) w → Q (.panic c) a w) :
    ∀ (fuel : Nat) (listed : Array Bool) (a : Act) (w : World), Down md ops listed →
      (∀ j oj, ops[j]? = some oj → j ≠ i → listed.getD j true = false → (∀ e ∈ oj.after, Region.binds md e = true → e.on ≠ i) → oi.apart ops oj = true) →
      i ∈ Region.ready md ops listed → YieldsT P md ops S i oi v a → S listed w → (∀ listed w, S (listed.setIfInBounds i true) w ↔ S listed w) →
      wpAnyT P md ops Q S fuel (listed.setIfInBounds i true) (a.put oi.dst v) w → wpAnyT P md ops Q S (fuel + 1) listed a w := by
  intro fuel
  have key : ∀ {listed : Array Bool} {a : Act} {w : World}, Down md ops listed → i ∈ Region.ready md ops listed → YieldsT P md ops S i oi v a → S listed w →
      YieldsIf P ops (fun w' => w' = w) oi v a := fun {listed a w} hd hr hy hS => by
    rcases hy with ⟨hw, hv⟩ | h
    · exact .inl ⟨hw, fun w' hw' => by subst hw'; exact hv listed _ hd (mem_ready.1 hr).1 hS⟩
    · exact .inr h
  induction fuel with
  | zero =>
    intro listed a w hd _ hr hy hS hSm H
    refine ⟨fun h => (by rw [h] at hr; cases hr), fun j hj => ?_⟩
    by_cases hji : j = i
    · subst hji; exact (key hd hr hy hS).wpOp hi rfl ⟨(hSm _ _).2 hS, H⟩
    · have := ready_mono hj hji
      rw [H.1] at this
      cases this
  | succ fuel ih =>
    intro listed a w hd hfree hr hy hS hSm H
    refine ⟨fun h => (by rw [h] at hr; cases hr), fun j hj => ?_⟩
    by_cases hji : j = i
    · subst hji; exact (key hd hr hy hS).wpOp hi rfl ⟨(hSm _ _).2 hS, H⟩
    · have h1 := H.2 j (ready_mono hj hji)
      obtain ⟨hjun, oj, hoj, hall⟩ := mem_ready.1 hj
      have hnot : ∀ e ∈ oj.after, Region.binds md e = true → e.on ≠ i := fun e he hb heq => by
        have h1 := hall e he hb
        have h0 := (mem_ready.1 hr).1
        rw [heq] at h1
        rcases Nat.lt_or_ge i listed.size with h' | h'
        · simp [h'] at h0 h1; rw [h0] at h1; cases h1
        · simp [Array.getElem?_eq_none h'] at h1
      have hap := hfree j oj hoj hji hjun hnot
      obtain ⟨_, _, h3⟩ := Oper.apart_spec hap
      have hyU : YieldsIf P ops (fun w' => ∃ listed, Down md ops listed ∧ listed.getD i true = false ∧ S listed w') oi v a := by
        rcases hy with ⟨hw, hv⟩ | h
        · exact .inl ⟨hw, fun w' ⟨l', h1, h2, h3⟩ => hv l' w' h1 h2 h3⟩
        · exact .inr h
      have h2 := wpOp_putIf hoj hap (fun cs b => hsel i oi cs b hi) (fun cs b => hsel j oj cs b hoj) hQ hyU h1
      have hfree' : ∀ k ok, ops[k]? = some ok → k ≠ i → (listed.setIfInBounds j true).getD k true = false →
          (∀ e ∈ ok.after, Region.binds md e = true → e.on ≠ i) → oi.apart ops ok = true := fun k ok hk hki hun hno => by
        refine hfree k ok hk hki ?_ hno
        by_cases hjk : j = k
        · subst hjk; exact hjun
        · rw [getD_set_ne true hjk] at hun; exact hun
      refine wpOp_mono (fun a' w' h3 => ?_) h2
      obtain ⟨hy', hS', hrest⟩ := h3
      have hcomm : (listed.setIfInBounds i true).setIfInBounds j true = (listed.setIfInBounds j true).setIfInBounds i true := Array.setIfInBounds_comm _ _ (Ne.symm hji)
      rw [hcomm] at hS' hrest
      have hS2 := (hSm _ _).1 hS'
      refine ⟨hS2, ih (listed.setIfInBounds j true) a' w' (down_step hd hj) hfree' (ready_mono hr (Ne.symm hji)) ?_ hS2 hSm hrest⟩
      rcases hy' with ⟨hw, hv⟩ | h
      · exact .inl ⟨hw, fun l w h1 h2 h3 => hv w ⟨l, h1, h2, h3⟩⟩
      · exact .inr h

/-- Whatever world. -/
structure AnyW where
  val : World
instance : Nonempty AnyW := ⟨⟨default⟩⟩

/-- Ahead of the store k: all is as it was below the world's size. -/
def Ahead (k : Nat) (w : World) (listed : Array Bool) (w' : World) : Prop := listed.getD k false = false → Below w.heap.size w w'

def takes1B (md : Region.Mode) (ops : Array Oper) (k : Nat) (wk : Array Bool) : List Nat → Array Bool → Bool
  | [], _ => true
  | i :: is, listed => (Region.ready md ops listed).contains i && Region.free md ops listed i && ((ops[i]?).map fun o => tameOp o && (wk.getD i false || deafOp o)).getD false && (i != k) && takes1B md ops k wk is (listed.setIfInBounds i true)
def takes2B (md : Region.Mode) (ops : Array Oper) : List Nat → Array Bool → Bool
  | [], _ => true
  | i :: is, listed => (Region.ready md ops listed).contains i && Region.free md ops listed i && ((ops[i]?).map tameOp).getD false && takes2B md ops is (listed.setIfInBounds i true)

theorem getD_tf {l : Array Bool} {i : Nat} (h : l.getD i true = false) : l.getD i false = false := by
  rcases Nat.lt_or_ge i l.size with h' | h'
  · simp [h'] at h ⊢; exact h
  · simp [h']

theorem T_takes1 {l : List Oper} {w : World} {fuel k : Nat} (hs : Region.noSelect l.toArray = true) (hQ : ∀ c a d v w, Q (.panic c) (Act.put a d v) w → Q (.panic c) a w) :
    ∀ (is : List Nat) (listed : Array Bool) (a : Act), Down md l.toArray listed → takes1B md l.toArray k (waitsOn md l.toArray k) is listed = true →
      wpQuiet P l.toArray (fun w' => ∃ x : Ext w.heap.size w, w' = x.val) (fun a' => wpAnyT P md l.toArray Q (Ahead k w) fuel (setAll is listed) a' w) (pick l is) a →
      wpAnyT P md l.toArray Q (Ahead k w) (fuel + is.length) listed a w
  | [], _, _, _, _, h => h
  | i :: is, listed, a, hd, hB, h => by
    simp only [takes1B, Bool.and_eq_true] at hB
    obtain ⟨⟨⟨⟨hr, hf⟩, hp⟩, hik⟩, hB'⟩ := hB
    have hik : i ≠ k := by simpa using hik
    have hr' : i ∈ Region.ready md l.toArray listed := by simpa using hr
    obtain ⟨o, ho, hpo, hwk⟩ : ∃ o, l.toArray[i]? = some o ∧ tameOp o = true ∧ ((waitsOn md l.toArray k).getD i false = true ∨ deafOp o = true) := by
      cases hoi : l.toArray[i]? with
      | none => rw [hoi] at hp; simp at hp
      | some o =>
        rw [hoi] at hp
        simp only [Option.map_some, Option.getD_some, Bool.and_eq_true, Bool.or_eq_true] at hp
        exact ⟨o, rfl, hp⟩
    have he : pick l (i :: is) = o :: pick l is := by simp only [pick, List.map_cons, getD_of ho]
    rw [he] at h
    have hC : ∀ {w' : World}, Below w.heap.size w w' → ∃ x : Ext w.heap.size w, w' = x.val := fun {w'} hb => ⟨⟨w', hb⟩, rfl⟩
    have hS0 : Ahead k w listed w := fun _ => Below.refl _ _
    have hSm : ∀ (L : Array Bool) (W : World), Ahead k w (L.setIfInBounds i true) W ↔ Ahead k w L W := fun L W => by
      unfold Ahead; rw [getD_set_ne false (Ne.symm hik ∘ Eq.symm)]
    simp only [wpQuiet] at h
    show wpAnyT P md l.toArray Q (Ahead k w) ((fuel + is.length) + 1) listed a w
    by_cases hw : Region.wanted o (yielded l.toArray a.tmps) = true
    · simp only [hw, if_true] at h
      obtain ⟨v, h1, h2⟩ := h
      have hat : ∀ w', Below w.heap.size w w' → (execOp a.eval o).run P w' = .ok (.value v) w' := fun w' hw' => by
        have h3 := h1 w' (hC hw')
        unfold Oper.quietAt at h3
        cases hrun : (execOp a.eval o).run P w' with
        | ok n w1 =>
          obtain ⟨x, rfl⟩ := tame_val hpo hrun
          rw [hrun] at h3
          obtain ⟨e1, e2⟩ := h3
          rw [e1, e2]
        | halt x w1 => rw [hrun] at h3; exact h3.elim
      refine wpAnyT_first ho (Region.noSelect_spec hs) (fun c a w h => hQ c a _ _ w h) _ listed a w hd (Region.free_spec ho hf) hr' (.inl ⟨hw, fun L W hD hi hS => ?_⟩) hS0 hSm (T_takes1 hs hQ is _ _ (down_step hd hr') hB' h2)
      rcases hwk with hwk | hdf
      · have : L.getD k false = false := by
          cases hc : L.getD k false with
          | false => rfl
          | true =>
            have := waitsOn_listed hD hc hwk
            rw [getD_tf hi] at this
            cases this
        exact hat W (hS this)
      · exact deaf_run hdf (hat w (Below.refl _ _)) W
    · simp only [hw] at h
      refine wpAnyT_first (v := undef) ho (Region.noSelect_spec hs) (fun c a w h => hQ c a _ _ w h) _ listed a w hd (Region.free_spec ho hf) hr' (.inr ⟨by simpa using hw, rfl⟩) hS0 hSm (T_takes1 hs hQ is _ _ (down_step hd hr') hB' h)

theorem T_takes2 {l : List Oper} {w : World} {fuel : Nat} (hs : Region.noSelect l.toArray = true) (hQ : ∀ c a d v w, Q (.panic c) (Act.put a d v) w → Q (.panic c) a w) :
    ∀ (is : List Nat) (listed : Array Bool) (a : Act), Down md l.toArray listed → takes2B md l.toArray is listed = true →
      wpQuiet P l.toArray (fun w' => ∃ x : AnyW, w' = x.val) (fun a' => wpAnyT P md l.toArray Q (fun _ _ => True) fuel (setAll is listed) a' w) (pick l is) a →
      wpAnyT P md l.toArray Q (fun _ _ => True) (fuel + is.length) listed a w
  | [], _, _, _, _, h => h
  | i :: is, listed, a, hd, hB, h => by
    simp only [takes2B, Bool.and_eq_true] at hB
    obtain ⟨⟨⟨hr, hf⟩, hp⟩, hB'⟩ := hB
    have hr' : i ∈ Region.ready md l.toArray listed := by simpa using hr
    obtain ⟨o, ho, hpo⟩ : ∃ o, l.toArray[i]? = some o ∧ tameOp o = true := by
      cases hoi : l.toArray[i]? with
      | none => rw [hoi] at hp; simp at hp
      | some o => rw [hoi] at hp; exact ⟨o, rfl, by simpa using hp⟩
    have he : pick l (i :: is) = o :: pick l is := by simp only [pick, List.map_cons, getD_of ho]
    rw [he] at h
    simp only [wpQuiet] at h
    show wpAnyT P md l.toArray Q (fun _ _ => True) ((fuel + is.length) + 1) listed a w
    by_cases hw : Region.wanted o (yielded l.toArray a.tmps) = true
    · simp only [hw, if_true] at h
      obtain ⟨v, h1, h2⟩ := h
      have hat : ∀ w', (execOp a.eval o).run P w' = .ok (.value v) w' := fun w' => by
        have h3 := h1 w' ⟨⟨w'⟩, rfl⟩
        unfold Oper.quietAt at h3
        cases hrun : (execOp a.eval o).run P w' with
        | ok n w1 =>
          obtain ⟨x, rfl⟩ := tame_val hpo hrun
          rw [hrun] at h3
          obtain ⟨e1, e2⟩ := h3
          rw [e1, e2]
        | halt x w1 => rw [hrun] at h3; exact h3.elim
      exact wpAnyT_first ho (Region.noSelect_spec hs) (fun c a w h => hQ c a _ _ w h) _ listed a w hd (Region.free_spec ho hf) hr' (.inl ⟨hw, fun L W _ _ _ => hat W⟩) trivial (fun _ _ => Iff.rfl) (T_takes2 hs hQ is _ _ (down_step hd hr') hB' h2)
    · simp only [hw] at h
      exact wpAnyT_first (v := undef) ho (Region.noSelect_spec hs) (fun c a w h => hQ c a _ _ w h) _ listed a w hd (Region.free_spec ho hf) hr' (.inr ⟨by simpa using hw, rfl⟩) trivial (fun _ _ => Iff.rfl) (T_takes2 hs hQ is _ _ (down_step hd hr') hB' h)

/-- What stands behind a stretch from the first store on: nothing, or whatever operation. -/
def lateNext (P : Program) (ops : Array Oper) (Q : Exit → Act → World → Prop) (next : Act → World → Prop) (w : World) (a : Act) : Option Oper → Prop
  | none => next a w
  | some o => if Region.wanted o (yielded ops a.tmps) = true then o.wp P a w next Q else next (a.put o.dst undef) w
def wpLate (P : Program) (ops : Array Oper) (Q : Exit → Act → World → Prop) : List (List Oper × Option Oper) → Act → World → Prop
  | [], a, w => Q .normal a w
  | (qs, m) :: rest, a, w => wpQuiet P ops (fun w' => ∃ x : AnyW, w' = x.val) (fun a' => lateNext P ops Q (wpLate P ops Q rest) w a' m) qs a
/-- The walk by a plan of two stages: late is what comes from the store on. -/
def wpStage (P : Program) (ops : Array Oper) (Q : Exit → Act → World → Prop) (late : List (List Oper × Option Oper)) : List (List Oper × Option Oper) → Act → World → Prop
  | [], a, w => wpLate P ops Q late a w
  | (qs, m) :: rest, a, w => wpQuiet P ops (fun w' => ∃ x : Ext w.heap.size w, w' = x.val) (fun a' => planNext P ops Q (wpStage P ops Q late rest) w a' m) qs a

def lateB (md : Region.Mode) (ops : Array Oper) : List (List Nat × Option Nat) → Array Bool → Bool
  | [], listed => (Region.ready md ops listed).isEmpty
  | (is, m) :: rest, listed => takes2B md ops is listed && (match m with
      | none => lateB md ops rest (setAll is listed)
      | some i => (Region.ready md ops (setAll is listed) == [i]) && (ops[i]?).isSome && lateB md ops rest ((setAll is listed).setIfInBounds i true))
def stageB (md : Region.Mode) (ops : Array Oper) (k : Nat) (wk : Array Bool) (late : List (List Nat × Option Nat)) : List (List Nat × Option Nat) → Array Bool → Bool
  | [], listed => (Region.ready md ops listed == [k]) && (ops[k]?).isSome && (listed.setIfInBounds k true).getD k false && (match late with | ([], some k') :: rest => (k' == k) && lateB md ops rest (listed.setIfInBounds k true) | _ => false)
  | (is, m) :: rest, listed => takes1B md ops k wk is listed && (match m with
      | none => stageB md ops k wk late rest (setAll is listed)
      | some i => (i != k) && (Region.ready md ops (setAll is listed) == [i]) && (ops[i]?).isSome && stageB md ops k wk late rest ((setAll is listed).setIfInBounds i true))

theorem mono_quiet {C : World → Prop} {K K' : Act → Prop} (hk : ∀ a, K a → K' a) : ∀ {qs : List Oper} {a : Act}, wpQuiet P ops C K qs a → wpQuiet P ops C K' qs a
    | [], _, h => hk _ h
    | o :: qs, a, h => by
      simp only [wpQuiet] at h ⊢
      split
      · rename_i hw; simp only [hw, if_true] at h; exact Oper.quiet_mono (fun a' h' => mono_quiet hk h') h
      · rename_i hw; simp only [hw] at h; exact mono_quiet hk h

theorem down_all {l : List Oper} {k : Nat} {wk : Array Bool} : ∀ (is : List Nat) (listed : Array Bool), Down md l.toArray listed → takes1B md l.toArray k wk is listed = true → Down md l.toArray (setAll is listed)
  | [], _, hd, _ => hd
  | i :: is, listed, hd, hB => by
    simp only [takes1B, Bool.and_eq_true] at hB
    exact down_all is _ (down_step hd (by simpa using hB.1.1.1.1)) hB.2
theorem down_all2 {l : List Oper} : ∀ (is : List Nat) (listed : Array Bool), Down md l.toArray listed → takes2B md l.toArray is listed = true → Down md l.toArray (setAll is listed)
  | [], _, hd, _ => hd
  | i :: is, listed, hd, hB => by
    simp only [takes2B, Bool.and_eq_true] at hB
    exact down_all2 is _ (down_step hd (by simpa using hB.1.1.1)) hB.2

theorem T_late {l : List Oper} (hs : Region.noSelect l.toArray = true) (hQ : ∀ c a d v w, Q (.panic c) (Act.put a d v) w → Q (.panic c) a w) :
    ∀ (plan : List (List Nat × Option Nat)) (listed : Array Bool) (a : Act) (w : World), Down md l.toArray listed → lateB md l.toArray plan listed = true → wpLate P l.toArray Q (pickP l plan) a w →
      wpAnyT P md l.toArray Q (fun _ _ => True) (planN plan) listed a w
  | [], listed, _, _, _, hB, h => ⟨by simpa [lateB] using hB, h⟩
  | (is, none) :: rest, listed, a, w, hd, hB, h => by
    simp only [lateB, Bool.and_eq_true] at hB
    exact T_takes2 hs hQ is listed a hd hB.1 (mono_quiet (fun a' h' => T_late hs hQ rest _ _ _ (down_all2 is _ hd hB.1) hB.2 h') h)
  | (is, some i) :: rest, listed, a, w, hd, hB, h => by
    simp only [lateB, Bool.and_eq_true] at hB
    obtain ⟨h1, ⟨h2, h3⟩, h4⟩ := hB
    obtain ⟨o, ho⟩ := Option.isSome_iff_exists.1 h3
    have h2' : Region.ready md l.toArray (setAll is listed) = [i] := by simpa using h2
    refine T_takes2 hs hQ is listed a hd h1 (mono_quiet (fun a' h' => ?_) h)
    refine ⟨fun h0 => (by rw [h2'] at h0; cases h0), fun j hj => ?_⟩
    have hj' := hj
    rw [h2'] at hj
    obtain rfl : j = i := by simpa using hj
    simp only [Option.map_some, getD_of ho, lateNext] at h'
    unfold wpOp
    simp only [ho]
    split
    · rename_i hw
      simp only [hw, if_true] at h'
      exact .inl (Oper.wp_mono (fun a'' w'' hk => ⟨trivial, T_late hs hQ rest _ _ _ (down_step (down_all2 is _ hd h1) hj') h4 hk⟩) h')
    · rename_i hw
      simp only [hw] at h'
      exact ⟨trivial, T_late hs hQ rest _ _ _ (down_step (down_all2 is _ hd h1) hj') h4 h'⟩

theorem T_stage {l : List Oper} {k : Nat} {late : List (List Nat × Option Nat)} (hs : Region.noSelect l.toArray = true) (hQ : ∀ c a d v w, Q (.panic c) (Act.put a d v) w → Q (.panic c) a w) :
    ∀ (plan : List (List Nat × Option Nat)) (listed : Array Bool) (a : Act) (w : World), Down md l.toArray listed → stageB md l.toArray k (waitsOn md l.toArray k) late plan listed = true → wpStage P l.toArray Q (pickP l late) (pickP l plan) a w →
      wpAnyT P md l.toArray Q (Ahead k w) (planN plan + planN late) listed a w
  | [], listed, a, w, hd, hB, h => by
    simp only [stageB, Bool.and_eq_true] at hB
    obtain ⟨⟨⟨h1, h2⟩, h3⟩, h4⟩ := hB
    obtain ⟨o, ho⟩ := Option.isSome_iff_exists.1 h2
    have h1' : Region.ready md l.toArray listed = [k] := by simpa using h1
    match late, h4, h with
    | ([], some k') :: rest, h4, h =>
      simp only [Bool.and_eq_true] at h4
      obtain ⟨h5, h6⟩ := h4
      obtain rfl : k' = k := by simpa using h5
      show wpAnyT P md l.toArray Q (Ahead k' w) (planN [] + planN (([], some k') :: rest)) listed a w
      have e : planN [] + planN (([], some k') :: rest) = planN rest + 1 := by simp [planN]
      rw [e]
      refine ⟨fun h0 => (by rw [h1'] at h0; cases h0), fun j hj => ?_⟩
      have hj' := hj
      rw [h1'] at hj
      obtain rfl : j = k' := by simpa using hj
      have hA : ∀ W, Ahead j w (listed.setIfInBounds j true) W := fun W hc => by rw [h3] at hc; cases hc
      have hgo : ∀ a' w', wpLate P l.toArray Q (pickP l rest) a' w' → wpAnyT P md l.toArray Q (Ahead j w) (planN rest) (listed.setIfInBounds j true) a' w' := fun a' w' hh =>
        T_imp (fun L => L.getD j false = true) (fun L i hL => getD_set_true hL) (fun L W hL _ hc => by rw [hL] at hc; cases hc) _ _ _ _ h3 (T_late hs hQ rest _ _ _ (down_step hd hj') h6 hh)
      have h' : lateNext P l.toArray Q (wpLate P l.toArray Q (pickP l rest)) w a (some o) := by
        have := h
        simp only [pickP, List.map_nil, List.map_cons, wpStage, wpLate, pick, wpQuiet, Option.map_some, getD_of ho] at this
        exact this
      simp only [lateNext] at h'
      unfold wpOp
      simp only [ho]
      split
      · rename_i hw
        simp only [hw, if_true] at h'
        exact .inl (Oper.wp_mono (fun a'' w'' hk => ⟨hA _, hgo _ _ hk⟩) h')
      · rename_i hw
        simp only [hw] at h'
        exact ⟨hA _, hgo _ _ h'⟩
  | (is, none) :: rest, listed, a, w, hd, hB, h => by
    simp only [stageB, Bool.and_eq_true] at hB
    have e : planN ((is, none) :: rest) + planN late = (planN rest + planN late) + is.length := by simp [planN]; omega
    rw [e]
    exact T_takes1 hs hQ is listed a hd hB.1 (mono_quiet (fun a' h' => T_stage hs hQ rest _ _ _ (down_all is _ hd hB.1) hB.2 h') h)
  | (is, some i) :: rest, listed, a, w, hd, hB, h => by
    simp only [stageB, Bool.and_eq_true] at hB
    obtain ⟨h1, ⟨⟨h5, h2⟩, h3⟩, h4⟩ := hB
    obtain ⟨o, ho⟩ := Option.isSome_iff_exists.1 h3
    have h2' : Region.ready md l.toArray (setAll is listed) = [i] := by simpa using h2
    have e : planN ((is, some i) :: rest) + planN late = ((planN rest + planN late) + 1) + is.length := by simp [planN]; omega
    rw [e]
    refine T_takes1 hs hQ is listed a hd h1 (mono_quiet (fun a' h' => ?_) h)
    refine ⟨fun h0 => (by rw [h2'] at h0; cases h0), fun j hj => ?_⟩
    have hj' := hj
    rw [h2'] at hj
    obtain rfl : j = i := by simpa using hj
    simp only [Option.map_some, getD_of ho, planNext] at h'
    have hgo : ∀ a'' w'', Below w.heap.size w w'' → wpStage P l.toArray Q (pickP l late) (pickP l rest) a'' w'' → wpAnyT P md l.toArray Q (Ahead k w) (planN rest + planN late) ((setAll is listed).setIfInBounds j true) a'' w'' := fun a'' w'' hb hk =>
      T_imp (fun _ => True) (fun _ _ _ => trivial) (fun L W _ hA hc => hb.trans ((hA hc).mono hb.size)) _ _ _ _ trivial (T_stage hs hQ rest _ _ _ (down_step (down_all is _ hd h1) hj') h4 hk)
    unfold wpOp
    simp only [ho]
    split
    · rename_i hw
      simp only [hw, if_true] at h'
      exact .inl (Oper.wp_mono (fun a'' w'' ⟨hb, hk⟩ => ⟨fun _ => hb, hgo _ _ hb hk⟩) h')
    · rename_i hw
      simp only [hw] at h'
      exact ⟨fun _ => Below.refl _ _, hgo _ _ (Below.refl _ _) h'⟩

def stageOk (l : List Oper) (k : Nat) (plan late : List (List Nat × Option Nat)) : Bool :=
  Region.noSelect l.toArray && stageB .any l.toArray k (waitsOn .any l.toArray k) late plan (Array.replicate l.length false) && (planN plan + planN late == l.length)

theorem wp_region_stage {l : List Oper} {id : Nat} {a : Act} {w : World} (k : Nat) (plan late : List (List Nat × Option Nat)) (hm : P.follows .mixedOrders = true) (hB : stageOk l k plan late = true)
    (h : ∀ w' : World, w'.heap.size = w.heap.size → Below w.heap.size w w' → wpStage P l.toArray (NormalOnly Q) (pickP l late) (pickP l plan) a w') : (Code.region id l.toArray true).wp P Q a w := by
  simp only [stageOk, Bool.and_eq_true] at hB
  obtain ⟨⟨h1, h2⟩, h3⟩ := hB
  have h3 : planN plan + planN late = l.length := by simpa using h3
  refine Code.wp_mono (Q := NormalOnly Q) (fun e a w h => ?_) ?_
  · cases e <;> first | exact h | exact h.elim
  refine wp_region_any hm (wpAny_of_T (S := Ahead k w.drew) _ _ _ _ ?_)
  have hd0 : Down .any l.toArray (Array.replicate l.length false) := fun j o ho hj => by
    rcases Nat.lt_or_ge j l.length with h' | h'
    · simp [h'] at hj
    · simp [h'] at hj
  have := T_stage (P := P) (Q := NormalOnly Q) (md := .any) (k := k) (late := late) h1 (fun _ _ _ _ _ h => h) plan _ a w.drew hd0 h2 (h _ rfl ((Below.refl _ _).drew))
  rw [h3] at this
  simpa using this

theorem stage_cons {l : List Oper} {late : List (List Oper × Option Oper)} {qs : List Oper} {m : Option Oper} {rest : List (List Oper × Option Oper)} {a : Act} {w : World}
    (h : wpQuiet P l.toArray (fun w' => ∃ x : Ext w.heap.size w, w' = x.val) (fun a' => planNext P l.toArray Q (wpStage P l.toArray Q late rest) w a' m) qs a) :
    wpStage P l.toArray Q late ((qs, m) :: rest) a w := h
theorem plan_none {next : Act → World → Prop} {a : Act} {w : World} (h : next a w) : planNext P ops Q next w a none := h
theorem stage_late {l : List Oper} {late : List (List Oper × Option Oper)} {a : Act} {w : World} (h : wpLate P l.toArray Q late a w) : wpStage P l.toArray Q late [] a w := h
theorem late_cons {l : List Oper} {qs : List Oper} {m : Option Oper} {rest : List (List Oper × Option Oper)} {a : Act} {w : World}
    (h : wpQuiet P l.toArray (fun w' => ∃ x : AnyW, w' = x.val) (fun a' => lateNext P l.toArray Q (wpLate P l.toArray Q rest) w a' m) qs a) :
    wpLate P l.toArray Q ((qs, m) :: rest) a w := h
theorem late_nil {C : World → Prop} {m : Option Oper} {next : Act → World → Prop} {a : Act} {w : World} (h : lateNext P ops Q next w a m) : wpQuiet P ops C (fun a' => lateNext P ops Q next w a' m) [] a := h
theorem late_call {o : Oper} {next : Act → World → Prop} {a : Act} {w : World} (hw : Region.wanted o (yielded ops a.tmps) = true)
    (h : ∀ K : Act → World → Prop, Hid (∀ a' w', next a' w' → K a' w') → o.wp P a w K Q) : lateNext P ops Q next w a (some o) := by
  simp only [lateNext]; rw [if_pos hw]; exact h _ (Lib.hid fun _ _ h2 => h2)
theorem late_end {l : List Oper} {a : Act} {w : World} (h : Q .normal a w) : wpLate P l.toArray (NormalOnly Q) [] a w := h
theorem late_none {l : List Oper} {a : Act} {w : World} (h : Q .normal a w) : lateNext P l.toArray (NormalOnly Q) (wpLate P l.toArray (NormalOnly Q) []) w a none := h
end
end Go.Proofs.YtfockoihmoljfaaGreatDoor

/-
  A region that draws its order, inside a round of a range over a function (at the wide fence): the laws of regions hold there too.
-/
namespace Go.Proofs.YtfockoihmoljfaaGreatDoor
open Go.RowKit
set_option linter.unusedSimpArgs false
set_option linter.unusedVariables false
section
variable {P : Program} {Q : Exit → Act → World → Prop} {md : Region.Mode} {l n : Nat}
theorem rows_round {row : String} {args : Array Value} {w : World} {R : Value → World → Prop} (h : Rows P row args w R) : RowsIn (Fence.wide.inRound l) n P row args w R :=
  fun c cs _ => let ⟨v, w', r, s⟩ := h c cs; ⟨v, w', r, (StepsIn.of_steps s).mono fun m _ => fenced_wide P m⟩
theorem oper_round {o : Oper} {a : Act} {w : World} {K : Act → World → Prop} (hd : ∀ c, o.op ≠ .defer c) (h : o.wp P a w K Q) : o.wpIn (Fence.wide.inRound l) n P a w K Q := by
  unfold Oper.wpIn
  refine ⟨fun _ _ => trivial, ?_⟩
  rw [Oper.semAt_plain _ _ _ hd]
  unfold Oper.wp at h
  generalize (execOp a.eval o).run P w = r at *
  cases r with
  | ok x w' =>
    cases x <;> simp only [Oper.upon, Oper.uponIn] at h ⊢
    case value v => exact h
    case skip => exact h
    case defer d => exact h
    case enter f args => exact ⟨fun hh => by simp [Fence.wide] at hh, callsIn_wide.2 h⟩
    case row row args => exact ⟨fun hh => by simp [Fence.wide] at hh, rows_round h⟩
  | halt x w' => cases x <;> simp only [Oper.upon, Oper.uponIn] at h ⊢ <;> exact h
def noDefer (ops : Array Oper) : Bool := ops.all fun o => match o.op with | .defer _ => false | _ => true
theorem noDefer_at {ops : Array Oper} (h : noDefer ops = true) {i : Nat} {o : Oper} (ho : ops[i]? = some o) : ∀ c, o.op ≠ .defer c := by
  intro c hc
  obtain ⟨hi, rfl⟩ := Array.getElem?_eq_some_iff.1 ho
  have := (Array.all_eq_true.1 h) i hi
  rw [hc] at this
  cases this
theorem any_round {ops : Array Oper} (hd : noDefer ops = true) (hL : ¬ LetsOut Q) : ∀ (fuel : Nat) (listed : Array Bool) (a : Act) (w : World), wpAny P md ops Q fuel listed a w → wpAnyIn (Fence.wide.inRound l) n P md ops Q fuel listed a w
  | 0, _, _, _, h => h
  | fuel + 1, listed, a, w, h => by
    refine ⟨h.1, fun i hi => ?_⟩
    have h2 := wpOp_mono (fun a' w' h' => any_round hd hL fuel _ a' w' h') (h.2 i hi)
    unfold wpOp at h2
    unfold wpOpIn
    cases ho : ops[i]? with
    | none => simp only [ho] at h2; exact h2
    | some o =>
      simp only [ho] at h2
      simp only []
      split
      · rename_i hw
        simp only [hw, if_true] at h2
        exact oper_round (noDefer_at hd ho) (h2.resolve_right fun hh => hL hh.2)
      · rename_i hw
        simp only [hw] at h2
        exact ⟨fun _ _ => trivial, h2⟩
theorem wpIn_region_round {id : Nat} {ops : Array Oper} {a : Act} {w : World} (hm : P.follows .mixedOrders = true) (hd : noDefer ops = true) (h : wpAny P .any ops (NormalOnly Q) ops.size (Array.replicate ops.size false) a w.drew) :
    (Code.region id ops true).wpIn (Fence.wide.inRound l) n P Q a w := by
  refine wpIn_mono (Q := NormalOnly Q) (wpIn_region_any hm (any_round hd (fun hL => ?_) _ _ _ _ h)) ?_
  · obtain ⟨_, _, hq⟩ := hL; exact hq
  · rintro e a w h
    cases e <;> first | exact h | exact h.elim
/-- wp_region_stage in a round. -/
theorem wpIn_region_stage {ops : List Oper} {id : Nat} {a : Act} {w : World} (k : Nat) (plan late : List (List Nat × Option Nat)) (hm : P.follows .mixedOrders = true) (hd : noDefer ops.toArray = true) (hB : stageOk ops k plan late = true)
    (h : ∀ w' : World, w'.heap.size = w.heap.size → Below w.heap.size w w' → wpStage P ops.toArray (NormalOnly Q) (pickP ops late) (pickP ops plan) a w') : (Code.region id ops.toArray true).wpIn (Fence.wide.inRound l) n P Q a w := by
  simp only [stageOk, Bool.and_eq_true] at hB
  obtain ⟨⟨h1, h2⟩, h3⟩ := hB
  have h3 : planN plan + planN late = ops.length := by simpa using h3
  refine wpIn_region_round hm hd (wpAny_of_T (S := Ahead k w.drew) _ _ _ _ ?_)
  have hd0 : Down .any ops.toArray (Array.replicate ops.length false) := fun j o ho hj => by
    rcases Nat.lt_or_ge j ops.length with h' | h'
    · simp [h'] at hj
    · simp [h'] at hj
  have := T_stage (P := P) (Q := NormalOnly Q) (md := .any) (k := k) (late := late) h1 (fun _ _ _ _ _ h => h) plan _ a w.drew hd0 h2 (h _ rfl ((Below.refl _ _).drew))
  rw [h3] at this
  simpa using this
end
end Go.Proofs.YtfockoihmoljfaaGreatDoor

/-
  A region that draws its order, by a tree: stretches of plain operations; at a node one, two or three movers may come up; at a leaf the region ends, or its first store comes up.
-/
namespace Go.Proofs.YtfockoihmoljfaaGreatDoor
open Go.RowKit
set_option linter.unusedSimpArgs false
set_option linter.unusedVariables false

inductive PT where
  | fin (is : List Nat)
  | sto (is : List Nat)
  | one (is : List Nat) (i : Nat) (ni : PT)
  | two (is : List Nat) (i : Nat) (ni : PT) (j : Nat) (nj : PT)
  | three (is : List Nat) (i : Nat) (ni : PT) (j : Nat) (nj : PT) (k : Nat) (nk : PT)

section
variable {P : Program} {Q : Exit → Act → World → Prop} {md : Region.Mode}

def wpTree (P : Program) (l : List Oper) (Q : Exit → Act → World → Prop) (late : List (List Oper × Option Oper)) : PT → Act → World → Prop
  | .fin is, a, w => wpQuiet P l.toArray (fun w' => ∃ x : Ext w.heap.size w, w' = x.val) (fun a' => Q .normal a' w) (pick l is) a
  | .sto is, a, w => wpQuiet P l.toArray (fun w' => ∃ x : Ext w.heap.size w, w' = x.val) (fun a' => wpLate P l.toArray Q late a' w) (pick l is) a
  | .one is i ni, a, w => wpQuiet P l.toArray (fun w' => ∃ x : Ext w.heap.size w, w' = x.val) (fun a' => planNext P l.toArray Q (wpTree P l Q late ni) w a' (some (l.getD i default))) (pick l is) a
  | .two is i ni j nj, a, w => wpQuiet P l.toArray (fun w' => ∃ x : Ext w.heap.size w, w' = x.val) (fun a' => planNext P l.toArray Q (wpTree P l Q late ni) w a' (some (l.getD i default)) ∧ planNext P l.toArray Q (wpTree P l Q late nj) w a' (some (l.getD j default))) (pick l is) a
  | .three is i ni j nj k nk, a, w => wpQuiet P l.toArray (fun w' => ∃ x : Ext w.heap.size w, w' = x.val) (fun a' => planNext P l.toArray Q (wpTree P l Q late ni) w a' (some (l.getD i default)) ∧ planNext P l.toArray Q (wpTree P l Q late nj) w a' (some (l.getD j default)) ∧ planNext P l.toArray Q (wpTree P l Q late nk) w a' (some (l.getD k default))) (pick l is) a

/-- How many operations from here on. -/
def PT.size (late : Nat) : PT → Nat
  | .fin is => is.length
  | .sto is => late + is.length
  | .one is _ n => (n.size late + 1) + is.length
  | .two is _ n _ _ => (n.size late + 1) + is.length
  | .three is _ n _ _ _ _ => (n.size late + 1) + is.length

def treeB (md : Region.Mode) (ops : Array Oper) (k : Nat) (wk : Array Bool) (late : List (List Nat × Option Nat)) (ln : Nat) : PT → Array Bool → Bool
  | .fin is, listed => takes1B md ops k wk is listed && (Region.ready md ops (setAll is listed)).isEmpty
  | .sto is, listed => takes1B md ops k wk is listed && stageB md ops k wk late [] (setAll is listed)
  | .one is i n, listed => takes1B md ops k wk is listed && ((i != k) && (Region.ready md ops (setAll is listed) == [i]) && (ops[i]?).isSome && treeB md ops k wk late ln n ((setAll is listed).setIfInBounds i true))
  | .two is i n j n', listed => takes1B md ops k wk is listed && ((i != k) && (j != k) && (n.size ln == n'.size ln) && (Region.ready md ops (setAll is listed) == [i, j]) && (ops[i]?).isSome && (ops[j]?).isSome && treeB md ops k wk late ln n ((setAll is listed).setIfInBounds i true) && treeB md ops k wk late ln n' ((setAll is listed).setIfInBounds j true))
  | .three is i n j n' m n'', listed => takes1B md ops k wk is listed && ((i != k) && (j != k) && (m != k) && (n.size ln == n'.size ln) && (n.size ln == n''.size ln) && (Region.ready md ops (setAll is listed) == [i, j, m]) && (ops[i]?).isSome && (ops[j]?).isSome && (ops[m]?).isSome && treeB md ops k wk late ln n ((setAll is listed).setIfInBounds i true) && treeB md ops k wk late ln n' ((setAll is listed).setIfInBounds j true) && treeB md ops k wk late ln n'' ((setAll is listed).setIfInBounds m true))

/-- One mover comes up. -/
theorem T_mover {l : List Oper} {k i : Nat} {o : Oper} {listed : Array Bool} {fuel : Nat} {a : Act} {w : World} {next : Act → World → Prop} (ho : l.toArray[i]? = some o)
    (hgo : ∀ a'' w'', next a'' w'' → wpAnyT P md l.toArray Q (Ahead k w'') fuel (listed.setIfInBounds i true) a'' w'')
    (h : planNext P l.toArray Q next w a (some (l.getD i default))) :
    wpOp P l.toArray Q i (fun a' w' => Ahead k w (listed.setIfInBounds i true) w' ∧ wpAnyT P md l.toArray Q (Ahead k w) fuel (listed.setIfInBounds i true) a' w') a w := by
  simp only [getD_of ho, planNext] at h
  have hgo' : ∀ a'' w'', Below w.heap.size w w'' → next a'' w'' → wpAnyT P md l.toArray Q (Ahead k w) fuel (listed.setIfInBounds i true) a'' w'' := fun a'' w'' hb hk =>
    T_imp (fun _ => True) (fun _ _ _ => trivial) (fun L W _ hA hc => hb.trans ((hA hc).mono hb.size)) _ _ _ _ trivial (hgo _ _ hk)
  unfold wpOp
  simp only [ho]
  split
  · rename_i hw
    simp only [hw, if_true] at h
    exact .inl (Oper.wp_mono (fun a'' w'' ⟨hb, hk⟩ => ⟨fun _ => hb, hgo' _ _ hb hk⟩) h)
  · rename_i hw
    simp only [hw] at h
    exact ⟨fun _ => Below.refl _ _, hgo' _ _ (Below.refl _ _) h⟩

theorem T_tree {l : List Oper} {k : Nat} {late : List (List Nat × Option Nat)} (hs : Region.noSelect l.toArray = true) (hQ : ∀ c a d v w, Q (.panic c) (Act.put a d v) w → Q (.panic c) a w) :
    ∀ (t : PT) (listed : Array Bool) (a : Act) (w : World), Down md l.toArray listed → treeB md l.toArray k (waitsOn md l.toArray k) late (planN late) t listed = true → wpTree P l Q (pickP l late) t a w →
      wpAnyT P md l.toArray Q (Ahead k w) (t.size (planN late)) listed a w
  | .fin is, listed, a, w, hd, hB, h => by
    simp only [treeB, Bool.and_eq_true] at hB
    have := T_takes1 (fuel := 0) hs hQ is listed a hd hB.1 (mono_quiet (fun a' h' => (⟨by simpa using hB.2, h'⟩ : wpAnyT P md l.toArray Q (Ahead k w) 0 (setAll is listed) a' w)) h)
    simpa [PT.size] using this
  | .sto is, listed, a, w, hd, hB, h => by
    simp only [treeB, Bool.and_eq_true] at hB
    refine T_takes1 hs hQ is listed a hd hB.1 (mono_quiet (fun a' h' => ?_) h)
    have := T_stage (P := P) (Q := Q) (md := md) (k := k) (late := late) hs hQ [] (setAll is listed) a' w (down_all is _ hd hB.1) hB.2 h'
    simpa [planN] using this
  | .one is i n, listed, a, w, hd, hB, h => by
    simp only [treeB, Bool.and_eq_true] at hB
    obtain ⟨h1, ⟨⟨h5, h2⟩, h3⟩, h4⟩ := hB
    obtain ⟨o, ho⟩ := Option.isSome_iff_exists.1 h3
    have h2' : Region.ready md l.toArray (setAll is listed) = [i] := by simpa using h2
    refine T_takes1 hs hQ is listed a hd h1 (mono_quiet (fun a' h' => ?_) h)
    refine ⟨fun h0 => (by rw [h2'] at h0; cases h0), fun q hq => ?_⟩
    have hq' := hq
    rw [h2'] at hq
    obtain rfl : q = i := by simpa using hq
    exact T_mover ho (fun a'' w'' hk => T_tree hs hQ n _ _ _ (down_step (down_all is _ hd h1) hq') h4 hk) h'
  | .two is i n j n', listed, a, w, hd, hB, h => by
    simp only [treeB, Bool.and_eq_true] at hB
    obtain ⟨h1, ⟨⟨⟨⟨⟨⟨⟨_, _⟩, hz⟩, h2⟩, h3⟩, h3'⟩, h4⟩, h4'⟩⟩ := hB
    have hz : n.size (planN late) = n'.size (planN late) := by simpa using hz
    obtain ⟨o, ho⟩ := Option.isSome_iff_exists.1 h3
    obtain ⟨o', ho'⟩ := Option.isSome_iff_exists.1 h3'
    have h2' : Region.ready md l.toArray (setAll is listed) = [i, j] := by simpa using h2
    refine T_takes1 hs hQ is listed a hd h1 (mono_quiet (fun a' h' => ?_) h)
    refine ⟨fun h0 => (by rw [h2'] at h0; cases h0), fun q hq => ?_⟩
    have hq' := hq
    rw [h2'] at hq
    rcases List.mem_cons.1 hq with rfl | hq
    · exact T_mover ho (fun a'' w'' hk => T_tree hs hQ n _ _ _ (down_step (down_all is _ hd h1) hq') h4 hk) h'.1
    · obtain rfl : q = j := by simpa using hq
      exact T_mover ho' (fun a'' w'' hk => hz ▸ T_tree hs hQ n' _ _ _ (down_step (down_all is _ hd h1) hq') h4' hk) h'.2
  | .three is i n j n' m n'', listed, a, w, hd, hB, h => by
    simp only [treeB, Bool.and_eq_true] at hB
    obtain ⟨h1, ⟨⟨⟨⟨⟨⟨⟨⟨⟨⟨⟨_, _⟩, _⟩, hz⟩, hz'⟩, h2⟩, h3⟩, h3'⟩, h3''⟩, h4⟩, h4'⟩, h4''⟩⟩ := hB
    have hz : n.size (planN late) = n'.size (planN late) := by simpa using hz
    have hz' : n.size (planN late) = n''.size (planN late) := by simpa using hz'
    obtain ⟨o, ho⟩ := Option.isSome_iff_exists.1 h3
    obtain ⟨o', ho'⟩ := Option.isSome_iff_exists.1 h3'
    obtain ⟨o'', ho''⟩ := Option.isSome_iff_exists.1 h3''
    have h2' : Region.ready md l.toArray (setAll is listed) = [i, j, m] := by simpa using h2
    refine T_takes1 hs hQ is listed a hd h1 (mono_quiet (fun a' h' => ?_) h)
    refine ⟨fun h0 => (by rw [h2'] at h0; cases h0), fun q hq => ?_⟩
    have hq' := hq
    rw [h2'] at hq
    rcases List.mem_cons.1 hq with rfl | hq
    · exact T_mover ho (fun a'' w'' hk => T_tree hs hQ n _ _ _ (down_step (down_all is _ hd h1) hq') h4 hk) h'.1
    · rcases List.mem_cons.1 hq with rfl | hq
      · exact T_mover ho' (fun a'' w'' hk => hz ▸ T_tree hs hQ n' _ _ _ (down_step (down_all is _ hd h1) hq') h4' hk) h'.2.1
      · obtain rfl : q = m := by simpa using hq
        exact T_mover ho'' (fun a'' w'' hk => hz' ▸ T_tree hs hQ n'' _ _ _ (down_step (down_all is _ hd h1) hq') h4'' hk) h'.2.2

def treeOk (l : List Oper) (k : Nat) (t : PT) (late : List (List Nat × Option Nat)) : Bool :=
  Region.noSelect l.toArray && treeB .any l.toArray k (waitsOn .any l.toArray k) late (planN late) t (Array.replicate l.length false) && (t.size (planN late) == l.length)

theorem wp_region_tree {l : List Oper} {id : Nat} {a : Act} {w : World} (k : Nat) (t : PT) (late : List (List Nat × Option Nat)) (hm : P.follows .mixedOrders = true) (hB : treeOk l k t late = true)
    (h : ∀ w' : World, w'.heap.size = w.heap.size → Below w.heap.size w w' → wpTree P l (NormalOnly Q) (pickP l late) t a w') : (Code.region id l.toArray true).wp P Q a w := by
  simp only [treeOk, Bool.and_eq_true] at hB
  obtain ⟨⟨h1, h2⟩, h3⟩ := hB
  have h3 : t.size (planN late) = l.length := by simpa using h3
  refine Code.wp_mono (Q := NormalOnly Q) (fun e a w h => ?_) ?_
  · cases e <;> first | exact h | exact h.elim
  refine wp_region_any hm (wpAny_of_T (S := Ahead k w.drew) _ _ _ _ ?_)
  have hd0 : Down .any l.toArray (Array.replicate l.length false) := fun j o ho hj => by
    rcases Nat.lt_or_ge j l.length with h' | h'
    · simp [h'] at hj
    · simp [h'] at hj
  have := T_tree (P := P) (Q := NormalOnly Q) (md := .any) (k := k) (late := late) h1 (fun _ _ _ _ _ h => h) t _ a w.drew hd0 h2 (h _ rfl ((Below.refl _ _).drew))
  rw [h3] at this
  simpa using this
theorem tree_fin {l : List Oper} {late : List (List Oper × Option Oper)} {is : List Nat} {a : Act} {w : World} (h : wpQuiet P l.toArray (fun w' => ∃ x : Ext w.heap.size w, w' = x.val) (fun a' => NormalOnly Q .normal a' w) (pick l is) a) : wpTree P l (NormalOnly Q) late (.fin is) a w := h
theorem tree_sto {l : List Oper} {late : List (List Oper × Option Oper)} {is : List Nat} {a : Act} {w : World} (h : wpQuiet P l.toArray (fun w' => ∃ x : Ext w.heap.size w, w' = x.val) (fun a' => wpLate P l.toArray Q late a' w) (pick l is) a) : wpTree P l Q late (.sto is) a w := h
theorem tree_one {l : List Oper} {late : List (List Oper × Option Oper)} {is : List Nat} {i : Nat} {n : PT} {a : Act} {w : World} (h : wpQuiet P l.toArray (fun w' => ∃ x : Ext w.heap.size w, w' = x.val) (fun a' => planNext P l.toArray Q (wpTree P l Q late n) w a' (some (l.getD i default))) (pick l is) a) : wpTree P l Q late (.one is i n) a w := h
theorem tree_two {l : List Oper} {late : List (List Oper × Option Oper)} {is : List Nat} {i j : Nat} {n n' : PT} {a : Act} {w : World} (h : wpQuiet P l.toArray (fun w' => ∃ x : Ext w.heap.size w, w' = x.val) (fun a' => planNext P l.toArray Q (wpTree P l Q late n) w a' (some (l.getD i default)) ∧ planNext P l.toArray Q (wpTree P l Q late n') w a' (some (l.getD j default))) (pick l is) a) : wpTree P l Q late (.two is i n j n') a w := h
theorem tree_three {l : List Oper} {late : List (List Oper × Option Oper)} {is : List Nat} {i j k : Nat} {n n' n'' : PT} {a : Act} {w : World} (h : wpQuiet P l.toArray (fun w' => ∃ x : Ext w.heap.size w, w' = x.val) (fun a' => planNext P l.toArray Q (wpTree P l Q late n) w a' (some (l.getD i default)) ∧ planNext P l.toArray Q (wpTree P l Q late n') w a' (some (l.getD j default)) ∧ planNext P l.toArray Q (wpTree P l Q late n'') w a' (some (l.getD k default))) (pick l is) a) : wpTree P l Q late (.three is i n j n' k n'') a w := h
theorem quiet_end {ops : Array Oper} {C : World → Prop} {K : Act → Prop} {a : Act} (h : K a) : wpQuiet P ops C K [] a := h
theorem normal_end {a : Act} {w : World} (h : Q .normal a w) : NormalOnly Q .normal a w := h
end
end Go.Proofs.YtfockoihmoljfaaGreatDoor

/-
  A region that draws its order, whose movers (makers and stores) touch nothing that lay when it began: its plain operations first, then the movers in whatever order, by a tree.
-/
namespace Go.Proofs.YtfockoihmoljfaaGreatDoor
open Go.RowKit
set_option linter.unusedSimpArgs false
set_option linter.unusedVariables false
section
variable {P : Program} {Q : Exit → Act → World → Prop} {md : Region.Mode}
/-- A mover, and what comes behind it. -/
def movNext (P : Program) (ops : Array Oper) (Q : Exit → Act → World → Prop) (w0 : World) (next : Act → World → Prop) (w : World) (a : Act) (o : Oper) : Prop :=
  if Region.wanted o (yielded ops a.tmps) = true then o.wp P a w (fun a'' w'' => Below w0.heap.size w0 w'' ∧ next a'' w'') Q else next (a.put o.dst undef) w
def wpFix (P : Program) (l : List Oper) (Q : Exit → Act → World → Prop) (w0 : World) : PT → Act → World → Prop
  | .fin _, a, w => Q .normal a w
  | .sto _, _, _ => False
  | .one _ i n, a, w => movNext P l.toArray Q w0 (wpFix P l Q w0 n) w a (l.getD i default)
  | .two _ i n j n', a, w => movNext P l.toArray Q w0 (wpFix P l Q w0 n) w a (l.getD i default) ∧ movNext P l.toArray Q w0 (wpFix P l Q w0 n') w a (l.getD j default)
  | .three _ i n j n' k n'', a, w => movNext P l.toArray Q w0 (wpFix P l Q w0 n) w a (l.getD i default) ∧ movNext P l.toArray Q w0 (wpFix P l Q w0 n') w a (l.getD j default) ∧ movNext P l.toArray Q w0 (wpFix P l Q w0 n'') w a (l.getD k default)
/-- How many movers. -/
def PT.movers : PT → Nat
  | .fin _ => 0
  | .sto _ => 0
  | .one _ _ n => n.movers + 1
  | .two _ _ n _ _ => n.movers + 1
  | .three _ _ n _ _ _ _ => n.movers + 1
def fixB (md : Region.Mode) (ops : Array Oper) : PT → Array Bool → Bool
  | .fin _, listed => (Region.ready md ops listed).isEmpty
  | .sto _, _ => false
  | .one _ i n, listed => (Region.ready md ops listed == [i]) && (ops[i]?).isSome && fixB md ops n (listed.setIfInBounds i true)
  | .two _ i n j n', listed => (n.movers == n'.movers) && (Region.ready md ops listed == [i, j]) && (ops[i]?).isSome && (ops[j]?).isSome && fixB md ops n (listed.setIfInBounds i true) && fixB md ops n' (listed.setIfInBounds j true)
  | .three _ i n j n' k n'', listed => (n.movers == n'.movers) && (n.movers == n''.movers) && (Region.ready md ops listed == [i, j, k]) && (ops[i]?).isSome && (ops[j]?).isSome && (ops[k]?).isSome && fixB md ops n (listed.setIfInBounds i true) && fixB md ops n' (listed.setIfInBounds j true) && fixB md ops n'' (listed.setIfInBounds k true)
theorem held_mover {l : List Oper} {i : Nat} {o : Oper} {listed : Array Bool} {fuel : Nat} {a : Act} {w w0 : World} {next : Act → World → Prop} (ho : l.toArray[i]? = some o) (hw0 : Below w0.heap.size w0 w)
    (hgo : ∀ a'' w'', Below w0.heap.size w0 w'' → next a'' w'' → wpAnyH P md l.toArray Q (Below w0.heap.size w0) fuel (listed.setIfInBounds i true) a'' w'')
    (h : movNext P l.toArray Q w0 next w a (l.getD i default)) :
    wpOp P l.toArray Q i (fun a' w' => Below w0.heap.size w0 w' ∧ wpAnyH P md l.toArray Q (Below w0.heap.size w0) fuel (listed.setIfInBounds i true) a' w') a w := by
  simp only [getD_of ho, movNext] at h
  unfold wpOp
  simp only [ho]
  split
  · rename_i hw
    simp only [hw, if_true] at h
    exact .inl (Oper.wp_mono (fun a'' w'' ⟨hb, hk⟩ => ⟨hb, hgo _ _ hb hk⟩) h)
  · rename_i hw
    simp only [hw] at h
    exact ⟨hw0, hgo _ _ hw0 h⟩
theorem held_fix {l : List Oper} {w0 : World} : ∀ (t : PT) (listed : Array Bool) (a : Act) (w : World), Below w0.heap.size w0 w → fixB md l.toArray t listed = true → wpFix P l Q w0 t a w →
    wpAnyH P md l.toArray Q (Below w0.heap.size w0) t.movers listed a w
  | .fin _, _, _, _, _, hB, h => wpAnyH_done (by simpa [fixB] using hB) h _
  | .sto _, _, _, _, _, hB, h => by simp [fixB] at hB
  | .one _ i n, listed, a, w, hw, hB, h => by
    simp only [fixB, Bool.and_eq_true] at hB
    obtain ⟨⟨h2, h3⟩, h4⟩ := hB
    obtain ⟨o, ho⟩ := Option.isSome_iff_exists.1 h3
    refine wpAnyH_all (rs := [i]) (by simpa using h2) (by simp) fun j hj => ?_
    obtain rfl : j = i := by simpa using hj
    exact held_mover ho hw (fun a'' w'' hb hk => held_fix n _ _ _ hb h4 hk) h
  | .two _ i n j n', listed, a, w, hw, hB, h => by
    simp only [fixB, Bool.and_eq_true] at hB
    obtain ⟨⟨⟨⟨⟨hz, h2⟩, h3⟩, h3'⟩, h4⟩, h4'⟩ := hB
    have hz : n.movers = n'.movers := by simpa using hz
    obtain ⟨o, ho⟩ := Option.isSome_iff_exists.1 h3
    obtain ⟨o', ho'⟩ := Option.isSome_iff_exists.1 h3'
    refine wpAnyH_all (rs := [i, j]) (by simpa using h2) (by simp) fun q hq => ?_
    rcases List.mem_cons.1 hq with rfl | hq
    · exact held_mover ho hw (fun a'' w'' hb hk => held_fix n _ _ _ hb h4 hk) h.1
    · obtain rfl : q = j := by simpa using hq
      exact held_mover ho' hw (fun a'' w'' hb hk => hz ▸ held_fix n' _ _ _ hb h4' hk) h.2
  | .three _ i n j n' k n'', listed, a, w, hw, hB, h => by
    simp only [fixB, Bool.and_eq_true] at hB
    obtain ⟨⟨⟨⟨⟨⟨⟨⟨hz, hz'⟩, h2⟩, h3⟩, h3'⟩, h3''⟩, h4⟩, h4'⟩, h4''⟩ := hB
    have hz : n.movers = n'.movers := by simpa using hz
    have hz' : n.movers = n''.movers := by simpa using hz'
    obtain ⟨o, ho⟩ := Option.isSome_iff_exists.1 h3
    obtain ⟨o', ho'⟩ := Option.isSome_iff_exists.1 h3'
    obtain ⟨o'', ho''⟩ := Option.isSome_iff_exists.1 h3''
    refine wpAnyH_all (rs := [i, j, k]) (by simpa using h2) (by simp) fun q hq => ?_
    rcases List.mem_cons.1 hq with rfl | hq
    · exact held_mover ho hw (fun a'' w'' hb hk => held_fix n _ _ _ hb h4 hk) h.1
    · rcases List.mem_cons.1 hq with rfl | hq
      · exact held_mover ho' hw (fun a'' w'' hb hk => hz ▸ held_fix n' _ _ _ hb h4' hk) h.2.1
      · obtain rfl : q = k := by simpa using hq
        exact held_mover ho'' hw (fun a'' w'' hb hk => hz' ▸ held_fix n'' _ _ _ hb h4'' hk) h.2.2
def fixOk (l : List Oper) (is : List Nat) (t : PT) : Bool :=
  Region.noSelect l.toArray && takesB .any l.toArray is (Array.replicate l.length false) && fixB .any l.toArray t (setAll is (Array.replicate l.length false)) && (t.movers + is.length == l.length)
theorem wp_region_fix {l : List Oper} {id : Nat} {a : Act} {w : World} (is : List Nat) (t : PT) (hm : P.follows .mixedOrders = true) (hB : fixOk l is t = true)
    (h : ∀ w' : World, w'.heap.size = w.heap.size → Below w.heap.size w w' → wpQuiet P l.toArray (fun x => ∃ y : Ext w'.heap.size w', x = y.val) (fun a' => wpFix P l (NormalOnly Q) w' t a' w') (pick l is) a) : (Code.region id l.toArray true).wp P Q a w := by
  simp only [fixOk, Bool.and_eq_true] at hB
  obtain ⟨⟨⟨h1, h2⟩, h4⟩, h3⟩ := hB
  have h3 : t.movers + is.length = l.length := by simpa using h3
  refine Code.wp_mono (Q := NormalOnly Q) (fun e a w h => ?_) ?_
  · cases e <;> first | exact h | exact h.elim
  refine wp_region_held (S := Below w.drew.heap.size w.drew) hm ?_
  have := held_takes (P := P) (Q := NormalOnly Q) (md := .any) (fuel := t.movers) h1 (fun _ _ _ _ _ h => h) is (Array.replicate l.length false) a h2
    (mono_quiet (fun a' h' => held_fix t _ _ _ (Below.refl _ _) h4 h') (h w.drew rfl ((Below.refl _ _).drew)))
  rw [h3] at this
  simpa using this
theorem mov_call {ops : Array Oper} {w0 : World} {o : Oper} {next : Act → World → Prop} {a : Act} {w : World} (hw : Region.wanted o (yielded ops a.tmps) = true)
    (h : ∀ K : Act → World → Prop, Hid (∀ a' w', Below w0.heap.size w0 w' → next a' w' → K a' w') → o.wp P a w K Q) : movNext P ops Q w0 next w a o := by
  simp only [movNext]; rw [if_pos hw]; exact h _ (Lib.hid fun _ _ h1 h2 => ⟨h1, h2⟩)
theorem fix_fin {l : List Oper} {w0 : World} {is : List Nat} {a : Act} {w : World} (h : Q .normal a w) : wpFix P l (NormalOnly Q) w0 (.fin is) a w := h
end
end Go.Proofs.YtfockoihmoljfaaGreatDoor

/-
  A region that draws its order, whose movers touch nothing that lay when it began, but one block r: its plain operations first (none reads r), then the movers in whatever order, by a tree.
-/
namespace Go.Proofs.YtfockoihmoljfaaGreatDoor
open Go.RowKit
set_option linter.unusedSimpArgs false
set_option linter.unusedVariables false
/-- All that lay in w lies so in W, but for the block r. -/
def KeepR (r : Option Nat) (w W : World) : Prop := w.heap.size ≤ W.heap.size ∧ ∀ b, b < w.heap.size → some b ≠ r → W.heap[b]? = w.heap[b]?
structure ExtR (r : Option Nat) (w : World) where
  val : World
  ok : KeepR r w val
section
variable {r : Option Nat} {w W W' : World}
theorem KeepR.refl (r : Option Nat) (w : World) : KeepR r w w := ⟨Nat.le_refl _, fun _ _ _ => rfl⟩
instance (r : Option Nat) (w : World) : Nonempty (ExtR r w) := ⟨⟨w, KeepR.refl r w⟩⟩
theorem KeepR.below (h : KeepR r w W) (hb : Below W.heap.size W W') : KeepR r w W' := ⟨Nat.le_trans h.1 hb.size, fun b hb1 hb2 => (hb.block b (Nat.lt_of_lt_of_le hb1 h.1)).trans (h.2 b hb1 hb2)⟩
theorem KeepR.grown {q : Option Nat} (h : KeepR r w W) (hg : W.grownBy W' q) (hq : ∀ g, q = some g → w.heap.size ≤ g ∨ some g = r) : KeepR r w W' := by
  refine ⟨Nat.le_trans h.1 hg.size, fun b hb1 hb2 => (hg.block b (Nat.lt_of_lt_of_le hb1 h.1) (fun e => ?_)).trans (h.2 b hb1 hb2)⟩
  rcases hq b e.symm with h1 | h1
  · omega
  · exact hb2 h1
theorem KeepR.set (h : KeepR r w W) {p : Addr} {v : Value} (hp : w.heap.size ≤ p.block) : KeepR r w (W.setCell p v) := by
  refine ⟨by simpa using h.1, fun b hb1 hb2 => (heap_setCell_other W p b v (fun e => ?_)).trans (h.2 b hb1 hb2)⟩
  omega
theorem KeepR.drew (h : KeepR r w.drew W) : KeepR r w W := h
theorem ExtR.blk (x : ExtR r w) {b : Nat} {o : Obj} (h : w.heap[b]? = some o) (hr : some b ≠ r) : x.val.heap[b]? = some o := (x.ok.2 b (Array.getElem?_eq_some_iff.1 h).1 hr).trans h
end
section
variable {P : Program} {Q : Exit → Act → World → Prop} {md : Region.Mode}
theorem held_takesR {r : Option Nat} {l : List Oper} {w : World} {fuel : Nat} (hs : Region.noSelect l.toArray = true) (hQ : ∀ c a d v w, Q (.panic c) (Act.put a d v) w → Q (.panic c) a w) :
    ∀ (is : List Nat) (listed : Array Bool) (a : Act), takesB md l.toArray is listed = true →
      wpQuiet P l.toArray (fun w' => ∃ x : ExtR r w, w' = x.val) (fun a' => wpAnyH P md l.toArray Q (KeepR r w) fuel (setAll is listed) a' w) (pick l is) a →
      wpAnyH P md l.toArray Q (KeepR r w) (fuel + is.length) listed a w
  | [], _, _, _, h => h
  | i :: is, listed, a, hB, h => by
    simp only [takesB, Bool.and_eq_true] at hB
    obtain ⟨⟨⟨hr, hf⟩, hp⟩, hB'⟩ := hB
    obtain ⟨o, ho, hpo⟩ : ∃ o, l.toArray[i]? = some o ∧ plainOp o = true := by
      cases hoi : l.toArray[i]? with
      | none => rw [hoi] at hp; simp at hp
      | some o => rw [hoi] at hp; exact ⟨o, rfl, by simpa using hp⟩
    have he : pick l (i :: is) = o :: pick l is := by simp only [pick, List.map_cons, getD_of ho]
    rw [he] at h
    have hC : ∀ {w' : World}, KeepR r w w' → ∃ x : ExtR r w, w' = x.val := fun {w'} hb => ⟨⟨w', hb⟩, rfl⟩
    simp only [wpQuiet] at h
    show wpAnyH P md l.toArray Q (KeepR r w) ((fuel + is.length) + 1) listed a w
    by_cases hw : Region.wanted o (yielded l.toArray a.tmps) = true
    · simp only [hw, if_true] at h
      obtain ⟨v, h1, h2⟩ := h
      refine wpAnyH_take ho hs hf hr (fun c a w h => hQ c a _ _ w h) (.inl ⟨hw, fun w' hw' => ?_⟩) (KeepR.refl _ _) (held_takesR hs hQ is _ _ hB' h2)
      have h3 := h1 w' (hC hw')
      unfold Oper.quietAt at h3
      cases hrun : (execOp a.eval o).run P w' with
      | ok n w1 =>
        obtain ⟨x, rfl⟩ := plain_val hpo hrun
        rw [hrun] at h3
        obtain ⟨e1, e2⟩ := h3
        rw [e1, e2]
      | halt x w1 => rw [hrun] at h3; exact h3.elim
    · simp only [hw] at h
      exact wpAnyH_take ho hs hf hr (fun c a w h => hQ c a _ _ w h) (.inr ⟨by simpa using hw, rfl⟩) (KeepR.refl _ _) (held_takesR hs hQ is _ _ hB' h)
/-- A mover, and what comes behind it. -/
def movNextR (P : Program) (ops : Array Oper) (Q : Exit → Act → World → Prop) (r : Option Nat) (w0 : World) (next : Act → World → Prop) (w : World) (a : Act) (o : Oper) : Prop :=
  if Region.wanted o (yielded ops a.tmps) = true then o.wp P a w (fun a'' w'' => KeepR r w0 w'' ∧ next a'' w'') Q else next (a.put o.dst undef) w
def wpFixR (P : Program) (l : List Oper) (Q : Exit → Act → World → Prop) (r : Option Nat) (w0 : World) : PT → Act → World → Prop
  | .fin _, a, w => Q .normal a w
  | .sto _, _, _ => False
  | .one _ i n, a, w => movNextR P l.toArray Q r w0 (wpFixR P l Q r w0 n) w a (l.getD i default)
  | .two _ i n j n', a, w => movNextR P l.toArray Q r w0 (wpFixR P l Q r w0 n) w a (l.getD i default) ∧ movNextR P l.toArray Q r w0 (wpFixR P l Q r w0 n') w a (l.getD j default)
  | .three _ _ _ _ _ _ _, _, _ => False
def fixRB (md : Region.Mode) (ops : Array Oper) : PT → Array Bool → Bool
  | .fin _, listed => (Region.ready md ops listed).isEmpty
  | .sto _, _ => false
  | .one _ i n, listed => (Region.ready md ops listed == [i]) && (ops[i]?).isSome && fixRB md ops n (listed.setIfInBounds i true)
  | .two _ i n j n', listed => (n.movers == n'.movers) && (Region.ready md ops listed == [i, j]) && (ops[i]?).isSome && (ops[j]?).isSome && fixRB md ops n (listed.setIfInBounds i true) && fixRB md ops n' (listed.setIfInBounds j true)
  | .three _ _ _ _ _ _ _, _ => false
theorem held_moverR {r : Option Nat} {l : List Oper} {i : Nat} {o : Oper} {listed : Array Bool} {fuel : Nat} {a : Act} {w w0 : World} {next : Act → World → Prop} (ho : l.toArray[i]? = some o) (hw0 : KeepR r w0 w)
    (hgo : ∀ a'' w'', KeepR r w0 w'' → next a'' w'' → wpAnyH P md l.toArray Q (KeepR r w0) fuel (listed.setIfInBounds i true) a'' w'')
    (h : movNextR P l.toArray Q r w0 next w a (l.getD i default)) :
    wpOp P l.toArray Q i (fun a' w' => KeepR r w0 w' ∧ wpAnyH P md l.toArray Q (KeepR r w0) fuel (listed.setIfInBounds i true) a' w') a w := by
  simp only [getD_of ho, movNextR] at h
  unfold wpOp
  simp only [ho]
  split
  · rename_i hw
    simp only [hw, if_true] at h
    exact .inl (Oper.wp_mono (fun a'' w'' ⟨hb, hk⟩ => ⟨hb, hgo _ _ hb hk⟩) h)
  · rename_i hw
    simp only [hw] at h
    exact ⟨hw0, hgo _ _ hw0 h⟩
theorem held_fixR {r : Option Nat} {l : List Oper} {w0 : World} : ∀ (t : PT) (listed : Array Bool) (a : Act) (w : World), KeepR r w0 w → fixRB md l.toArray t listed = true → wpFixR P l Q r w0 t a w →
    wpAnyH P md l.toArray Q (KeepR r w0) t.movers listed a w
  | .fin _, _, _, _, _, hB, h => wpAnyH_done (by simpa [fixRB] using hB) h _
  | .sto _, _, _, _, _, hB, h => by simp [fixRB] at hB
  | .one _ i n, listed, a, w, hw, hB, h => by
    simp only [fixRB, Bool.and_eq_true] at hB
    obtain ⟨⟨h2, h3⟩, h4⟩ := hB
    obtain ⟨o, ho⟩ := Option.isSome_iff_exists.1 h3
    refine wpAnyH_all (rs := [i]) (by simpa using h2) (by simp) fun j hj => ?_
    obtain rfl : j = i := by simpa using hj
    exact held_moverR ho hw (fun a'' w'' hb hk => held_fixR n _ _ _ hb h4 hk) h
  | .two _ i n j n', listed, a, w, hw, hB, h => by
    simp only [fixRB, Bool.and_eq_true] at hB
    obtain ⟨⟨⟨⟨⟨hz, h2⟩, h3⟩, h3'⟩, h4⟩, h4'⟩ := hB
    have hz : n.movers = n'.movers := by simpa using hz
    obtain ⟨o, ho⟩ := Option.isSome_iff_exists.1 h3
    obtain ⟨o', ho'⟩ := Option.isSome_iff_exists.1 h3'
    refine wpAnyH_all (rs := [i, j]) (by simpa using h2) (by simp) fun q hq => ?_
    rcases List.mem_cons.1 hq with rfl | hq
    · exact held_moverR ho hw (fun a'' w'' hb hk => held_fixR n _ _ _ hb h4 hk) h.1
    · obtain rfl : q = j := by simpa using hq
      exact held_moverR ho' hw (fun a'' w'' hb hk => hz ▸ held_fixR n' _ _ _ hb h4' hk) h.2
  | .three _ _ _ _ _ _ _, _, _, _, _, hB, h => by simp [fixRB] at hB
def fixROk (l : List Oper) (is : List Nat) (t : PT) : Bool :=
  Region.noSelect l.toArray && takesB .any l.toArray is (Array.replicate l.length false) && fixRB .any l.toArray t (setAll is (Array.replicate l.length false)) && (t.movers + is.length == l.length)
theorem wp_region_fixR {l : List Oper} {id : Nat} {a : Act} {w : World} (r : Option Nat) (is : List Nat) (t : PT) (hm : P.follows .mixedOrders = true) (hB : fixROk l is t = true)
    (h : ∀ w' : World, w'.heap.size = w.heap.size → Below w.heap.size w w' → wpQuiet P l.toArray (fun x => ∃ y : ExtR r w', x = y.val) (fun a' => wpFixR P l (NormalOnly Q) r w' t a' w') (pick l is) a) : (Code.region id l.toArray true).wp P Q a w := by
  simp only [fixROk, Bool.and_eq_true] at hB
  obtain ⟨⟨⟨h1, h2⟩, h4⟩, h3⟩ := hB
  have h3 : t.movers + is.length = l.length := by simpa using h3
  refine Code.wp_mono (Q := NormalOnly Q) (fun e a w h => ?_) ?_
  · cases e <;> first | exact h | exact h.elim
  refine wp_region_held (S := KeepR r w.drew) hm ?_
  have := held_takesR (P := P) (Q := NormalOnly Q) (md := .any) (r := r) (w := w.drew) (fuel := t.movers) h1 (fun _ _ _ _ _ h => h) is (Array.replicate l.length false) a h2
    (mono_quiet (fun a' h' => held_fixR t _ _ _ (KeepR.refl _ _) h4 h') (h w.drew rfl ((Below.refl _ _).drew)))
  rw [h3] at this
  simpa using this
theorem movR_call {ops : Array Oper} {r : Option Nat} {w0 : World} {o : Oper} {next : Act → World → Prop} {a : Act} {w : World} (hw : Region.wanted o (yielded ops a.tmps) = true)
    (h : ∀ K : Act → World → Prop, Hid (∀ a' w', KeepR r w0 w' → next a' w' → K a' w') → o.wp P a w K Q) : movNextR P ops Q r w0 next w a o := by
  simp only [movNextR]; rw [if_pos hw]; exact h _ (Lib.hid fun _ _ h1 h2 => ⟨h1, h2⟩)
theorem fixR_fin {l : List Oper} {r : Option Nat} {w0 : World} {is : List Nat} {a : Act} {w : World} (h : Q .normal a w) : wpFixR P l (NormalOnly Q) r w0 (.fin is) a w := h
end
end Go.Proofs.YtfockoihmoljfaaGreatDoor

/-
  A region that draws its order, whose movers touch nothing that lay when it began, but some blocks X: its plain operations first (none reads X), then the movers in whatever order, by a tree.
-/
namespace Go.Proofs.YtfockoihmoljfaaGreatDoor
open Go.RowKit
set_option linter.unusedSimpArgs false
set_option linter.unusedVariables false
/-- All that lay in w lies so in W, but for the block r. -/
def KeepX (X : Nat → Prop) (w W : World) : Prop := w.heap.size ≤ W.heap.size ∧ ∀ b, b < w.heap.size → ¬ X b → W.heap[b]? = w.heap[b]?
structure ExtX (X : Nat → Prop) (w : World) where
  val : World
  ok : KeepX X w val
section
variable {X : Nat → Prop} {w W W' : World}
theorem KeepX.refl (X : Nat → Prop) (w : World) : KeepX X w w := ⟨Nat.le_refl _, fun _ _ _ => rfl⟩
instance (X : Nat → Prop) (w : World) : Nonempty (ExtX X w) := ⟨⟨w, KeepX.refl X w⟩⟩
theorem KeepX.below (h : KeepX X w W) (hb : Below W.heap.size W W') : KeepX X w W' := ⟨Nat.le_trans h.1 hb.size, fun b hb1 hb2 => (hb.block b (Nat.lt_of_lt_of_le hb1 h.1)).trans (h.2 b hb1 hb2)⟩
theorem KeepX.grown {q : Option Nat} (h : KeepX X w W) (hg : W.grownBy W' q) (hq : ∀ g, q = some g → w.heap.size ≤ g ∨ X g) : KeepX X w W' := by
  refine ⟨Nat.le_trans h.1 hg.size, fun b hb1 hb2 => (hg.block b (Nat.lt_of_lt_of_le hb1 h.1) (fun e => ?_)).trans (h.2 b hb1 hb2)⟩
  rcases hq b e.symm with h1 | h1
  · omega
  · exact hb2 h1
theorem KeepX.set (h : KeepX X w W) {p : Addr} {v : Value} (hp : w.heap.size ≤ p.block ∨ X p.block) : KeepX X w (W.setCell p v) := by
  refine ⟨by simpa using h.1, fun b hb1 hb2 => (heap_setCell_other W p b v (fun e => ?_)).trans (h.2 b hb1 hb2)⟩
  rcases hp with hp | hp
  · omega
  · exact hb2 (e ▸ hp)
theorem KeepX.drew (h : KeepX X w.drew W) : KeepX X w W := h
theorem ExtX.blk (x : ExtX X w) {b : Nat} {o : Obj} (h : w.heap[b]? = some o) (hr : ¬ X b) : x.val.heap[b]? = some o := (x.ok.2 b (Array.getElem?_eq_some_iff.1 h).1 hr).trans h
end
section
variable {P : Program} {Q : Exit → Act → World → Prop} {md : Region.Mode}
theorem held_takesX {X : Nat → Prop} {l : List Oper} {w : World} {fuel : Nat} (hs : Region.noSelect l.toArray = true) (hQ : ∀ c a d v w, Q (.panic c) (Act.put a d v) w → Q (.panic c) a w) :
    ∀ (is : List Nat) (listed : Array Bool) (a : Act), takesB md l.toArray is listed = true →
      wpQuiet P l.toArray (fun w' => ∃ x : ExtX X w, w' = x.val) (fun a' => wpAnyH P md l.toArray Q (KeepX X w) fuel (setAll is listed) a' w) (pick l is) a →
      wpAnyH P md l.toArray Q (KeepX X w) (fuel + is.length) listed a w
  | [], _, _, _, h => h
  | i :: is, listed, a, hB, h => by
    simp only [takesB, Bool.and_eq_true] at hB
    obtain ⟨⟨⟨hr, hf⟩, hp⟩, hB'⟩ := hB
    obtain ⟨o, ho, hpo⟩ : ∃ o, l.toArray[i]? = some o ∧ plainOp o = true := by
      cases hoi : l.toArray[i]? with
      | none => rw [hoi] at hp; simp at hp
      | some o => rw [hoi] at hp; exact ⟨o, rfl, by simpa using hp⟩
    have he : pick l (i :: is) = o :: pick l is := by simp only [pick, List.map_cons, getD_of ho]
    rw [he] at h
    have hC : ∀ {w' : World}, KeepX X w w' → ∃ x : ExtX X w, w' = x.val := fun {w'} hb => ⟨⟨w', hb⟩, rfl⟩
    simp only [wpQuiet] at h
    show wpAnyH P md l.toArray Q (KeepX X w) ((fuel + is.length) + 1) listed a w
    by_cases hw : Region.wanted o (yielded l.toArray a.tmps) = true
    · simp only [hw, if_true] at h
      obtain ⟨v, h1, h2⟩ := h
      refine wpAnyH_take ho hs hf hr (fun c a w h => hQ c a _ _ w h) (.inl ⟨hw, fun w' hw' => ?_⟩) (KeepX.refl _ _) (held_takesX hs hQ is _ _ hB' h2)
      have h3 := h1 w' (hC hw')
      unfold Oper.quietAt at h3
      cases hrun : (execOp a.eval o).run P w' with
      | ok n w1 =>
        obtain ⟨x, rfl⟩ := plain_val hpo hrun
        rw [hrun] at h3
        obtain ⟨e1, e2⟩ := h3
        rw [e1, e2]
      | halt x w1 => rw [hrun] at h3; exact h3.elim
    · simp only [hw] at h
      exact wpAnyH_take ho hs hf hr (fun c a w h => hQ c a _ _ w h) (.inr ⟨by simpa using hw, rfl⟩) (KeepX.refl _ _) (held_takesX hs hQ is _ _ hB' h)
/-- A mover, and what comes behind it. -/
def movNextX (P : Program) (ops : Array Oper) (Q : Exit → Act → World → Prop) (X : Nat → Prop) (w0 : World) (next : Act → World → Prop) (w : World) (a : Act) (o : Oper) : Prop :=
  if Region.wanted o (yielded ops a.tmps) = true then o.wp P a w (fun a'' w'' => KeepX X w0 w'' ∧ next a'' w'') Q else next (a.put o.dst undef) w
def wpFixX (P : Program) (l : List Oper) (Q : Exit → Act → World → Prop) (X : Nat → Prop) (w0 : World) : PT → Act → World → Prop
  | .fin _, a, w => Q .normal a w
  | .sto _, _, _ => False
  | .one _ i n, a, w => movNextX P l.toArray Q X w0 (wpFixX P l Q X w0 n) w a (l.getD i default)
  | .two _ i n j n', a, w => movNextX P l.toArray Q X w0 (wpFixX P l Q X w0 n) w a (l.getD i default) ∧ movNextX P l.toArray Q X w0 (wpFixX P l Q X w0 n') w a (l.getD j default)
  | .three _ _ _ _ _ _ _, _, _ => False
def fixXB (md : Region.Mode) (ops : Array Oper) : PT → Array Bool → Bool
  | .fin _, listed => (Region.ready md ops listed).isEmpty
  | .sto _, _ => false
  | .one _ i n, listed => (Region.ready md ops listed == [i]) && (ops[i]?).isSome && fixXB md ops n (listed.setIfInBounds i true)
  | .two _ i n j n', listed => (n.movers == n'.movers) && (Region.ready md ops listed == [i, j]) && (ops[i]?).isSome && (ops[j]?).isSome && fixXB md ops n (listed.setIfInBounds i true) && fixXB md ops n' (listed.setIfInBounds j true)
  | .three _ _ _ _ _ _ _, _ => false
theorem held_moverX {X : Nat → Prop} {l : List Oper} {i : Nat} {o : Oper} {listed : Array Bool} {fuel : Nat} {a : Act} {w w0 : World} {next : Act → World → Prop} (ho : l.toArray[i]? = some o) (hw0 : KeepX X w0 w)
    (hgo : ∀ a'' w'', KeepX X w0 w'' → next a'' w'' → wpAnyH P md l.toArray Q (KeepX X w0) fuel (listed.setIfInBounds i true) a'' w'')
    (h : movNextX P l.toArray Q X w0 next w a (l.getD i default)) :
    wpOp P l.toArray Q i (fun a' w' => KeepX X w0 w' ∧ wpAnyH P md l.toArray Q (KeepX X w0) fuel (listed.setIfInBounds i true) a' w') a w := by
  simp only [getD_of ho, movNextX] at h
  unfold wpOp
  simp only [ho]
  split
  · rename_i hw
    simp only [hw, if_true] at h
    exact .inl (Oper.wp_mono (fun a'' w'' ⟨hb, hk⟩ => ⟨hb, hgo _ _ hb hk⟩) h)
  · rename_i hw
    simp only [hw] at h
    exact ⟨hw0, hgo _ _ hw0 h⟩
theorem held_fixX {X : Nat → Prop} {l : List Oper} {w0 : World} : ∀ (t : PT) (listed : Array Bool) (a : Act) (w : World), KeepX X w0 w → fixXB md l.toArray t listed = true → wpFixX P l Q X w0 t a w →
    wpAnyH P md l.toArray Q (KeepX X w0) t.movers listed a w
  | .fin _, _, _, _, _, hB, h => wpAnyH_done (by simpa [fixXB] using hB) h _
  | .sto _, _, _, _, _, hB, h => by simp [fixXB] at hB
  | .one _ i n, listed, a, w, hw, hB, h => by
    simp only [fixXB, Bool.and_eq_true] at hB
    obtain ⟨⟨h2, h3⟩, h4⟩ := hB
    obtain ⟨o, ho⟩ := Option.isSome_iff_exists.1 h3
    refine wpAnyH_all (rs := [i]) (by simpa using h2) (by simp) fun j hj => ?_
    obtain rfl : j = i := by simpa using hj
    exact held_moverX ho hw (fun a'' w'' hb hk => held_fixX n _ _ _ hb h4 hk) h
  | .two _ i n j n', listed, a, w, hw, hB, h => by
    simp only [fixXB, Bool.and_eq_true] at hB
    obtain ⟨⟨⟨⟨⟨hz, h2⟩, h3⟩, h3'⟩, h4⟩, h4'⟩ := hB
    have hz : n.movers = n'.movers := by simpa using hz
    obtain ⟨o, ho⟩ := Option.isSome_iff_exists.1 h3
    obtain ⟨o', ho'⟩ := Option.isSome_iff_exists.1 h3'
    refine wpAnyH_all (rs := [i, j]) (by simpa using h2) (by simp) fun q hq => ?_
    rcases List.mem_cons.1 hq with rfl | hq
    · exact held_moverX ho hw (fun a'' w'' hb hk => held_fixX n _ _ _ hb h4 hk) h.1
    · obtain rfl : q = j := by simpa using hq
      exact held_moverX ho' hw (fun a'' w'' hb hk => hz ▸ held_fixX n' _ _ _ hb h4' hk) h.2
  | .three _ _ _ _ _ _ _, _, _, _, _, hB, h => by simp [fixXB] at hB
def fixXOk (l : List Oper) (is : List Nat) (t : PT) : Bool :=
  Region.noSelect l.toArray && takesB .any l.toArray is (Array.replicate l.length false) && fixXB .any l.toArray t (setAll is (Array.replicate l.length false)) && (t.movers + is.length == l.length)
theorem wp_region_fixX {l : List Oper} {id : Nat} {a : Act} {w : World} (X : Nat → Prop) (is : List Nat) (t : PT) (hm : P.follows .mixedOrders = true) (hB : fixXOk l is t = true)
    (h : ∀ w' : World, w'.heap.size = w.heap.size → Below w.heap.size w w' → wpQuiet P l.toArray (fun x => ∃ y : ExtX X w', x = y.val) (fun a' => wpFixX P l (NormalOnly Q) X w' t a' w') (pick l is) a) : (Code.region id l.toArray true).wp P Q a w := by
  simp only [fixXOk, Bool.and_eq_true] at hB
  obtain ⟨⟨⟨h1, h2⟩, h4⟩, h3⟩ := hB
  have h3 : t.movers + is.length = l.length := by simpa using h3
  refine Code.wp_mono (Q := NormalOnly Q) (fun e a w h => ?_) ?_
  · cases e <;> first | exact h | exact h.elim
  refine wp_region_held (S := KeepX X w.drew) hm ?_
  have := held_takesX (P := P) (Q := NormalOnly Q) (md := .any) (X := X) (w := w.drew) (fuel := t.movers) h1 (fun _ _ _ _ _ h => h) is (Array.replicate l.length false) a h2
    (mono_quiet (fun a' h' => held_fixX t _ _ _ (KeepX.refl _ _) h4 h') (h w.drew rfl ((Below.refl _ _).drew)))
  rw [h3] at this
  simpa using this
theorem movX_call {ops : Array Oper} {X : Nat → Prop} {w0 : World} {o : Oper} {next : Act → World → Prop} {a : Act} {w : World} (hw : Region.wanted o (yielded ops a.tmps) = true)
    (h : ∀ K : Act → World → Prop, Hid (∀ a' w', KeepX X w0 w' → next a' w' → K a' w') → o.wp P a w K Q) : movNextX P ops Q X w0 next w a o := by
  simp only [movNextX]; rw [if_pos hw]; exact h _ (Lib.hid fun _ _ h1 h2 => ⟨h1, h2⟩)
theorem fixX_fin {l : List Oper} {X : Nat → Prop} {w0 : World} {is : List Nat} {a : Act} {w : World} (h : Q .normal a w) : wpFixX P l (NormalOnly Q) X w0 (.fin is) a w := h
end
end Go.Proofs.YtfockoihmoljfaaGreatDoor

/-
  A region that draws its order and holds calls that make memory or turn one block: one walk, by a plan (as Grow, with one row that may turn).
-/
namespace Go.Proofs.YtfockoihmoljfaaGreatDoor
open Go.RowKit
set_option linter.unusedSimpArgs false
set_option linter.unusedVariables false

/-- A later world: all but the row r is as it was. -/
structure ExtG (r : Option Nat) (w : World) where
  val : World
  ok : w.grownBy val r
instance (r : Option Nat) (w : World) : Nonempty (ExtG r w) := ⟨⟨w, World.grownBy.refl _ _⟩⟩
theorem ExtG.cell {r : Option Nat} {w : World} (x : ExtG r w) {b j : Nat} {o : Obj} (h : w.heap[b]? = some o) (hne : some b ≠ r) : x.val.heap[b]? = some o := blk_grown h x.ok hne

section
variable {P : Program} {ops : Array Oper} {Q : Exit → Act → World → Prop} {md : Region.Mode} {r : Option Nat}

theorem held_takesG {l : List Oper} {w : World} {fuel : Nat} (hs : Region.noSelect l.toArray = true) (hQ : ∀ c a d v w, Q (.panic c) (Act.put a d v) w → Q (.panic c) a w) :
    ∀ (is : List Nat) (listed : Array Bool) (a : Act), takesB md l.toArray is listed = true →
      wpQuiet P l.toArray (fun w' => ∃ x : ExtG r w, w' = x.val) (fun a' => wpAnyH P md l.toArray Q (fun w' => w.grownBy w' r) fuel (setAll is listed) a' w) (pick l is) a →
      wpAnyH P md l.toArray Q (fun w' => w.grownBy w' r) (fuel + is.length) listed a w
  | [], _, _, _, h => h
  | i :: is, listed, a, hB, h => by
    simp only [takesB, Bool.and_eq_true] at hB
    obtain ⟨⟨⟨hr, hf⟩, hp⟩, hB'⟩ := hB
    obtain ⟨o, ho, hpo⟩ : ∃ o, l.toArray[i]? = some o ∧ plainOp o = true := by
      cases hoi : l.toArray[i]? with
      | none => rw [hoi] at hp; simp at hp
      | some o => rw [hoi] at hp; exact ⟨o, rfl, by simpa using hp⟩
    have he : pick l (i :: is) = o :: pick l is := by simp only [pick, List.map_cons, getD_of ho]
    rw [he] at h
    have hC : ∀ {w' : World}, w.grownBy w' r → ∃ x : ExtG r w, w' = x.val := fun {w'} hb => ⟨⟨w', hb⟩, rfl⟩
    simp only [wpQuiet] at h
    show wpAnyH P md l.toArray Q (fun w' => w.grownBy w' r) ((fuel + is.length) + 1) listed a w
    by_cases hw : Region.wanted o (yielded l.toArray a.tmps) = true
    · simp only [hw, if_true] at h
      obtain ⟨v, h1, h2⟩ := h
      refine wpAnyH_take ho hs hf hr (fun c a w h => hQ c a _ _ w h) (.inl ⟨hw, fun w' hw' => ?_⟩) (World.grownBy.refl _ _) (held_takesG hs hQ is _ _ hB' h2)
      have h3 := h1 w' (hC hw')
      unfold Oper.quietAt at h3
      cases hrun : (execOp a.eval o).run P w' with
      | ok n w1 =>
        obtain ⟨x, rfl⟩ := plain_val hpo hrun
        rw [hrun] at h3
        obtain ⟨e1, e2⟩ := h3
        rw [e1, e2]
      | halt x w1 => rw [hrun] at h3; exact h3.elim
    · simp only [hw] at h
      exact wpAnyH_take ho hs hf hr (fun c a w h => hQ c a _ _ w h) (.inr ⟨by simpa using hw, rfl⟩) (World.grownBy.refl _ _) (held_takesG hs hQ is _ _ hB' h)

/-- What stands behind a stretch: nothing, or a call. -/
def planNextG (r : Option Nat) (P : Program) (ops : Array Oper) (Q : Exit → Act → World → Prop) (next : Act → World → Prop) (w : World) (a : Act) : Option Oper → Prop
  | none => next a w
  | some o => if Region.wanted o (yielded ops a.tmps) = true then o.wp P a w (fun a'' w'' => w.grownBy w'' r ∧ next a'' w'') Q else next (a.put o.dst undef) w
/-- The walk by a plan. -/
def wpPlanG (r : Option Nat) (P : Program) (ops : Array Oper) (Q : Exit → Act → World → Prop) : List (List Oper × Option Oper) → Act → World → Prop
  | [], a, w => Q .normal a w
  | (qs, m) :: rest, a, w => wpQuiet P ops (fun w' => ∃ x : ExtG r w, w' = x.val) (fun a' => planNextG r P ops Q (wpPlanG r P ops Q rest) w a' m) qs a




theorem held_planG {l : List Oper} (hs : Region.noSelect l.toArray = true) (hQ : ∀ c a d v w, Q (.panic c) (Act.put a d v) w → Q (.panic c) a w) :
    ∀ (plan : List (List Nat × Option Nat)) (listed : Array Bool) (a : Act) (w : World), planB md l.toArray plan listed = true → wpPlanG r P l.toArray Q (pickP l plan) a w →
      wpAnyH P md l.toArray Q (fun w' => w.grownBy w' r) (planN plan) listed a w
  | [], _, _, _, hB, h => wpAnyH_done (by simpa [planB] using hB) h _
  | (is, none) :: rest, listed, a, w, hB, h => by
    simp only [planB, Bool.and_eq_true] at hB
    exact held_takesG hs hQ is listed a hB.1 (wpQuiet_mono' (fun a' h' => held_planG hs hQ rest _ _ _ hB.2 h') h)
  | (is, some i) :: rest, listed, a, w, hB, h => by
    simp only [planB, Bool.and_eq_true] at hB
    obtain ⟨h1, ⟨h2, h3⟩, h4⟩ := hB
    obtain ⟨o, ho⟩ := Option.isSome_iff_exists.1 h3
    refine held_takesG hs hQ is listed a h1 (wpQuiet_mono' (fun a' h' => ?_) h)
    refine wpAnyH_all (rs := [i]) (by simpa using h2) (by simp) fun j hj => ?_
    obtain rfl : j = i := by simpa using hj
    simp only [Option.map_some, getD_of ho, planNextG] at h'
    unfold wpOp
    simp only [ho]
    split
    · rename_i hw
      simp only [hw, if_true] at h'
      exact .inl (Oper.wp_mono (fun a'' w'' ⟨hb, hk⟩ => ⟨hb, held_imp (fun w3 hb3 => grown_trans hb hb3) _ _ _ _ (held_planG hs hQ rest _ _ _ h4 hk)⟩) h')
    · rename_i hw
      simp only [hw] at h'
      exact ⟨World.grownBy.refl _ _, held_planG hs hQ rest _ _ _ h4 h'⟩
where
  wpQuiet_mono' {C : World → Prop} {K K' : Act → Prop} (hk : ∀ a, K a → K' a) : ∀ {qs : List Oper} {a : Act}, wpQuiet P l.toArray C K qs a → wpQuiet P l.toArray C K' qs a
    | [], _, h => hk _ h
    | o :: qs, a, h => by
      simp only [wpQuiet] at h ⊢
      split
      · rename_i hw; simp only [hw, if_true] at h; exact Oper.quiet_mono (fun a' h' => wpQuiet_mono' hk h') h
      · rename_i hw; simp only [hw] at h; exact wpQuiet_mono' hk h



theorem wp_region_planG {l : List Oper} {id : Nat} {a : Act} {w : World} (r : Option Nat) (plan : List (List Nat × Option Nat)) (hm : P.follows .mixedOrders = true) (hB : planOk l plan = true)
    (h : ∀ w' : World, w'.heap.size = w.heap.size → Below w.heap.size w w' → wpPlanG r P l.toArray (NormalOnly Q) (pickP l plan) a w') : (Code.region id l.toArray true).wp P Q a w := by
  simp only [planOk, Bool.and_eq_true] at hB
  obtain ⟨⟨h1, h2⟩, h3⟩ := hB
  have h3 : planN plan = l.length := by simpa using h3
  refine Code.wp_mono (Q := NormalOnly Q) (fun e a w h => ?_) ?_
  · cases e <;> first | exact h | exact h.elim
  refine wp_region_held (S := fun w' => w.drew.grownBy w' r) hm ?_
  have := held_planG (P := P) (Q := NormalOnly Q) (md := .any) h1 (fun _ _ _ _ _ h => h) plan (Array.replicate l.length false) a w.drew h2 (h _ rfl ((Below.refl _ _).drew))
  rw [h3] at this
  simpa using this

theorem plang_cons {l : List Oper} {qs : List Oper} {m : Option Oper} {rest : List (List Oper × Option Oper)} {a : Act} {w : World}
    (h : wpQuiet P l.toArray (fun w' => ∃ x : ExtG r w, w' = x.val) (fun a' => planNextG r P l.toArray Q (wpPlanG r P l.toArray Q rest) w a' m) qs a) :
    wpPlanG r P l.toArray Q ((qs, m) :: rest) a w := h
theorem plang_nil {C : World → Prop} {m : Option Oper} {next : Act → World → Prop} {a : Act} {w : World} (h : planNextG r P ops Q next w a m) : wpQuiet P ops C (fun a' => planNextG r P ops Q next w a' m) [] a := h
/-- The call between two stretches. -/
theorem plang_call {o : Oper} {next : Act → World → Prop} {a : Act} {w : World} (hw : Region.wanted o (yielded ops a.tmps) = true)
    (h : ∀ K : Act → World → Prop, Hid (∀ a' w', w.grownBy w' r → next a' w' → K a' w') → o.wp P a w K Q) : planNextG r P ops Q next w a (some o) := by
  simp only [planNextG]; rw [if_pos hw]; exact h _ (Lib.hid fun _ _ h1 h2 => ⟨h1, h2⟩)
theorem plang_pass {o : Oper} {next : Act → World → Prop} {a : Act} {w : World} (hw : Region.wanted o (yielded ops a.tmps) = false)
    (h : next (a.put o.dst undef) w) : planNextG r P ops Q next w a (some o) := by
  simp only [planNextG]; rw [if_neg (by rw [hw]; simp)]; exact h
theorem plang_end {l : List Oper} {a : Act} {w : World} (h : Q .normal a w) : planNextG r P l.toArray (NormalOnly Q) (wpPlanG r P l.toArray (NormalOnly Q) []) w a none := h
end
end Go.Proofs.YtfockoihmoljfaaGreatDoor

/-
  What data that came in read as, type by type: integers, bools, strings, structs and slices, over whatever program.
-/
namespace Go.Proofs.YtfockoihmoljfaaGreatDoor
open Go.RowKit Go.ChangeShapes Go.WideShapes
set_option linter.unusedVariables false

/-- The cells cs read as data of type t in the world w. -/
def Tr {H : Type} (enc : TypeId × Value → H) (P : Program) (w : World) (t : TypeId) (cs : List Value) : Prop := ∃ fuel x, DataW.trod enc P w 0 (fun _ => true) true fuel t cs = some x

section
variable {H : Type} {enc : TypeId × Value → H} {P : Program} {w : World} {t e : TypeId} {cs : List Value}
theorem Tr.of {v : Value} {d : DataW H} {p : List MemPlace} (h : DataW.Trod enc P w 0 (fun _ => true) true t v d p) : Tr enc P w t v.cells.toList := by
  obtain ⟨fuel, hf⟩ := h
  exact ⟨fuel, _, hf⟩
theorem Tr.int {k : IntKind} (ht : P.underlying t = some (.int k)) (h : Tr enc P w t cs) : ∃ n, cs = [.int k n] ∧ (Lit.int k n).wf = true := by
  obtain ⟨fuel, x, hf⟩ := h
  obtain ⟨n, h1, _, h2⟩ := DataW.trod_int ht hf
  exact ⟨n, h1, h2⟩
theorem Tr.i64 (ht : P.underlying t = some (.int .i64)) (h : Tr enc P w t cs) : ∃ n, cs = [.int .i64 n] ∧ -9223372036854775808 ≤ n ∧ n ≤ 9223372036854775807 := by
  obtain ⟨n, h1, h2⟩ := h.int ht
  have hb : -9223372036854775808 ≤ n ∧ n ≤ 9223372036854775807 := by simpa [Lit.wf, IntKind.min, IntKind.max, IntKind.signed, IntKind.bits] using h2
  exact ⟨n, h1, hb⟩
theorem Tr.u8 (ht : P.underlying t = some (.int .u8)) (h : Tr enc P w t cs) : ∃ n : UInt8, cs = [.int .u8 (n.toNat : Int)] := by
  obtain ⟨n, h1, h2⟩ := h.int ht
  have hb : 0 ≤ n ∧ n ≤ 255 := by simpa [Lit.wf, IntKind.min, IntKind.max, IntKind.signed, IntKind.bits] using h2
  exact ⟨UInt8.ofNat n.toNat, by rw [h1, show ((UInt8.ofNat n.toNat).toNat : Int) = n from by simp [UInt8.toNat_ofNat']; omega]⟩
theorem Tr.bool (ht : P.underlying t = some .bool) (h : Tr enc P w t cs) : ∃ b, cs = [.bool b] := by
  obtain ⟨fuel, x, hf⟩ := h
  obtain ⟨n, h1, _⟩ := DataW.trod_bool ht hf
  exact ⟨n, h1⟩
theorem Tr.string (ht : P.underlying t = some .string) (h : Tr enc P w t cs) : ∃ s : ByteArray, cs = [.string s] ∧ s.size ≤ maxLen := by
  obtain ⟨fuel, x, hf⟩ := h
  obtain ⟨n, h1, _, h2⟩ := DataW.trod_string ht hf
  exact ⟨n, h1, h2⟩
theorem Tr.struct {fs : Array Field} (ht : P.underlying t = some (.struct fs)) (h : Tr enc P w t cs) : cs.length = P.cellsOf t ∧ ∀ (j : Nat) (f : Field), fs[j]? = some f → Tr enc P w f.type ((cs.drop f.offset).take (P.cellsOf f.type)) := by
  obtain ⟨fuel, x, hf⟩ := h
  obtain ⟨xs, n, _, _, hl, hlen, hg⟩ := DataW.trod_struct ht hf
  refine ⟨hl, fun j f hj => ?_⟩
  have h1 := hg j f hj
  have hjl : j < fs.size := (Array.getElem?_eq_some_iff.1 hj).1
  have hys : xs[j]? = some (xs[j]'(by omega)) := List.getElem?_eq_getElem (by omega)
  exact ⟨n, _, h1.trans hys⟩
theorem Tr.slice (ht : P.underlying t = some (.slice e)) (h : Tr enc P w t cs) (hk : 0 < P.cellsOf e) :
    ∃ A n c, cs = [.slice A n c] ∧ n ≤ c ∧ c ≤ maxLen ∧ (0 < n → ∃ ad, A = some ad ∧ ad.block < w.heap.size ∧
      ∀ i, i < n → ∃ cs' : List Value, cs'.length = P.cellsOf e ∧ (∀ j, j < P.cellsOf e → w.cell? (ad.add (i * P.cellsOf e + j)) = cs'[j]?) ∧ Tr enc P w e cs') := by
  obtain ⟨fuel, x, hf⟩ := h
  rcases DataW.trod_slice ht hf with ⟨h0, _⟩ | ⟨a, len, cap, elems, rest, n, _, hcs, _, hb, hl, hm, hlen, hel, _, _⟩
  · exact ⟨none, 0, 0, h0, Nat.le_refl _, by unfold maxLen; omega, fun h => absurd h (by omega)⟩
  · have each : ∀ i, i < len → ∃ cs' : List Value, cs'.length = P.cellsOf e ∧ (∀ j, j < P.cellsOf e → w.cell? (a.add (i * P.cellsOf e + j)) = cs'[j]?) ∧ Tr enc P w e cs' := fun i hi => by
      have h1 := hel i hi
      rw [List.getElem?_eq_getElem (by omega)] at h1
      obtain ⟨cs', h2, h3⟩ := Option.bind_eq_some_iff.1 h1
      obtain ⟨_, h4, h5⟩ := World.cells?_some h2
      exact ⟨cs', h4, fun j hj => by rw [← h5 j hj, add_add'], n, _, h3⟩
    refine ⟨some a, len, cap, hcs, hl, hm, fun hn => ⟨a, rfl, ?_, each⟩⟩
    obtain ⟨cs', h1, h2, _⟩ := each 0 (by omega)
    have h3 := h2 0 hk
    rw [List.getElem?_eq_getElem (by omega)] at h3
    have := World.block_lt_of_cell? w _ h3
    rwa [add_block] at this
end

theorem choose_list {α : Type} {n : Nat} {p : Nat → α → Prop} (h : ∀ i, i < n → ∃ a, p i a) : ∃ l : List α, l.length = n ∧ ∀ (i : Nat) (a : α), l[i]? = some a → p i a := by
  induction n with
  | zero => exact ⟨[], rfl, fun i a h => by simp at h⟩
  | succ n ih =>
    obtain ⟨l, hl, hp⟩ := ih fun i hi => h i (by omega)
    obtain ⟨a, ha⟩ := h n (by omega)
    refine ⟨l ++ [a], by simp [hl], fun i b hb => ?_⟩
    rcases Nat.lt_or_ge i n with h1 | h1
    · rw [List.getElem?_append_left (by omega)] at hb
      exact hp i b hb
    · rw [List.getElem?_append_right (by omega), hl] at hb
      have : i - n = 0 := by
        rcases Nat.eq_zero_or_pos (i - n) with h2 | h2
        · exact h2
        · rw [List.getElem?_eq_none (by simp; omega)] at hb; cases hb
      rw [this] at hb
      simp at hb
      subst hb
      obtain rfl : i = n := by omega
      exact ha

/-- A slice whose elements read by R: the elements, and their cells laid end to end. -/
theorem Tr.list {H : Type} {enc : TypeId × Value → H} {P : Program} {w : World} {t e : TypeId} {cs : List Value} {α : Type} (k : Nat) (R : List Value → α → Prop) (ht : P.underlying t = some (.slice e)) (hk : P.cellsOf e = k) (h0 : 0 < k)
    (hR : ∀ cs, Tr enc P w e cs → ∃ a, R cs a) (h : Tr enc P w t cs) :
    ∃ A n c, ∃ els : List (List Value × α), cs = [.slice A n c] ∧ els.length = n ∧ n ≤ c ∧ c ≤ maxLen ∧ (∀ x ∈ els, x.1.length = k ∧ R x.1 x.2) ∧
      (0 < n → ∃ ad, A = some ad ∧ ad.block < w.heap.size ∧ ∀ (j : Nat) (u : Value), (els.flatMap (·.1))[j]? = some u → w.cell? (ad.add j) = some u) := by
  subst hk
  obtain ⟨A, n, c, hcs, hnc, hcm, hx⟩ := h.slice ht h0
  rcases Nat.eq_zero_or_pos n with hn | hn
  · subst hn
    exact ⟨A, 0, c, [], hcs, rfl, hnc, hcm, by simp, fun h => absurd h (by omega)⟩
  · obtain ⟨ad, rfl, hb, hel⟩ := hx hn
    obtain ⟨els, hl, hp⟩ := choose_list (n := n) (p := fun i (x : List Value × α) => x.1.length = P.cellsOf e ∧ (∀ j, j < P.cellsOf e → w.cell? (ad.add (i * P.cellsOf e + j)) = x.1[j]?) ∧ R x.1 x.2) fun i hi => by
      obtain ⟨cs', h1, h2, h3⟩ := hel i hi
      obtain ⟨a, ha⟩ := hR cs' h3
      exact ⟨(cs', a), h1, h2, ha⟩
    have hall : ∀ x ∈ els, x.1.length = P.cellsOf e ∧ R x.1 x.2 := fun x hx => by
      obtain ⟨i, hi, rfl⟩ := List.getElem_of_mem hx
      have := hp i _ (List.getElem?_eq_getElem hi)
      exact ⟨this.1, this.2.2⟩
    refine ⟨_, n, c, els, hcs, hl, hnc, hcm, hall, fun _ => ⟨ad, rfl, hb, ?_⟩⟩
    have key : ∀ (m : Nat) (ls : List (List Value × α)), (∀ (i : Nat) (x : List Value × α), ls[i]? = some x → x.1.length = P.cellsOf e ∧ ∀ j, j < P.cellsOf e → w.cell? (ad.add ((m + i) * P.cellsOf e + j)) = x.1[j]?) →
        ∀ (j : Nat) (u : Value), (ls.flatMap (·.1))[j]? = some u → w.cell? (ad.add (m * P.cellsOf e + j)) = some u := by
      intro m ls
      induction ls generalizing m with
      | nil => intro _ j u hu; simp at hu
      | cons x r ih =>
        intro hq j u hu
        obtain ⟨q1, q2⟩ := hq 0 x rfl
        rw [List.flatMap_cons] at hu
        rcases Nat.lt_or_ge j (P.cellsOf e) with hj | hj
        · rw [List.getElem?_append_left (by omega)] at hu
          have := q2 j hj
          rw [Nat.add_zero] at this
          rw [this, hu]
        · rw [List.getElem?_append_right (by omega), q1] at hu
          have := ih (m + 1) (fun i x hi => by
            have := hq (i + 1) x (by simpa using hi)
            rw [show m + 1 + i = m + (i + 1) by omega]
            exact this) _ u hu
          rw [show m * P.cellsOf e + j = (m + 1) * P.cellsOf e + (j - P.cellsOf e) by rw [Nat.succ_mul]; omega]
          exact this
    intro j u hu
    have := key 0 els (fun i x hi => by have := hp i x hi; rw [Nat.zero_add]; exact ⟨this.1, this.2.1⟩) j u hu
    simpa using this
end Go.Proofs.YtfockoihmoljfaaGreatDoor

/-
  What data that came in read as, with the form's own reach: each slice and string that is met takes at most 2^47 - 4096 bytes.
-/
namespace Go.Proofs.YtfockoihmoljfaaGreatDoor
open Go.RowKit Go.ChangeShapes Go.WideShapes
set_option linter.unusedVariables false

/-- The cells cs read as data of type t in the world w, and nothing that is met is greater than the reach. -/
def TrS {H : Type} (enc : TypeId × Value → H) (P : Program) (w : World) (t : TypeId) (cs : List Value) : Prop := ∃ fuel x, DataW.trod enc P w 0 (fun _ => true) true fuel t cs = some x ∧ ∀ n ∈ x.1.weights P t, n ≤ reachBytes

section
variable {H : Type} {enc : TypeId × Value → H} {P : Program} {w : World} {t e : TypeId} {cs : List Value}
theorem TrS.of {v : Value} {d : DataW H} {p : List MemPlace} {ts : List TypeId} {ds : List (DataW H)} {j : Nat} (hs : (DataW.weightsEach P ts ds).all (· ≤ reachBytes) = true) (h : DataW.Trod enc P w 0 (fun _ => true) true t v d p) (ht : ts[j]? = some t) (hd : ds[j]? = some d) : TrS enc P w t v.cells.toList := by
  obtain ⟨fuel, hf⟩ := h
  refine ⟨fuel, _, hf, fun n hn => ?_⟩
  have := List.all_eq_true.1 hs _ (DataW.weights_mem_each ht hd n hn)
  simpa using this
theorem TrS.tr (h : TrS enc P w t cs) : Tr enc P w t cs := by
  obtain ⟨fuel, x, hf, _⟩ := h
  exact ⟨fuel, x, hf⟩
theorem TrS.string (ht : P.underlying t = some .string) (h : TrS enc P w t cs) : ∃ s : ByteArray, cs = [.string s] ∧ s.size ≤ reachBytes := by
  obtain ⟨fuel, x, hf, hw⟩ := h
  obtain ⟨n, h1, h2, _⟩ := DataW.trod_string ht hf
  refine ⟨n, h1, ?_⟩
  have := hw n.data.toList.length (by rw [h2]; simp [DataW.weights])
  simpa using this
theorem TrS.struct {fs : Array Field} (ht : P.underlying t = some (.struct fs)) (h : TrS enc P w t cs) : cs.length = P.cellsOf t ∧ ∀ (j : Nat) (f : Field), fs[j]? = some f → TrS enc P w f.type ((cs.drop f.offset).take (P.cellsOf f.type)) := by
  obtain ⟨fuel, x, hf, hw⟩ := h
  obtain ⟨xs, n, _, hx, hl, hlen, hg⟩ := DataW.trod_struct ht hf
  refine ⟨hl, fun j f hj => ?_⟩
  have h1 := hg j f hj
  have hjl : j < fs.size := (Array.getElem?_eq_some_iff.1 hj).1
  have hys : xs[j]? = some (xs[j]'(by omega)) := List.getElem?_eq_getElem (by omega)
  refine ⟨n, _, h1.trans hys, fun m hm => hw m ?_⟩
  rw [hx]
  simp only [DataW.weights, ht]
  refine DataW.weights_mem_each (j := j) (t := f.type) (d := (xs[j]'(by omega)).1) ?_ ?_ m hm
  · rw [List.getElem?_map, Array.getElem?_toList, hj]; rfl
  · rw [List.getElem?_map, hys]; rfl
theorem weightsAll_mem {ds : List (DataW H)} {j : Nat} {d : DataW H} (hd : ds[j]? = some d) {n : Nat} (hn : n ∈ d.weights P e) : n ∈ DataW.weightsAll P e ds := by
  induction ds generalizing j with
  | nil => simp at hd
  | cons a r ih =>
    simp only [DataW.weightsAll, List.mem_append]
    cases j with
    | zero => simp at hd; subst hd; exact .inl hn
    | succ j => exact .inr (ih (by simpa using hd))
theorem TrS.slice (ht : P.underlying t = some (.slice e)) (h : TrS enc P w t cs) (hk : 0 < P.cellsOf e) :
    ∃ A n c, cs = [.slice A n c] ∧ n ≤ c ∧ c ≤ maxLen ∧ c * P.bytesOf e ≤ reachBytes ∧ (0 < n → ∃ ad, A = some ad ∧ ad.block < w.heap.size ∧
      ∀ i, i < n → ∃ cs' : List Value, cs'.length = P.cellsOf e ∧ (∀ j, j < P.cellsOf e → w.cell? (ad.add (i * P.cellsOf e + j)) = cs'[j]?) ∧ TrS enc P w e cs') := by
  obtain ⟨fuel, x, hf, hw⟩ := h
  rcases DataW.trod_slice ht hf with ⟨h0, _⟩ | ⟨a, len, cap, elems, rest, n, _, hcs, hx, hb, hl, hm, hlen, hel, hrest, _⟩
  · exact ⟨none, 0, 0, h0, Nat.le_refl _, by unfold maxLen; omega, by simp, fun h => absurd h (by omega)⟩
  · have hr := (hrest rfl).1
    have hwt : cap * P.bytesOf e ≤ reachBytes := by
      have := hw ((elems.length + rest.length) * P.bytesOf e) (by rw [hx]; simp [DataW.weights, ht])
      rwa [show elems.length + rest.length = cap by omega] at this
    have each : ∀ i, i < len → ∃ cs' : List Value, cs'.length = P.cellsOf e ∧ (∀ j, j < P.cellsOf e → w.cell? (a.add (i * P.cellsOf e + j)) = cs'[j]?) ∧ TrS enc P w e cs' := fun i hi => by
      have h1 := hel i hi
      have hys : elems[i]? = some (elems[i]'(by omega)) := List.getElem?_eq_getElem (by omega)
      rw [hys] at h1
      obtain ⟨cs', h2, h3⟩ := Option.bind_eq_some_iff.1 h1
      obtain ⟨_, h4, h5⟩ := World.cells?_some h2
      refine ⟨cs', h4, fun j hj => by rw [← h5 j hj, add_add'], n, _, h3, fun m hm => hw m ?_⟩
      rw [hx]
      simp only [DataW.weights, ht]
      refine List.mem_cons_of_mem _ (List.mem_append_left _ (weightsAll_mem (j := i) (d := (elems[i]'(by omega)).1) ?_ hm))
      rw [List.getElem?_map, hys]; rfl
    refine ⟨some a, len, cap, hcs, hl, hm, hwt, fun hn => ⟨a, rfl, ?_, each⟩⟩
    obtain ⟨cs', h1, h2, _⟩ := each 0 (by omega)
    have h3 := h2 0 hk
    rw [List.getElem?_eq_getElem (by omega)] at h3
    have := World.block_lt_of_cell? w _ h3
    rwa [add_block] at this
end

/-- A slice whose elements read by R: the elements, and their cells laid end to end. -/
theorem TrS.list {H : Type} {enc : TypeId × Value → H} {P : Program} {w : World} {t e : TypeId} {cs : List Value} {α : Type} (k : Nat) (R : List Value → α → Prop) (ht : P.underlying t = some (.slice e)) (hk : P.cellsOf e = k) (h0 : 0 < k)
    (hR : ∀ cs, TrS enc P w e cs → ∃ a, R cs a) (h : TrS enc P w t cs) :
    ∃ A n c, ∃ els : List (List Value × α), cs = [.slice A n c] ∧ els.length = n ∧ n ≤ c ∧ c ≤ maxLen ∧ c * P.bytesOf e ≤ reachBytes ∧ (∀ x ∈ els, x.1.length = k ∧ R x.1 x.2) ∧
      (0 < n → ∃ ad, A = some ad ∧ ad.block < w.heap.size ∧ ∀ (j : Nat) (u : Value), (els.flatMap (·.1))[j]? = some u → w.cell? (ad.add j) = some u) := by
  subst hk
  obtain ⟨A, n, c, hcs, hnc, hcm, hcw, hx⟩ := h.slice ht h0
  rcases Nat.eq_zero_or_pos n with hn | hn
  · subst hn
    exact ⟨A, 0, c, [], hcs, rfl, hnc, hcm, hcw, by simp, fun h => absurd h (by omega)⟩
  · obtain ⟨ad, rfl, hb, hel⟩ := hx hn
    obtain ⟨els, hl, hp⟩ := choose_list (n := n) (p := fun i (x : List Value × α) => x.1.length = P.cellsOf e ∧ (∀ j, j < P.cellsOf e → w.cell? (ad.add (i * P.cellsOf e + j)) = x.1[j]?) ∧ R x.1 x.2) fun i hi => by
      obtain ⟨cs', h1, h2, h3⟩ := hel i hi
      obtain ⟨a, ha⟩ := hR cs' h3
      exact ⟨(cs', a), h1, h2, ha⟩
    have hall : ∀ x ∈ els, x.1.length = P.cellsOf e ∧ R x.1 x.2 := fun x hx => by
      obtain ⟨i, hi, rfl⟩ := List.getElem_of_mem hx
      have := hp i _ (List.getElem?_eq_getElem hi)
      exact ⟨this.1, this.2.2⟩
    refine ⟨_, n, c, els, hcs, hl, hnc, hcm, hcw, hall, fun _ => ⟨ad, rfl, hb, ?_⟩⟩
    have key : ∀ (m : Nat) (ls : List (List Value × α)), (∀ (i : Nat) (x : List Value × α), ls[i]? = some x → x.1.length = P.cellsOf e ∧ ∀ j, j < P.cellsOf e → w.cell? (ad.add ((m + i) * P.cellsOf e + j)) = x.1[j]?) →
        ∀ (j : Nat) (u : Value), (ls.flatMap (·.1))[j]? = some u → w.cell? (ad.add (m * P.cellsOf e + j)) = some u := by
      intro m ls
      induction ls generalizing m with
      | nil => intro _ j u hu; simp at hu
      | cons x r ih =>
        intro hq j u hu
        obtain ⟨q1, q2⟩ := hq 0 x rfl
        rw [List.flatMap_cons] at hu
        rcases Nat.lt_or_ge j (P.cellsOf e) with hj | hj
        · rw [List.getElem?_append_left (by omega)] at hu
          have := q2 j hj
          rw [Nat.add_zero] at this
          rw [this, hu]
        · rw [List.getElem?_append_right (by omega), q1] at hu
          have := ih (m + 1) (fun i x hi => by
            have := hq (i + 1) x (by simpa using hi)
            rw [show m + 1 + i = m + (i + 1) by omega]
            exact this) _ u hu
          rw [show m * P.cellsOf e + j = (m + 1) * P.cellsOf e + (j - P.cellsOf e) by rw [Nat.succ_mul]; omega]
          exact this
    intro j u hu
    have := key 0 els (fun i x hi => by have := hp i x hi; rw [Nat.zero_add]; exact ⟨this.1, this.2.1⟩) j u hu
    simpa using this
end Go.Proofs.YtfockoihmoljfaaGreatDoor

/-
  A row that lists variables, its world's shape kept: words over whatever program.
-/
namespace Go.Proofs.YtfockoihmoljfaaGreatDoor
variable {H : Type} {enc : TypeId × Value → H}

theorem handed_tied {a : Assume} {C : Checked} {os : Os} {f : FuncId} {fn : Func} {s : ChangeSpec} {conds : List PathCond} {apart fresh handsOn again : Bool} {X : World → Array Value → Prop}
    (hX : ∀ (w w' : World) (args : Array Value), w.heap = w'.heap → X w args → X w' args)
    (own : ownKnob C.prog.godebug = none) (started : os.Started) (noInit : C.prog.inits.idxOf? f = none) (hfn : C.prog.funcs[f]? = some fn)
    (witness : ∃ (w : World) (tape : Tape) (i : Input), w.os = os ∧ (w.forCall tape i).Shaped C.prog ∧ i.vars = [] ∧ Input.okWide C.prog (w.forCall tape i) .any w.heap.size f i ∧
      ((s.pre enc C.prog fn conds apart (w.forCall tape i).memory i.args ∧ X (w.forCall tape i).memory i.args) ∧ sizedMet enc C.prog fn (OpenSpec.ofChange s) apart (w.forCall tape i).memory i.args) ∧ a.holds C.prog (lone (Frame.enter C.prog f i.args .normal) [] (w.forCall tape i)))
    (contract : ∀ (W : World) (base : Nat) (args : Array Value) (ds gs : List (DataW H)) (before : List MemPlace),
      (∀ (j : Nat) t v, fn.params[j]? = some t → args[j]? = some v → Value.okWide C.prog W .any base t v) →
      DataW.Whole enc C.prog fn.params.toList s.vars apart W args.toList ds gs before →
      (DataW.weightsEach C.prog (fn.params.toList ++ s.plain.varTypes C.prog) (ds ++ gs)).all (· ≤ reachBytes) = true → X W args → W.ShapedOpen C.prog →
      Calls C.prog f args W fun e W' => ∃ v, e = .returned v ∧ s.post enc C.prog fn apart fresh handsOn again W args v W') :
    ReturnsInHanded a C os f .any (fun w args => (s.pre enc C.prog fn conds apart w args ∧ X w args) ∧ sizedMet enc C.prog fn (OpenSpec.ofChange s) apart w args) (s.post enc C.prog fn apart fresh handsOn again) := by
  refine returnsInHanded_of_calls own started noInit witness ?_
  intro w tape i _ hsh _ hok hpre hholds
  obtain ⟨_, _, _, fn', hfn', _, _, _, _, hval⟩ := hok
  have e : fn' = fn := Option.some.inj (hfn'.symm.trans hfn)
  subst e
  obtain ⟨⟨⟨ds, gs, before, hw, hc⟩, hx⟩, hz⟩ := hpre
  have hw' := DataW.Whole.of_heap (w' := w.forCall tape i) (by rfl) hw
  refine (contract (w.forCall tape i) w.heap.size i.args ds gs before hval hw' (hz.weights hw) (hX _ _ _ (by rfl) hx) hsh).mono fun e W' ⟨v, he, hp⟩ => ?_
  subst he
  exact ChangeSpec.post_blind hp

/-- A world that meets the listed variables. -/
theorem witness_tied {C : Checked} {os : Os} {f : FuncId} {fn : Func} {s : ChangeSpec} {conds : List PathCond} {apart : Bool} {X : World → Array Value → Prop} (w0 : World) (args : Array Value) (fuel : Nat) (hos : w0.os = os)
    (hsh : (w0.forCall (fun _ _ => 0) ⟨#[], args, []⟩).Shaped C.prog)
    (hok : Input.okWideB C.prog (w0.forCall (fun _ _ => 0) ⟨#[], args, []⟩) f ⟨#[], args, []⟩ = true)
    (hpre : s.preB enc C.prog fn conds apart (w0.forCall (fun _ _ => 0) ⟨#[], args, []⟩).memory args fuel = true)
    (hsz : s.sizedB enc C.prog fn apart (w0.forCall (fun _ _ => 0) ⟨#[], args, []⟩).memory args fuel = true)
    (hx : X (w0.forCall (fun _ _ => 0) ⟨#[], args, []⟩).memory args) :
    ∃ (w : World) (tape : Tape) (i : Input), w.os = os ∧ (w.forCall tape i).Shaped C.prog ∧ i.vars = [] ∧ Input.okWide C.prog (w.forCall tape i) .any w.heap.size f i ∧
      ((s.pre enc C.prog fn conds apart (w.forCall tape i).memory i.args ∧ X (w.forCall tape i).memory i.args) ∧ sizedMet enc C.prog fn (OpenSpec.ofChange s) apart (w.forCall tape i).memory i.args) ∧ ({} : Assume).holds C.prog (lone (Frame.enter C.prog f i.args .normal) [] (w.forCall tape i)) :=
  ⟨w0, fun _ _ => 0, ⟨#[], args, []⟩, hos, hsh, (Input.okWide_of_okWideB (base := 0) hok).1, (Input.okWide_of_okWideB hok).2, ⟨⟨ChangeSpec.pre_of_preB hpre, hx⟩, sizedMet_of_sizedB hsz⟩, by
    simp only [Assume.holds]
    exact ⟨by simp, by simp, by simp, by simp, by simp⟩⟩
end Go.Proofs.YtfockoihmoljfaaGreatDoor

