/-
  Words for memory, over whatever program: a slice that reads as a list of one-cell values (nil let in), a row that a call owns, what 'Below' keeps of them.
-/
import Derived.WalkKit
import Derived.Below
import Derived.Laws.OwnMore
import Derived.Maps.AppendAt
import Derived.Deep.AppendLies
import Derived.Deep.Draws
import Derived.Lib.Hide
import Derived.OwnWalk
namespace Go.Proofs.Ytfacdoemgalodaa
open Go.RowKit

theorem add_block (a : Addr) (n : Nat) : (a.add n).block = a.block := by unfold Addr.add; split <;> rfl
theorem add_add' (a : Addr) (i j : Nat) : (a.add i).add j = a.add (i + j) := by
  unfold Addr.add
  by_cases hi : i = 0 <;> by_cases hj : j = 0 <;> simp [hi, hj, Nat.add_assoc]
theorem add_zero' (a : Addr) : a.add 0 = a := by unfold Addr.add; simp
theorem add_lit0 (g j : Nat) : (⟨g, 0, none⟩ : Addr).add j = ⟨g, j, none⟩ := by unfold Addr.add; split <;> simp_all

/-- The slice value '.slice A n c' reads as the cells xs, and lies below block B. -/
def Rd (w : World) (B : Nat) (A : Option Addr) (n c : Nat) (xs : List Value) : Prop :=
  xs.length = n ∧ n ≤ c ∧ c ≤ maxLen ∧ (0 < n → ∃ ad, A = some ad ∧ ad.block < B ∧ ∀ j u, xs[j]? = some u → w.cell? (ad.add j) = some u)

/-- A byte as a cell. -/
def bcell (c : UInt8) : Value := .int .u8 (c.toNat : Int)
def bv (l : List UInt8) : List Value := l.map bcell
theorem bv_length (l : List UInt8) : (bv l).length = l.length := List.length_map _
theorem bv_append (l r : List UInt8) : bv (l ++ r) = bv l ++ bv r := List.map_append
theorem bv_take (l : List UInt8) (k : Nat) : (bv l).take k = bv (l.take k) := by unfold bv; rw [List.map_take]
theorem bv_drop (l : List UInt8) (k : Nat) : (bv l).drop k = bv (l.drop k) := by unfold bv; rw [List.map_drop]
theorem bv_set (l : List UInt8) (k : Nat) (c : UInt8) : (bv l).set k (bcell c) = bv (l.set k c) := by unfold bv; rw [List.map_set]
theorem bv_nil : bv [] = [] := rfl
theorem bv_one (l : List UInt8) : ∀ u ∈ bv l, u.oneCell' = true := by
  intro u hu
  simp only [bv, List.mem_map] at hu
  obtain ⟨c, _, rfl⟩ := hu
  rfl
theorem bcell_inj {a b : UInt8} (h : bcell a = bcell b) : a = b := by
  unfold bcell at h
  injection h with _ h
  exact UInt8.toNat_inj.1 (by omega)
theorem bv_inj {l r : List UInt8} (h : bv l = bv r) : l = r := by
  unfold bv at h
  exact List.map_inj_right (fun _ _ => bcell_inj) |>.1 h

/-- The slice value '.slice A n c' reads as the bytes l. -/
def RdB (w : World) (B : Nat) (A : Option Addr) (n c : Nat) (l : List UInt8) : Prop := Rd w B A n c (bv l)

section
variable {w w' : World} {B B' : Nat} {A : Option Addr} {n c : Nat} {xs : List Value} {l : List UInt8}

theorem Rd.keep (h : Rd w B A n c xs) (hk : ∀ p : Addr, p.block < B → w'.cell? p = w.cell? p) : Rd w' B A n c xs :=
  ⟨h.1, h.2.1, h.2.2.1, fun hn => by
    obtain ⟨ad, e, hb, hc⟩ := h.2.2.2 hn
    exact ⟨ad, e, hb, fun j u hu => (hk _ (by rw [add_block]; exact hb)).trans (hc j u hu)⟩⟩
theorem Rd.more (h : Rd w B A n c xs) (hB : B ≤ B') : Rd w B' A n c xs :=
  ⟨h.1, h.2.1, h.2.2.1, fun hn => by
    obtain ⟨ad, e, hb, hc⟩ := h.2.2.2 hn
    exact ⟨ad, e, by omega, hc⟩⟩
theorem Rd.below (h : Rd w B A n c xs) (hb : Below B w w') : Rd w' B A n c xs := h.keep fun _ hp => hb.cell hp
theorem Rd.drew (h : Rd w B A n c xs) : Rd w.drew B A n c xs := h
theorem Rd.drewN (h : Rd w B A n c xs) (k : Nat) : Rd (w.drewN k) B A n c xs := h
theorem Rd.alloc (h : Rd w B A n c xs) (hB : B ≤ w.heap.size) (o : Obj) : Rd (w.alloc o) B A n c xs := h.keep fun p hp => World.cell?_alloc_lt w o p (by omega)
theorem Rd.setCell (h : Rd w B A n c xs) {p : Addr} (hB : B ≤ p.block) (u : Value) : Rd (w.setCell p u) B A n c xs :=
  h.keep fun q hq => World.cell?_setCell_other w p q u (fun e => by subst e; omega)
theorem Rd.grown (h : Rd w B A n c xs) {row : Option Nat} (hg : w.grownBy w' row) (hB : B ≤ w.heap.size) (hr : ∀ g, row = some g → B ≤ g) : Rd w' B A n c xs :=
  h.keep fun p hp => World.cell?_of_block (hg.block p.block (by omega) (fun e => by have := hr _ e.symm; omega))
theorem Rd.len (h : Rd w B A n c xs) : xs.length = n := h.1
theorem Rd.le (h : Rd w B A n c xs) : n ≤ c := h.2.1
theorem Rd.max (h : Rd w B A n c xs) : c ≤ 9223372036854775807 := h.2.2.1
theorem Rd.nil (w : World) (B : Nat) : Rd w B none 0 0 [] := ⟨rfl, Nat.le_refl _, by unfold maxLen; omega, fun h => absurd h (by omega)⟩
theorem Rd.at_ (h : Rd w B A n c xs) {k : Nat} (hk : k < n) : ∃ ad u, A = some ad ∧ ad.block < B ∧ xs[k]? = some u ∧ w.cell? (ad.add k) = some u := by
  obtain ⟨ad, e, hb, hc⟩ := h.2.2.2 (by omega)
  have hl : k < xs.length := by have := h.1; omega
  exact ⟨ad, xs[k], e, hb, List.getElem?_eq_getElem hl, hc k _ (List.getElem?_eq_getElem hl)⟩
/-- A cut 's[k:]' (the model's own if on the capacity). -/
theorem Rd.cut (h : Rd w B A n c xs) {k : Nat} (hk : k ≤ n) : Rd w B (if c = k then A else A.map (·.add k)) (n - k) (c - k) (xs.drop k) := by
  refine ⟨by rw [List.length_drop, h.1], by have := h.le; omega, by have := h.2.2.1; omega, fun hn => ?_⟩
  obtain ⟨ad, rfl, hb, hcell⟩ := h.2.2.2 (by omega)
  rw [if_neg (by have := h.le; omega)]
  refine ⟨ad.add k, rfl, by rw [add_block]; exact hb, fun j u hu => ?_⟩
  rw [add_add']
  exact hcell _ u (by rw [← hu, List.getElem?_drop])
/-- A cut 's[:k]'. -/
theorem Rd.upto (h : Rd w B A n c xs) {k : Nat} (hk : k ≤ n) : Rd w B A k c (xs.take k) := by
  refine ⟨by rw [List.length_take, h.1]; omega, by have := h.le; omega, h.2.2.1, fun hn => ?_⟩
  obtain ⟨ad, rfl, hb, hcell⟩ := h.2.2.2 (by omega)
  refine ⟨ad, rfl, hb, fun j u hu => hcell j u ?_⟩
  rw [List.getElem?_take] at hu
  split at hu
  · exact hu
  · cases hu
theorem RdB.at_ (h : RdB w B A n c l) {k : Nat} (hk : k < n) (hl : k < l.length) : ∃ ad, A = some ad ∧ ad.block < B ∧ w.cell? (ad.add k) = some (.int .u8 (l[k].toNat : Int)) := by
  obtain ⟨ad, u, e, hb, hu, hc⟩ := Rd.at_ h hk
  refine ⟨ad, e, hb, hc.trans ?_⟩
  rw [← hu]; simp [bv, bcell, hl]
theorem RdB.len (h : RdB w B A n c l) : l.length = n := by have := h.1; rwa [bv_length] at this
theorem RdB.le (h : RdB w B A n c l) : n ≤ c := Rd.le h
theorem RdB.max (h : RdB w B A n c l) : c ≤ 9223372036854775807 := Rd.max h
theorem RdB.below (h : RdB w B A n c l) (hb : Below B w w') : RdB w' B A n c l := Rd.below h hb
theorem RdB.drewN (h : RdB w B A n c l) (k : Nat) : RdB (w.drewN k) B A n c l := h
theorem RdB.more (h : RdB w B A n c l) (hB : B ≤ B') : RdB w B' A n c l := Rd.more h hB
theorem RdB.alloc (h : RdB w B A n c l) (hB : B ≤ w.heap.size) (o : Obj) : RdB (w.alloc o) B A n c l := Rd.alloc h hB o
theorem RdB.grown (h : RdB w B A n c l) {row : Option Nat} (hg : w.grownBy w' row) (hB : B ≤ w.heap.size) (hr : ∀ g, row = some g → B ≤ g) : RdB w' B A n c l := Rd.grown h hg hB hr
theorem RdB.cut (h : RdB w B A n c l) {k : Nat} (hk : k ≤ n) : RdB w B (if c = k then A else A.map (·.add k)) (n - k) (c - k) (l.drop k) := by
  have := Rd.cut h hk; rwa [bv_drop] at this
theorem RdB.upto (h : RdB w B A n c l) {k : Nat} (hk : k ≤ n) : RdB w B A k c (l.take k) := by
  have := Rd.upto h hk; rwa [bv_take] at this
theorem RdB.nil (w : World) (B : Nat) : RdB w B none 0 0 [] := Rd.nil w B

/-- What a call owns is a slice that reads. -/
theorem own_rd {base : Nat} {e : TypeId} {v : Value} (h : w.ownsRow base e 1 v n xs) : ∃ A c, v = .slice A n c ∧ Rd w w.heap.size A n c xs := by
  have h1 : xs.length = n := by have := h.1; omega
  rcases h.2 with ⟨rfl, rfl⟩ | ⟨g, cap, cur, rfl, _, hg, hnc, hcm, hcs, htake⟩
  · exact ⟨none, 0, rfl, h1, Nat.le_refl _, by unfold maxLen; omega, fun h => absurd h (by omega)⟩
  · exact ⟨some ⟨g, 0, none⟩, cap, rfl, h1, hnc, hcm, fun _ => ⟨⟨g, 0, none⟩, rfl, (Array.getElem?_eq_some_iff.1 hg).1, h.cells (g := g) rfl⟩⟩
theorem own_rdB {base : Nat} {e : TypeId} {v : Value} (h : w.ownsRow base e 1 v n (bv l)) : ∃ A c, v = .slice A n c ∧ RdB w w.heap.size A n c l := own_rd h
theorem own_below {base : Nat} {e : TypeId} {v : Value} {size : Nat} (h : w.ownsRow base e size v n xs) (hb : Below w.heap.size w w') : w'.ownsRow base e size v n xs := by
  refine ⟨h.1, ?_⟩
  rcases h.2 with hn | ⟨g, cap, cur, rfl, hbg, hgg, rest⟩
  · exact .inl hn
  · exact .inr ⟨g, cap, cur, rfl, hbg, (hb.block g (Array.getElem?_eq_some_iff.1 hgg).1).trans hgg, rest⟩
theorem own_mono {base base' : Nat} {e : TypeId} {v : Value} {size : Nat} (h : w.ownsRow base e size v n xs) (hb : base' ≤ base) : w.ownsRow base' e size v n xs := by
  refine ⟨h.1, ?_⟩
  rcases h.2 with hn | ⟨g, cap, cur, rfl, hbg, rest⟩
  · exact .inl hn
  · exact .inr ⟨g, cap, cur, rfl, by omega, rest⟩
theorem own_lt {base : Nat} {e : TypeId} {v : Value} {size : Nat} (h : w.ownsRow base e size v n xs) : ∀ g, v.ownBlock = some g → base ≤ g := fun g hg => (h.lt g hg).1

/-- A slice over a whole new block. -/
theorem Rd.newF (w : World) (cs : Array Value) (t : TypeId) (fr : Nat × Nat) (n : Nat) (hn : cs.size = n) (hm : n ≤ 9223372036854775807) : Rd (w.alloc (.cells cs t fr)) (w.heap.size + 1) (some ⟨w.heap.size, 0, none⟩) n n cs.toList :=
  ⟨by simpa using hn, Nat.le_refl _, by unfold maxLen; omega, fun _ => ⟨_, rfl, by simp, fun j u hu => by
    rw [add_lit0]
    rw [cell_of_row (w.alloc (.cells cs t fr)) w.heap.size j cs t fr (heap_alloc_new w _)]
    simpa using hu⟩⟩
theorem Rd.new (w : World) (cs : Array Value) (t : TypeId) (n : Nat) (hn : cs.size = n) (hm : n ≤ 9223372036854775807) : Rd (w.alloc (.cells cs t)) (w.heap.size + 1) (some ⟨w.heap.size, 0, none⟩) n n cs.toList := Rd.newF w cs t (0, 0) n hn hm

/-- What a slice's element type is in the program's table. -/
structure El (P : Program) (t e : TypeId) (z : Value) (bytes : Nat) : Prop where
  u : P.underlying t = some (.slice e)
  i : (P.info? e).map (fun i => (i.zero, i.size, i.bytes)) = some (some z, 1, bytes)
  one : z.cells.size = 1

section
variable {P : Program} {t e ty : TypeId} {z : Value} {bytes : Nat} {base : Nat} {v : Value} {m cm : Nat} {news : List Value} {Am : Option Addr}
theorem run_app (E : El P t e z bytes) (hown : w.ownsRow base e 1 v n xs) (hr : Rd w B Am m cm news) (h1 : ∀ u ∈ news, u.oneCell' = true)
    (hbytes : (n + m) * bytes ≤ 140737488355328) (h63 : n + m ≤ 140737488355328) (hbase : base ≤ w.heap.size) :
    ∃ v' w', (Builtin.append_ #[t, t] ty #[v, .slice Am m cm]).run P w = .ok v' w' ∧ w'.ownsRow base e 1 v' (n + m) (xs ++ news) ∧ w.grownBy w' v.ownBlock ∧
      (v'.ownBlock = v.ownBlock ∨ v'.ownBlock = some w.heap.size) := by
  obtain ⟨i, hi, hz0, hz1, hz2⟩ := info_parts E.i
  rcases Am with _ | ad
  · have hm : m = 0 := by
      rcases Nat.eq_zero_or_pos m with h0 | h0
      · exact h0
      · obtain ⟨ad, h, _⟩ := hr.2.2.2 h0
        cases h
    subst hm
    have hn : news = [] := List.eq_nil_of_length_eq_zero hr.1
    subst hn
    refine ⟨v, w, ?_, by simpa using hown, World.grownBy.refl w _, .inl rfl⟩
    rcases hown.2 with ⟨rfl, rfl⟩ | ⟨g, cap, cur, rfl, _, _, hnc, _⟩
    · simp [Builtin.append_, run_underlying E.u, sizeOf, typeInfo, hi, Builtin.lenOf, Builtin.firstCells]
    · simp [Builtin.append_, run_underlying E.u, sizeOf, typeInfo, hi, Builtin.lenOf, Builtin.firstCells, hnc, storeCells]
  · have hcells : ∀ j u, news[j]? = some u → w.cell? (ad.add j) = some u := by
      intro j u hu
      rcases Nat.eq_zero_or_pos m with h0 | h0
      · subst h0
        have hn : news = [] := List.eq_nil_of_length_eq_zero hr.1
        subst hn
        simp at hu
      · obtain ⟨ad', h, _, hc⟩ := hr.2.2.2 h0
        injection h with h
        subst h
        exact hc j u hu
    obtain ⟨v', w', hrun, h2, h3, _, h5⟩ := run_append_own_at (P := P) w base t ty e i z 1 bytes E.u hi hz0 hz1 hz2 E.one (by decide) v n xs hown ad m cm news (by rw [hr.1]; omega) hcells h1 (by unfold maxLen; omega) hbytes hbase
    exact ⟨v', w', hrun, h2, h3, h5⟩

/-- append onto a row of the call's own; the source nil, empty or not. -/
theorem wpList_app {ops : Array Oper} {rest : List Oper} {o : Oper} {a : Act} {Q : Exit → Act → World → Prop} (s x : Operand) (E : El P t e z bytes)
    (hown : w.ownsRow base e 1 v n xs) (hr : Rd w B Am m cm news) (h1 : ∀ u ∈ news, u.oneCell' = true)
    (hbytes : (n + m) * bytes ≤ 140737488355328) (h63 : n + m ≤ 140737488355328) (hbase : base ≤ w.heap.size) (hgd : o.guard = none)
    (ho : o.op = .call { callee := .builtin .append, args := #[s, x], argTypes := #[t, t] })
    (hs : a.eval s = v) (hx : a.eval x = .slice Am m cm)
    (h : ∀ v' w', w'.ownsRow base e 1 v' (n + m) (xs ++ news) → w.grownBy w' v.ownBlock → (v'.ownBlock = v.ownBlock ∨ v'.ownBlock = some w.heap.size) → wpList P ops Q rest (a.put o.dst v') w') :
    wpList P ops Q (o :: rest) a w := by
  refine wpList_plain hgd fun K hK => ?_
  obtain ⟨v', w', hrun, h2, h3, h4⟩ := run_app (ty := o.type) E hown hr h1 hbytes h63 hbase
  unfold Oper.wp execOp
  simp only [ho, resolve, invoke, builtin, Sem.run_bind, Sem.run_pure, Result.andThen_ok, List.map_toArray, List.map_cons, List.map_nil, hs, hx, hrun]
  exact hK _ _ (h v' w' h2 h3 h4)
end
theorem below_drewN' {B : Nat} {a : World} (h : Below B a w) (k : Nat) : Below B a (w.drewN k) := ⟨h.os, h.tape, h.output, h.size, h.block⟩
theorem below_cell {W w1 : World} (hb : Below W.heap.size W w1) : (∀ b o, b < W.heap.size → w1.cell? ⟨b, o, none⟩ = W.cell? ⟨b, o, none⟩) ∧ (∀ b o, b < W.heap.size → w1.frozen? ⟨b, o, none⟩ = W.frozen? ⟨b, o, none⟩) :=
  ⟨fun b o h => hb.cell (p := ⟨b, o, none⟩) h, fun b o h => hb.frozen (p := ⟨b, o, none⟩) h⟩
/-- A new block, then a growth: what was there before but for the row is kept. -/
theorem grownBy_of_alloc {o : Obj} {row : Option Nat} (h : (w.alloc o).grownBy w' row) : w.grownBy w' row :=
  ⟨h.os, h.tape, h.output, Nat.le_trans (by simp) h.size, fun k hk hne => (h.block k (by simp; omega) hne).trans (Below.heap_alloc w o k hk)⟩
theorem below_of_grown {row : Option Nat} {B : Nat} (h : w.grownBy w' row) (hB : B ≤ w.heap.size) (hr : ∀ g, row = some g → B ≤ g) : Below B w w' := (Below.refl B w).grown h hB hr
theorem below_of_alloc_grown {o : Obj} {row : Option Nat} (h : (w.alloc o).grownBy w' row) (hr : ∀ g, row = some g → w.heap.size ≤ g) : Below w.heap.size w w' :=
  below_of_grown (grownBy_of_alloc h) (Nat.le_refl _) hr
/-- A quiet call, for a contract that states 'w = w''. -/
theorem quiet_eq {P : Program} {f : FuncId} {args : Array Value} {k : Nat} {v : Value} (h : Calls P f args (w.drewN k) fun e w' => e = .returned v ∧ w.drewN k = w') :
    Calls P f args (w.drewN k) fun e w'' => e = .returned v ∧ ∃ m, w'' = w.drewN m := h.mono fun _ _ ⟨he, hm⟩ => ⟨he, k, hm.symm⟩
theorem quiet_add {P : Program} {f : FuncId} {args : Array Value} {k : Nat} {v : Value} (h : Calls P f args (w.drewN k) fun e w' => e = .returned v ∧ ∃ m, w' = (w.drewN k).drewN m) :
    Calls P f args (w.drewN k) fun e w'' => e = .returned v ∧ ∃ m, w'' = w.drewN m := h.mono fun _ _ ⟨he, m, hm⟩ => ⟨he, k + m, by rw [hm, World.drewN_drewN]⟩
theorem ret_bool {a b : Bool} (h : a = b) : Ending.returned (.bool a) = .returned (.bool b) := by rw [h]
theorem ret_int {k : IntKind} {a b : Int} (h : a = b) : Ending.returned (.int k a) = .returned (.int k b) := by rw [h]
end
end Go.Proofs.Ytfacdoemgalodaa
