/-
  Slices of places: what they read as; feed's 'within', 'all' over places.
-/
import Derived.Test.YtfacdoemgalodaaProg
import Derived.KernelRfl
import Derived.Test.YtfacdoemgalodaaExt
namespace Go.Proofs.Ytfacdoemgalodaa
open Go.RowKit
set_option linter.unusedVariables false
set_option linter.unusedSimpArgs false

theorem add_sub (a : Addr) (i j : Nat) : a.add (i + (j + 1)) = ⟨(a.add i).block, (a.add i).off + (j + 1), none⟩ := by
  unfold Addr.add
  by_cases hi : i = 0 <;> simp [hi, Nat.add_assoc]

/-- The slice value '.slice A n c' reads as n elements of k cells each, laid end to end, all below block B. -/
def RdK (k : Nat) (w : World) (B : Nat) (A : Option Addr) (n c : Nat) (xs : List Value) : Prop :=
  xs.length = n * k ∧ n ≤ c ∧ c ≤ maxLen ∧ (0 < n → ∃ ad, A = some ad ∧ ad.block < B ∧ ∀ (j : Nat) (u : Value), xs[j]? = some u → w.cell? (ad.add j) = some u)

section
variable {k : Nat} {w w' : World} {B B' : Nat} {A : Option Addr} {n c : Nat} {xs : List Value}
theorem RdK.keep (h : RdK k w B A n c xs) (hk : ∀ p : Addr, p.block < B → w'.cell? p = w.cell? p) : RdK k w' B A n c xs :=
  ⟨h.1, h.2.1, h.2.2.1, fun hn => by
    obtain ⟨ad, e, hb, hc⟩ := h.2.2.2 hn
    exact ⟨ad, e, hb, fun j u hu => (hk _ (by rw [add_block]; exact hb)).trans (hc j u hu)⟩⟩
theorem RdK.more (h : RdK k w B A n c xs) (hB : B ≤ B') : RdK k w B' A n c xs :=
  ⟨h.1, h.2.1, h.2.2.1, fun hn => by
    obtain ⟨ad, e, hb, hc⟩ := h.2.2.2 hn
    exact ⟨ad, e, by omega, hc⟩⟩
theorem RdK.below (h : RdK k w B A n c xs) (hb : Below B w w') : RdK k w' B A n c xs := h.keep fun _ hp => hb.cell hp
theorem RdK.drewN (h : RdK k w B A n c xs) (m : Nat) : RdK k (w.drewN m) B A n c xs := h
theorem RdK.len (h : RdK k w B A n c xs) : xs.length = n * k := h.1
theorem RdK.le (h : RdK k w B A n c xs) : n ≤ c := h.2.1
theorem RdK.max (h : RdK k w B A n c xs) : c ≤ 9223372036854775807 := h.2.2.1
theorem RdK.nil (k : Nat) (w : World) (B : Nat) : RdK k w B none 0 0 [] := ⟨by simp, Nat.le_refl _, by unfold maxLen; omega, fun h => absurd h (by omega)⟩
theorem RdK.upto (h : RdK k w B A n c xs) {m : Nat} (hm : m ≤ n) : RdK k w B A m c (xs.take (m * k)) := by
  refine ⟨by rw [List.length_take, h.1]; exact Nat.min_eq_left (Nat.mul_le_mul_right _ hm), by have := h.le; omega, h.2.2.1, fun hn => ?_⟩
  obtain ⟨ad, rfl, hb, hcell⟩ := h.2.2.2 (by omega)
  refine ⟨ad, rfl, hb, fun j u hu => hcell j u ?_⟩
  rw [List.getElem?_take] at hu
  split at hu
  · exact hu
  · cases hu
/-- A cut 's[m:]'. -/
theorem RdK.cut (h : RdK k w B A n c xs) {m : Nat} (hm : m ≤ n) : RdK k w B (if c = m then A else A.map (·.add (m * k))) (n - m) (c - m) (xs.drop (m * k)) := by
  refine ⟨by rw [List.length_drop, h.1, Nat.sub_mul], by have := h.le; omega, by have := h.2.2.1; omega, fun hn => ?_⟩
  obtain ⟨ad, rfl, hb, hcell⟩ := h.2.2.2 (by omega)
  rw [if_neg (by have := h.le; omega)]
  refine ⟨ad.add (m * k), rfl, by rw [add_block]; exact hb, fun j u hu => ?_⟩
  rw [add_add']
  exact hcell _ u (by rw [← hu, List.getElem?_drop])
/-- What a call owns is a slice that reads. -/
theorem own_rdK {base : Nat} {e : TypeId} {v : Value} (h : w.ownsRow base e k v n xs) : ∃ A c, v = .slice A n c ∧ RdK k w w.heap.size A n c xs := by
  have h1 : xs.length = n * k := h.1
  rcases h.2 with ⟨rfl, rfl⟩ | ⟨g, cap, cur, rfl, _, hg, hnc, hcm, hcs, htake⟩
  · exact ⟨none, 0, rfl, h1, Nat.le_refl _, by unfold maxLen; omega, fun h => absurd h (by omega)⟩
  · exact ⟨some ⟨g, 0, none⟩, cap, rfl, h1, hnc, hcm, fun _ => ⟨⟨g, 0, none⟩, rfl, (Array.getElem?_eq_some_iff.1 hg).1, h.cells (g := g) rfl⟩⟩
/-- A slice over a whole new block. -/
theorem RdK.new (k : Nat) (w : World) (cs : Array Value) (t : TypeId) (fr : Nat × Nat) (n : Nat) (hn : cs.size = n * k) (hm : n ≤ 9223372036854775807) : RdK k (w.alloc (.cells cs t fr)) (w.heap.size + 1) (some ⟨w.heap.size, 0, none⟩) n n cs.toList :=
  ⟨by simpa using hn, Nat.le_refl _, by unfold maxLen; omega, fun _ => ⟨_, rfl, by simp, fun j u hu => by
    rw [add_lit0]
    rw [cell_of_row (w.alloc (.cells cs t fr)) w.heap.size j cs t fr (heap_alloc_new w _)]
    simpa using hu⟩⟩
end

/-- What a slice's element type is in the program's table. -/
structure ElK (P : Program) (k : Nat) (t e : TypeId) (z : Value) (bytes : Nat) : Prop where
  u : P.underlying t = some (.slice e)
  i : (P.info? e).map (fun i => (i.zero, i.size, i.bytes)) = some (some z, k, bytes)
  one : z.cells.size = k
  pos : 0 < k

section
variable {P : Program} {t e ty : TypeId} {z : Value} {k bytes : Nat} {base B n c : Nat} {v : Value} {m cm : Nat} {xs news : List Value} {Am : Option Addr} {w : World}
theorem run_appK (E : ElK P k t e z bytes) (hown : w.ownsRow base e k v n xs) (hr : RdK k w B Am m cm news) (h1 : ∀ u ∈ news, u.oneCell' = true)
    (hbytes : (n + m) * bytes ≤ 140737488355328) (h63 : n + m ≤ 140737488355328) (hbase : base ≤ w.heap.size) :
    ∃ v' w', (Builtin.append_ #[t, t] ty #[v, .slice Am m cm]).run P w = .ok v' w' ∧ w'.ownsRow base e k v' (n + m) (xs ++ news) ∧ w.grownBy w' v.ownBlock ∧
      (v'.ownBlock = v.ownBlock ∨ v'.ownBlock = some w.heap.size) := by
  obtain ⟨i, hi, hz0, hz1, hz2⟩ := info_parts E.i
  rcases Am with _ | ad
  · have hm : m = 0 := by
      rcases Nat.eq_zero_or_pos m with h0 | h0
      · exact h0
      · obtain ⟨ad, h, _⟩ := hr.2.2.2 h0
        cases h
    subst hm
    have hn : news = [] := List.eq_nil_of_length_eq_zero (by have := hr.1; simpa using this)
    subst hn
    refine ⟨v, w, ?_, by simpa using hown, World.grownBy.refl w _, .inl rfl⟩
    rcases hown.2 with ⟨rfl, rfl⟩ | ⟨g, cap, cur, rfl, _, _, hnc, _⟩
    · simp [Builtin.append_, run_underlying E.u, sizeOf, typeInfo, hi, Builtin.lenOf, Builtin.firstCells]
    · simp [Builtin.append_, run_underlying E.u, sizeOf, typeInfo, hi, Builtin.lenOf, Builtin.firstCells, hnc, storeCells]
  · have hcells : ∀ j u, news[j]? = some u → w.cell? (ad.add j) = some u := by
      intro j u hu
      rcases Nat.eq_zero_or_pos m with h0 | h0
      · subst h0
        have hn : news = [] := List.eq_nil_of_length_eq_zero (by have := hr.1; simpa using this)
        subst hn
        simp at hu
      · obtain ⟨ad', h, _, hc⟩ := hr.2.2.2 h0
        injection h with h
        subst h
        exact hc j u hu
    obtain ⟨v', w', hrun, h2, h3, _, h5⟩ := run_append_own_at (P := P) w base t ty e i z k bytes E.u hi hz0 hz1 hz2 E.one E.pos v n xs hown ad m cm news hr.1 hcells h1 (by unfold maxLen; omega) hbytes hbase
    exact ⟨v', w', hrun, h2, h3, h5⟩

/-- append onto a row of the call's own; the source nil, empty or not; elements of k cells. -/
theorem wpList_appK {ops : Array Oper} {rest : List Oper} {o : Oper} {a : Act} {Q : Exit → Act → World → Prop} (s x : Operand) (E : ElK P k t e z bytes)
    (hown : w.ownsRow base e k v n xs) (hr : RdK k w B Am m cm news) (h1 : ∀ u ∈ news, u.oneCell' = true)
    (hbytes : (n + m) * bytes ≤ 140737488355328) (h63 : n + m ≤ 140737488355328) (hbase : base ≤ w.heap.size) (hgd : o.guard = none)
    (ho : o.op = .call { callee := .builtin .append, args := #[s, x], argTypes := #[t, t] })
    (hs : a.eval s = v) (hx : a.eval x = .slice Am m cm)
    (h : ∀ v' w', w'.ownsRow base e k v' (n + m) (xs ++ news) → w.grownBy w' v.ownBlock → (v'.ownBlock = v.ownBlock ∨ v'.ownBlock = some w.heap.size) → wpList P ops Q rest (a.put o.dst v') w') :
    wpList P ops Q (o :: rest) a w := by
  refine wpList_plain hgd fun K hK => ?_
  obtain ⟨v', w', hrun, h2, h3, h4⟩ := run_appK (ty := o.type) E hown hr h1 hbytes h63 hbase
  unfold Oper.wp execOp
  simp only [ho, resolve, invoke, builtin, Sem.run_bind, Sem.run_pure, Result.andThen_ok, List.map_toArray, List.map_cons, List.map_nil, hs, hx, hrun]
  exact hK _ _ (h v' w' h2 h3 h4)
end

/-- Elements of k cells each, laid end to end. -/
theorem flat_get {α : Type} {f : α → List Value} {k : Nat} (hf : ∀ x, (f x).length = k) (l : List α) (i j : Nat) (hi : i < l.length) (hj : j < k) : (l.flatMap f)[i * k + j]? = (f l[i])[j]? := by
  induction l generalizing i with
  | nil => simp at hi
  | cons x r ih =>
    cases i with
    | zero => rw [List.flatMap_cons, List.getElem?_append_left (by rw [hf]; omega)]; simp
    | succ i =>
      rw [List.flatMap_cons, List.getElem?_append_right (by rw [hf, Nat.succ_mul]; omega), hf, show (i + 1) * k + j - k = i * k + j by rw [Nat.succ_mul]; omega]
      simpa using ih i (by simpa using hi)
theorem flat_length {α : Type} {f : α → List Value} {k : Nat} (hf : ∀ x, (f x).length = k) (l : List α) : (l.flatMap f).length = l.length * k := by
  induction l with
  | nil => simp
  | cons x r ih => rw [List.flatMap_cons, List.length_append, hf, ih, List.length_cons, Nat.succ_mul]; omega
theorem flat_take {α : Type} {f : α → List Value} {k : Nat} (hf : ∀ x, (f x).length = k) (l : List α) (m : Nat) : (l.flatMap f).take (m * k) = (l.take m).flatMap f := by
  induction l generalizing m with
  | nil => simp
  | cons x r ih =>
    cases m with
    | zero => simp
    | succ m => rw [List.flatMap_cons, List.take_succ_cons, List.flatMap_cons, Nat.succ_mul, Nat.add_comm, List.take_append, hf, Nat.add_sub_cancel_left, ih, List.take_of_length_le (by rw [hf]; omega)]
theorem flat_drop {α : Type} {f : α → List Value} {k : Nat} (hf : ∀ x, (f x).length = k) (l : List α) (m : Nat) : (l.flatMap f).drop (m * k) = (l.drop m).flatMap f := by
  induction l generalizing m with
  | nil => simp
  | cons x r ih =>
    cases m with
    | zero => simp
    | succ m => rw [List.flatMap_cons, List.drop_succ_cons, Nat.succ_mul, Nat.add_comm, List.drop_append, hf, Nat.add_sub_cancel_left, ih, List.drop_of_length_le (by rw [hf]; omega)]; simp

/-- A place: slot, room. -/
abbrev Pl := Int × Int
def okI (z : Int) : Prop := -9223372036854775808 ≤ z ∧ z ≤ 9223372036854775807
def pcell (p : Pl) : List Value := [.int .i64 p.1, .int .i64 p.2]
theorem pcell_length (p : Pl) : (pcell p).length = 2 := rfl
def pv (l : List Pl) : List Value := l.flatMap pcell
theorem pv_append (l r : List Pl) : pv (l ++ r) = pv l ++ pv r := List.flatMap_append
theorem pv_one (l : List Pl) : ∀ u ∈ pv l, u.oneCell' = true := by
  intro u hu
  simp only [pv, List.mem_flatMap] at hu
  obtain ⟨p, _, hp⟩ := hu
  simp [pcell] at hp
  rcases hp with rfl | rfl <;> rfl
def okPs (l : List Pl) : Prop := ∀ p ∈ l, okI p.1 ∧ okI p.2
def RdP (w : World) (B : Nat) (A : Option Addr) (n c : Nat) (l : List Pl) : Prop := RdK 2 w B A n c (pv l) ∧ okPs l

section
variable {w w' : World} {B B' : Nat} {A : Option Addr} {n c : Nat} {l : List Pl}
theorem RdP.below (h : RdP w B A n c l) (hb : Below B w w') : RdP w' B A n c l := ⟨h.1.below hb, h.2⟩
theorem RdP.more (h : RdP w B A n c l) (hB : B ≤ B') : RdP w B' A n c l := ⟨h.1.more hB, h.2⟩
theorem RdP.drewN (h : RdP w B A n c l) (m : Nat) : RdP (w.drewN m) B A n c l := h
theorem RdP.len (h : RdP w B A n c l) : l.length = n := by have := h.1.len; rw [pv, flat_length pcell_length] at this; omega
theorem RdP.le (h : RdP w B A n c l) : n ≤ c := h.1.le
theorem RdP.max (h : RdP w B A n c l) : c ≤ 9223372036854775807 := h.1.max
theorem RdP.nil (w : World) (B : Nat) : RdP w B none 0 0 [] := ⟨RdK.nil 2 w B, by simp [okPs]⟩
theorem RdP.at_ (h : RdP w B A n c l) {i : Nat} (hi : i < n) (hl : i < l.length) : ∃ ad, A = some ad ∧ ad.block < B ∧ w.cell? (ad.add (i * 2)) = some (.int .i64 l[i].1) ∧ w.cell? ⟨(ad.add (i * 2)).block, (ad.add (i * 2)).off + 1, none⟩ = some (.int .i64 l[i].2) ∧ okI l[i].1 ∧ okI l[i].2 := by
  obtain ⟨ad, e, hb, hc⟩ := h.1.2.2.2 (by omega)
  have h0 := hc (i * 2 + 0) _ (by rw [pv, flat_get pcell_length l i 0 hl (by omega)]; rfl)
  have h1 := hc (i * 2 + 1) _ (by rw [pv, flat_get pcell_length l i 1 hl (by omega)]; rfl)
  exact ⟨ad, e, hb, h0, (add_sub ad (i * 2) 0) ▸ h1, h.2 _ (List.getElem_mem hl)⟩
end



/-- What 'all' answers. -/
def AllIs {α : Type} (f : Nat → α → Bool) (l : List α) (r : Bool) : Prop := r = true ↔ ∀ (k : Nat) (h : k < l.length), f k l[k] = true

end Go.Proofs.Ytfacdoemgalodaa
