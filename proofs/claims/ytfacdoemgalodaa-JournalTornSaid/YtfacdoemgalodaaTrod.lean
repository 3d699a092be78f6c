/-
  What data that came in read as, type by type: integers, bools, strings, structs and slices, over whatever program.
-/
import Derived.Test.YtfacdoemgalodaaMem
import Derived.ChangeArms
import Derived.WideShapes
import Derived.ChangeShapes
namespace Go.Proofs.Ytfacdoemgalodaa
open Go.RowKit Go.ChangeShapes Go.WideShapes
set_option linter.unusedVariables false

/-- The cells cs read as data of type t in the world w. -/
def Tr {H : Type} (enc : TypeId × Value → H) (P : Program) (w : World) (t : TypeId) (cs : List Value) : Prop := ∃ fuel x, DataW.trod enc P w 0 (fun _ => true) true fuel t cs = some x

section
variable {H : Type} {enc : TypeId × Value → H} {P : Program} {w : World} {t e : TypeId} {cs : List Value}
theorem Tr.of {v : Value} {d : DataW H} {p : List MemPlace} (h : DataW.Trod enc P w 0 (fun _ => true) true t v d p) : Tr enc P w t v.cells.toList := by
  obtain ⟨fuel, hf⟩ := h
  exact ⟨fuel, _, hf⟩
theorem Tr.int {k : IntKind} (ht : P.underlying t = some (.int k)) (h : Tr enc P w t cs) : ∃ n, cs = [.int k n] ∧ (Lit.int k n).wf = true := by
  obtain ⟨fuel, x, hf⟩ := h
  obtain ⟨n, h1, _, h2⟩ := DataW.trod_int ht hf
  exact ⟨n, h1, h2⟩
theorem Tr.i64 (ht : P.underlying t = some (.int .i64)) (h : Tr enc P w t cs) : ∃ n, cs = [.int .i64 n] ∧ -9223372036854775808 ≤ n ∧ n ≤ 9223372036854775807 := by
  obtain ⟨n, h1, h2⟩ := h.int ht
  have hb : -9223372036854775808 ≤ n ∧ n ≤ 9223372036854775807 := by simpa [Lit.wf, IntKind.min, IntKind.max, IntKind.signed, IntKind.bits] using h2
  exact ⟨n, h1, hb⟩
theorem Tr.u8 (ht : P.underlying t = some (.int .u8)) (h : Tr enc P w t cs) : ∃ n : UInt8, cs = [.int .u8 (n.toNat : Int)] := by
  obtain ⟨n, h1, h2⟩ := h.int ht
  have hb : 0 ≤ n ∧ n ≤ 255 := by simpa [Lit.wf, IntKind.min, IntKind.max, IntKind.signed, IntKind.bits] using h2
  exact ⟨UInt8.ofNat n.toNat, by rw [h1, show ((UInt8.ofNat n.toNat).toNat : Int) = n from by simp [UInt8.toNat_ofNat']; omega]⟩
theorem Tr.bool (ht : P.underlying t = some .bool) (h : Tr enc P w t cs) : ∃ b, cs = [.bool b] := by
  obtain ⟨fuel, x, hf⟩ := h
  obtain ⟨n, h1, _⟩ := DataW.trod_bool ht hf
  exact ⟨n, h1⟩
theorem Tr.string (ht : P.underlying t = some .string) (h : Tr enc P w t cs) : ∃ s : ByteArray, cs = [.string s] ∧ s.size ≤ maxLen := by
  obtain ⟨fuel, x, hf⟩ := h
  obtain ⟨n, h1, _, h2⟩ := DataW.trod_string ht hf
  exact ⟨n, h1, h2⟩
theorem Tr.struct {fs : Array Field} (ht : P.underlying t = some (.struct fs)) (h : Tr enc P w t cs) : cs.length = P.cellsOf t ∧ ∀ (j : Nat) (f : Field), fs[j]? = some f → Tr enc P w f.type ((cs.drop f.offset).take (P.cellsOf f.type)) := by
  obtain ⟨fuel, x, hf⟩ := h
  obtain ⟨xs, n, _, _, hl, hlen, hg⟩ := DataW.trod_struct ht hf
  refine ⟨hl, fun j f hj => ?_⟩
  have h1 := hg j f hj
  have hjl : j < fs.size := (Array.getElem?_eq_some_iff.1 hj).1
  have hys : xs[j]? = some (xs[j]'(by omega)) := List.getElem?_eq_getElem (by omega)
  exact ⟨n, _, h1.trans hys⟩
theorem Tr.slice (ht : P.underlying t = some (.slice e)) (h : Tr enc P w t cs) (hk : 0 < P.cellsOf e) :
    ∃ A n c, cs = [.slice A n c] ∧ n ≤ c ∧ c ≤ maxLen ∧ (0 < n → ∃ ad, A = some ad ∧ ad.block < w.heap.size ∧
      ∀ i, i < n → ∃ cs' : List Value, cs'.length = P.cellsOf e ∧ (∀ j, j < P.cellsOf e → w.cell? (ad.add (i * P.cellsOf e + j)) = cs'[j]?) ∧ Tr enc P w e cs') := by
  obtain ⟨fuel, x, hf⟩ := h
  rcases DataW.trod_slice ht hf with ⟨h0, _⟩ | ⟨a, len, cap, elems, rest, n, _, hcs, _, hb, hl, hm, hlen, hel, _, _⟩
  · exact ⟨none, 0, 0, h0, Nat.le_refl _, by unfold maxLen; omega, fun h => absurd h (by omega)⟩
  · have each : ∀ i, i < len → ∃ cs' : List Value, cs'.length = P.cellsOf e ∧ (∀ j, j < P.cellsOf e → w.cell? (a.add (i * P.cellsOf e + j)) = cs'[j]?) ∧ Tr enc P w e cs' := fun i hi => by
      have h1 := hel i hi
      rw [List.getElem?_eq_getElem (by omega)] at h1
      obtain ⟨cs', h2, h3⟩ := Option.bind_eq_some_iff.1 h1
      obtain ⟨_, h4, h5⟩ := World.cells?_some h2
      exact ⟨cs', h4, fun j hj => by rw [← h5 j hj, add_add'], n, _, h3⟩
    refine ⟨some a, len, cap, hcs, hl, hm, fun hn => ⟨a, rfl, ?_, each⟩⟩
    obtain ⟨cs', h1, h2, _⟩ := each 0 (by omega)
    have h3 := h2 0 hk
    rw [List.getElem?_eq_getElem (by omega)] at h3
    have := World.block_lt_of_cell? w _ h3
    rwa [add_block] at this
end

theorem choose_list {α : Type} {n : Nat} {p : Nat → α → Prop} (h : ∀ i, i < n → ∃ a, p i a) : ∃ l : List α, l.length = n ∧ ∀ (i : Nat) (a : α), l[i]? = some a → p i a := by
  induction n with
  | zero => exact ⟨[], rfl, fun i a h => by simp at h⟩
  | succ n ih =>
    obtain ⟨l, hl, hp⟩ := ih fun i hi => h i (by omega)
    obtain ⟨a, ha⟩ := h n (by omega)
    refine ⟨l ++ [a], by simp [hl], fun i b hb => ?_⟩
    rcases Nat.lt_or_ge i n with h1 | h1
    · rw [List.getElem?_append_left (by omega)] at hb
      exact hp i b hb
    · rw [List.getElem?_append_right (by omega), hl] at hb
      have : i - n = 0 := by
        rcases Nat.eq_zero_or_pos (i - n) with h2 | h2
        · exact h2
        · rw [List.getElem?_eq_none (by simp; omega)] at hb; cases hb
      rw [this] at hb
      simp at hb
      subst hb
      obtain rfl : i = n := by omega
      exact ha

/-- A slice whose elements read by R: the elements, and their cells laid end to end. -/
theorem Tr.list {H : Type} {enc : TypeId × Value → H} {P : Program} {w : World} {t e : TypeId} {cs : List Value} {α : Type} (k : Nat) (R : List Value → α → Prop) (ht : P.underlying t = some (.slice e)) (hk : P.cellsOf e = k) (h0 : 0 < k)
    (hR : ∀ cs, Tr enc P w e cs → ∃ a, R cs a) (h : Tr enc P w t cs) :
    ∃ A n c, ∃ els : List (List Value × α), cs = [.slice A n c] ∧ els.length = n ∧ n ≤ c ∧ c ≤ maxLen ∧ (∀ x ∈ els, x.1.length = k ∧ R x.1 x.2) ∧
      (0 < n → ∃ ad, A = some ad ∧ ad.block < w.heap.size ∧ ∀ (j : Nat) (u : Value), (els.flatMap (·.1))[j]? = some u → w.cell? (ad.add j) = some u) := by
  subst hk
  obtain ⟨A, n, c, hcs, hnc, hcm, hx⟩ := h.slice ht h0
  rcases Nat.eq_zero_or_pos n with hn | hn
  · subst hn
    exact ⟨A, 0, c, [], hcs, rfl, hnc, hcm, by simp, fun h => absurd h (by omega)⟩
  · obtain ⟨ad, rfl, hb, hel⟩ := hx hn
    obtain ⟨els, hl, hp⟩ := choose_list (n := n) (p := fun i (x : List Value × α) => x.1.length = P.cellsOf e ∧ (∀ j, j < P.cellsOf e → w.cell? (ad.add (i * P.cellsOf e + j)) = x.1[j]?) ∧ R x.1 x.2) fun i hi => by
      obtain ⟨cs', h1, h2, h3⟩ := hel i hi
      obtain ⟨a, ha⟩ := hR cs' h3
      exact ⟨(cs', a), h1, h2, ha⟩
    have hall : ∀ x ∈ els, x.1.length = P.cellsOf e ∧ R x.1 x.2 := fun x hx => by
      obtain ⟨i, hi, rfl⟩ := List.getElem_of_mem hx
      have := hp i _ (List.getElem?_eq_getElem hi)
      exact ⟨this.1, this.2.2⟩
    refine ⟨_, n, c, els, hcs, hl, hnc, hcm, hall, fun _ => ⟨ad, rfl, hb, ?_⟩⟩
    have key : ∀ (m : Nat) (ls : List (List Value × α)), (∀ (i : Nat) (x : List Value × α), ls[i]? = some x → x.1.length = P.cellsOf e ∧ ∀ j, j < P.cellsOf e → w.cell? (ad.add ((m + i) * P.cellsOf e + j)) = x.1[j]?) →
        ∀ (j : Nat) (u : Value), (ls.flatMap (·.1))[j]? = some u → w.cell? (ad.add (m * P.cellsOf e + j)) = some u := by
      intro m ls
      induction ls generalizing m with
      | nil => intro _ j u hu; simp at hu
      | cons x r ih =>
        intro hq j u hu
        obtain ⟨q1, q2⟩ := hq 0 x rfl
        rw [List.flatMap_cons] at hu
        rcases Nat.lt_or_ge j (P.cellsOf e) with hj | hj
        · rw [List.getElem?_append_left (by omega)] at hu
          have := q2 j hj
          rw [Nat.add_zero] at this
          rw [this, hu]
        · rw [List.getElem?_append_right (by omega), q1] at hu
          have := ih (m + 1) (fun i x hi => by
            have := hq (i + 1) x (by simpa using hi)
            rw [show m + 1 + i = m + (i + 1) by omega]
            exact this) _ u hu
          rw [show m * P.cellsOf e + j = (m + 1) * P.cellsOf e + (j - P.cellsOf e) by rw [Nat.succ_mul]; omega]
          exact this
    intro j u hu
    have := key 0 els (fun i x hi => by have := hp i x hi; rw [Nat.zero_add]; exact ⟨this.1, this.2.1⟩) j u hu
    simpa using this
end Go.Proofs.Ytfacdoemgalodaa
