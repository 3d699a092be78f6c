/-
  What data that came in read as, with the form's own reach: each slice and string that is met takes at most 2^47 - 4096 bytes.
-/
import Derived.Test.YtfacdoemgalodaaTrod
import Derived.SizedLaws
namespace Go.Proofs.Ytfacdoemgalodaa
open Go.RowKit Go.ChangeShapes Go.WideShapes
set_option linter.unusedVariables false

/-- The cells cs read as data of type t in the world w, and nothing that is met is greater than the reach. -/
def TrS {H : Type} (enc : TypeId × Value → H) (P : Program) (w : World) (t : TypeId) (cs : List Value) : Prop := ∃ fuel x, DataW.trod enc P w 0 (fun _ => true) true fuel t cs = some x ∧ ∀ n ∈ x.1.weights P t, n ≤ reachBytes

section
variable {H : Type} {enc : TypeId × Value → H} {P : Program} {w : World} {t e : TypeId} {cs : List Value}
theorem TrS.of {v : Value} {d : DataW H} {p : List MemPlace} {ts : List TypeId} {ds : List (DataW H)} {j : Nat} (hs : (DataW.weightsEach P ts ds).all (· ≤ reachBytes) = true) (h : DataW.Trod enc P w 0 (fun _ => true) true t v d p) (ht : ts[j]? = some t) (hd : ds[j]? = some d) : TrS enc P w t v.cells.toList := by
  obtain ⟨fuel, hf⟩ := h
  refine ⟨fuel, _, hf, fun n hn => ?_⟩
  have := List.all_eq_true.1 hs _ (DataW.weights_mem_each ht hd n hn)
  simpa using this
theorem TrS.tr (h : TrS enc P w t cs) : Tr enc P w t cs := by
  obtain ⟨fuel, x, hf, _⟩ := h
  exact ⟨fuel, x, hf⟩
theorem TrS.string (ht : P.underlying t = some .string) (h : TrS enc P w t cs) : ∃ s : ByteArray, cs = [.string s] ∧ s.size ≤ reachBytes := by
  obtain ⟨fuel, x, hf, hw⟩ := h
  obtain ⟨n, h1, h2, _⟩ := DataW.trod_string ht hf
  refine ⟨n, h1, ?_⟩
  have := hw n.data.toList.length (by rw [h2]; simp [DataW.weights])
  simpa using this
theorem TrS.struct {fs : Array Field} (ht : P.underlying t = some (.struct fs)) (h : TrS enc P w t cs) : cs.length = P.cellsOf t ∧ ∀ (j : Nat) (f : Field), fs[j]? = some f → TrS enc P w f.type ((cs.drop f.offset).take (P.cellsOf f.type)) := by
  obtain ⟨fuel, x, hf, hw⟩ := h
  obtain ⟨xs, n, _, hx, hl, hlen, hg⟩ := DataW.trod_struct ht hf
  refine ⟨hl, fun j f hj => ?_⟩
  have h1 := hg j f hj
  have hjl : j < fs.size := (Array.getElem?_eq_some_iff.1 hj).1
  have hys : xs[j]? = some (xs[j]'(by omega)) := List.getElem?_eq_getElem (by omega)
  refine ⟨n, _, h1.trans hys, fun m hm => hw m ?_⟩
  rw [hx]
  simp only [DataW.weights, ht]
  refine DataW.weights_mem_each (j := j) (t := f.type) (d := (xs[j]'(by omega)).1) ?_ ?_ m hm
  · rw [List.getElem?_map, Array.getElem?_toList, hj]; rfl
  · rw [List.getElem?_map, hys]; rfl
theorem weightsAll_mem {ds : List (DataW H)} {j : Nat} {d : DataW H} (hd : ds[j]? = some d) {n : Nat} (hn : n ∈ d.weights P e) : n ∈ DataW.weightsAll P e ds := by
  induction ds generalizing j with
  | nil => simp at hd
  | cons a r ih =>
    simp only [DataW.weightsAll, List.mem_append]
    cases j with
    | zero => simp at hd; subst hd; exact .inl hn
    | succ j => exact .inr (ih (by simpa using hd))
theorem TrS.slice (ht : P.underlying t = some (.slice e)) (h : TrS enc P w t cs) (hk : 0 < P.cellsOf e) :
    ∃ A n c, cs = [.slice A n c] ∧ n ≤ c ∧ c ≤ maxLen ∧ c * P.bytesOf e ≤ reachBytes ∧ (0 < n → ∃ ad, A = some ad ∧ ad.block < w.heap.size ∧
      ∀ i, i < n → ∃ cs' : List Value, cs'.length = P.cellsOf e ∧ (∀ j, j < P.cellsOf e → w.cell? (ad.add (i * P.cellsOf e + j)) = cs'[j]?) ∧ TrS enc P w e cs') := by
  obtain ⟨fuel, x, hf, hw⟩ := h
  rcases DataW.trod_slice ht hf with ⟨h0, _⟩ | ⟨a, len, cap, elems, rest, n, _, hcs, hx, hb, hl, hm, hlen, hel, hrest, _⟩
  · exact ⟨none, 0, 0, h0, Nat.le_refl _, by unfold maxLen; omega, by simp, fun h => absurd h (by omega)⟩
  · have hr := (hrest rfl).1
    have hwt : cap * P.bytesOf e ≤ reachBytes := by
      have := hw ((elems.length + rest.length) * P.bytesOf e) (by rw [hx]; simp [DataW.weights, ht])
      rwa [show elems.length + rest.length = cap by omega] at this
    have each : ∀ i, i < len → ∃ cs' : List Value, cs'.length = P.cellsOf e ∧ (∀ j, j < P.cellsOf e → w.cell? (a.add (i * P.cellsOf e + j)) = cs'[j]?) ∧ TrS enc P w e cs' := fun i hi => by
      have h1 := hel i hi
      have hys : elems[i]? = some (elems[i]'(by omega)) := List.getElem?_eq_getElem (by omega)
      rw [hys] at h1
      obtain ⟨cs', h2, h3⟩ := Option.bind_eq_some_iff.1 h1
      obtain ⟨_, h4, h5⟩ := World.cells?_some h2
      refine ⟨cs', h4, fun j hj => by rw [← h5 j hj, add_add'], n, _, h3, fun m hm => hw m ?_⟩
      rw [hx]
      simp only [DataW.weights, ht]
      refine List.mem_cons_of_mem _ (List.mem_append_left _ (weightsAll_mem (j := i) (d := (elems[i]'(by omega)).1) ?_ hm))
      rw [List.getElem?_map, hys]; rfl
    refine ⟨some a, len, cap, hcs, hl, hm, hwt, fun hn => ⟨a, rfl, ?_, each⟩⟩
    obtain ⟨cs', h1, h2, _⟩ := each 0 (by omega)
    have h3 := h2 0 hk
    rw [List.getElem?_eq_getElem (by omega)] at h3
    have := World.block_lt_of_cell? w _ h3
    rwa [add_block] at this
end

/-- A slice whose elements read by R: the elements, and their cells laid end to end. -/
theorem TrS.list {H : Type} {enc : TypeId × Value → H} {P : Program} {w : World} {t e : TypeId} {cs : List Value} {α : Type} (k : Nat) (R : List Value → α → Prop) (ht : P.underlying t = some (.slice e)) (hk : P.cellsOf e = k) (h0 : 0 < k)
    (hR : ∀ cs, TrS enc P w e cs → ∃ a, R cs a) (h : TrS enc P w t cs) :
    ∃ A n c, ∃ els : List (List Value × α), cs = [.slice A n c] ∧ els.length = n ∧ n ≤ c ∧ c ≤ maxLen ∧ c * P.bytesOf e ≤ reachBytes ∧ (∀ x ∈ els, x.1.length = k ∧ R x.1 x.2) ∧
      (0 < n → ∃ ad, A = some ad ∧ ad.block < w.heap.size ∧ ∀ (j : Nat) (u : Value), (els.flatMap (·.1))[j]? = some u → w.cell? (ad.add j) = some u) := by
  subst hk
  obtain ⟨A, n, c, hcs, hnc, hcm, hcw, hx⟩ := h.slice ht h0
  rcases Nat.eq_zero_or_pos n with hn | hn
  · subst hn
    exact ⟨A, 0, c, [], hcs, rfl, hnc, hcm, hcw, by simp, fun h => absurd h (by omega)⟩
  · obtain ⟨ad, rfl, hb, hel⟩ := hx hn
    obtain ⟨els, hl, hp⟩ := choose_list (n := n) (p := fun i (x : List Value × α) => x.1.length = P.cellsOf e ∧ (∀ j, j < P.cellsOf e → w.cell? (ad.add (i * P.cellsOf e + j)) = x.1[j]?) ∧ R x.1 x.2) fun i hi => by
      obtain ⟨cs', h1, h2, h3⟩ := hel i hi
      obtain ⟨a, ha⟩ := hR cs' h3
      exact ⟨(cs', a), h1, h2, ha⟩
    have hall : ∀ x ∈ els, x.1.length = P.cellsOf e ∧ R x.1 x.2 := fun x hx => by
      obtain ⟨i, hi, rfl⟩ := List.getElem_of_mem hx
      have := hp i _ (List.getElem?_eq_getElem hi)
      exact ⟨this.1, this.2.2⟩
    refine ⟨_, n, c, els, hcs, hl, hnc, hcm, hcw, hall, fun _ => ⟨ad, rfl, hb, ?_⟩⟩
    have key : ∀ (m : Nat) (ls : List (List Value × α)), (∀ (i : Nat) (x : List Value × α), ls[i]? = some x → x.1.length = P.cellsOf e ∧ ∀ j, j < P.cellsOf e → w.cell? (ad.add ((m + i) * P.cellsOf e + j)) = x.1[j]?) →
        ∀ (j : Nat) (u : Value), (ls.flatMap (·.1))[j]? = some u → w.cell? (ad.add (m * P.cellsOf e + j)) = some u := by
      intro m ls
      induction ls generalizing m with
      | nil => intro _ j u hu; simp at hu
      | cons x r ih =>
        intro hq j u hu
        obtain ⟨q1, q2⟩ := hq 0 x rfl
        rw [List.flatMap_cons] at hu
        rcases Nat.lt_or_ge j (P.cellsOf e) with hj | hj
        · rw [List.getElem?_append_left (by omega)] at hu
          have := q2 j hj
          rw [Nat.add_zero] at this
          rw [this, hu]
        · rw [List.getElem?_append_right (by omega), q1] at hu
          have := ih (m + 1) (fun i x hi => by
            have := hq (i + 1) x (by simpa using hi)
            rw [show m + 1 + i = m + (i + 1) by omega]
            exact this) _ u hu
          rw [show m * P.cellsOf e + j = (m + 1) * P.cellsOf e + (j - P.cellsOf e) by rw [Nat.succ_mul]; omega]
          exact this
    intro j u hu
    have := key 0 els (fun i x hi => by have := hp i x hi; rw [Nat.zero_add]; exact ⟨this.1, this.2.1⟩) j u hu
    simpa using this
end Go.Proofs.Ytfacdoemgalodaa
