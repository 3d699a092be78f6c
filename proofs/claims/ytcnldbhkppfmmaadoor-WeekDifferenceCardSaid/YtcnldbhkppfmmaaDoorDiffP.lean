/-
  Differences of weeks: plain laws, no program in sight.
-/
import Derived.Test.YtcnldbhkppfmmaaDoorApplyW
namespace Go.Proofs.YtcnldbhkppfmmaaDoor
set_option linter.unusedVariables false
def applySt (N : Nat) : List Pl → Int → List Mv → Option (List Pl × Int)
  | x, la, [] => some (x, la)
  | x, la, m :: r => if m.lesson ≤ la ∨ (N : Int) ≤ m.lesson then none else applySt N (x.set m.lesson.toNat m.to) m.lesson r
theorem applyTo_st (N : Nat) (ms : List Mv) : ∀ (x : List Pl) (la : Int), applyTo N x la ms = (applySt N x la ms).map (·.1) := by
  induction ms with
  | nil => intro x la; rfl
  | cons m r ih =>
    intro x la
    simp only [applyTo, applySt]
    split
    · rfl
    · exact ih _ _
theorem applySt_app (N : Nat) (ms rs : List Mv) : ∀ (x : List Pl) (la : Int), applySt N x la (ms ++ rs) = (applySt N x la ms).bind fun y => applySt N y.1 y.2 rs := by
  induction ms with
  | nil => intro x la; rfl
  | cons m r ih =>
    intro x la
    simp only [applySt, List.cons_append]
    split
    · rfl
    · exact ih _ _
theorem apply_diffTo (a b : List Pl) (N : Nat) (ha : a.length = N) (hb : b.length = N) (k : Nat) (hk : k ≤ N) : ∃ la : Int, la < k ∧ applySt N a (-1) (diffTo a b k) = some (b.take k ++ a.drop k, la) := by
  induction k with
  | zero => exact ⟨-1, by omega, by simp [diffTo, applySt]⟩
  | succ k ih =>
    obtain ⟨la, h1, h2⟩ := ih (by omega)
    have hka : k < a.length := by omega
    have hkb : k < b.length := by omega
    unfold diffTo
    rw [applySt_app, h2, Option.bind_some]
    have e1 : a.getD k (0, 0) = a[k] := by rw [List.getD_eq_getElem?_getD, List.getElem?_eq_getElem hka]; rfl
    have e2 : b.getD k (0, 0) = b[k] := by rw [List.getD_eq_getElem?_getD, List.getElem?_eq_getElem hkb]; rfl
    rw [e1, e2]
    have e3 : a.drop k = a[k] :: a.drop (k + 1) := List.drop_eq_getElem_cons hka
    have e4 : b.take (k + 1) = b.take k ++ [b[k]] := List.take_succ_eq_append_getElem hkb
    split
    · rename_i he
      refine ⟨la, by omega, ?_⟩
      simp only [applySt]
      rw [e3, he, e4, List.append_assoc]
      rfl
    · refine ⟨k, by omega, ?_⟩
      simp only [applySt]
      rw [if_neg (by omega)]
      rw [e3]
      have hl : (b.take k).length = k := by rw [List.length_take]; omega
      simp only [Int.toNat_natCast]
      rw [List.set_append_right _ _ (by omega), hl, Nat.sub_self, List.set_cons_zero, e4, List.append_assoc]
      rfl
theorem apply_diff {a b : List Pl} (h : a.length = b.length) : appL a (diffL a b) = b ∧ appE a (diffL a b) = 0 := by
  unfold appL appE diffL
  rw [if_pos h]
  obtain ⟨la, _, h2⟩ := apply_diffTo a b b.length h rfl b.length (Nat.le_refl _)
  rw [applyTo_st, h, h2]
  simp [h]
theorem diffTo_tri (a b c : List Pl) (k : Nat) : (diffTo a c k).length ≤ (diffTo a b k).length + (diffTo b c k).length := by
  induction k with
  | zero => simp [diffTo]
  | succ k ih =>
    unfold diffTo
    rw [List.length_append, List.length_append, List.length_append]
    by_cases h1 : a.getD k (0, 0) = b.getD k (0, 0)
    · rw [h1]; split <;> split <;> simp_all <;> omega
    · by_cases h2 : b.getD k (0, 0) = c.getD k (0, 0)
      · rw [if_neg h1, ← h2, if_neg h1]; simp; omega
      · rw [if_neg h1, if_neg h2]
        split
        · simp; omega
        · simp; omega
theorem diffTo_sym (a b : List Pl) (k : Nat) : (diffTo a b k).length = (diffTo b a k).length := by
  induction k with
  | zero => simp [diffTo]
  | succ k ih =>
    unfold diffTo
    rw [List.length_append, List.length_append, ih]
    by_cases h1 : a.getD k (0, 0) = b.getD k (0, 0)
    · rw [if_pos h1, if_pos h1.symm]
    · rw [if_neg h1, if_neg (fun h => h1 h.symm)]; simp
theorem diffTo_mem {a b : List Pl} {k : Nat} {m : Mv} (h : m ∈ diffTo a b k) : ∃ j : Nat, j < k ∧ m = ⟨j, b.getD j (0, 0)⟩ ∧ a.getD j (0, 0) ≠ b.getD j (0, 0) := by
  induction k with
  | zero => simp [diffTo] at h
  | succ k ih =>
    unfold diffTo at h
    rcases List.mem_append.1 h with h | h
    · obtain ⟨j, h1, h2⟩ := ih h
      exact ⟨j, by omega, h2⟩
    · split at h
      · simp at h
      · rename_i hne
        simp at h
        exact ⟨k, by omega, h, hne⟩
theorem diffL_tri {a b c : List Pl} {n : Nat} (ha : a.length = n) (hb : b.length = n) (hc : c.length = n) : (diffL a c).length ≤ (diffL a b).length + (diffL b c).length := by
  unfold diffL
  rw [if_pos (by omega), if_pos (by omega), if_pos (by omega), hc, hb]
  exact diffTo_tri a b c n
theorem diffL_sym {a b : List Pl} {n : Nat} (ha : a.length = n) (hb : b.length = n) : (diffL a b).length = (diffL b a).length := by
  unfold diffL
  rw [if_pos (by omega), if_pos (by omega), ha, hb]
  exact diffTo_sym a b n
theorem diffL_mem {a b : List Pl} {n : Nat} (ha : a.length = n) (hb : b.length = n) {m : Mv} (h : m ∈ diffL a b) : ∃ j : Nat, ∃ h1 : j < a.length, ∃ h2 : j < b.length, m = ⟨j, b[j]⟩ ∧ a[j] ≠ b[j] := by
  unfold diffL at h
  rw [if_pos (by omega), hb] at h
  obtain ⟨j, hj, h2, h3⟩ := diffTo_mem h
  have hja : j < a.length := by omega
  have hjb : j < b.length := by omega
  have e1 : a.getD j (0, 0) = a[j] := by rw [List.getD_eq_getElem?_getD, List.getElem?_eq_getElem hja]; rfl
  have e2 : b.getD j (0, 0) = b[j] := by rw [List.getD_eq_getElem?_getD, List.getElem?_eq_getElem hjb]; rfl
  rw [e1, e2] at h3
  rw [e2] at h2
  exact ⟨j, hja, hjb, h2, h3⟩
theorem diffE_ok {a b : List Pl} {n : Nat} (ha : a.length = n) (hb : b.length = n) : diffE a b = 0 := by unfold diffE; rw [if_pos (by omega)]
end Go.Proofs.YtcnldbhkppfmmaaDoor
