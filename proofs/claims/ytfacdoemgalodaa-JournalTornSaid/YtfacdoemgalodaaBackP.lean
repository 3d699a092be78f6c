/-
  Plain laws for SealBack, SealJoins and SealSpoilt.
-/
import Derived.Test.YtfacdoemgalodaaFramesP
namespace Go.Proofs.Ytfacdoemgalodaa
set_option linter.unusedVariables false

/-- How many frames end at or before the cut, and where the last of them ends. -/
def wholeOf (cut : Nat) (es : List Nat) : Nat := (es.filter (· ≤ cut)).length
def lastOf (cut : Nat) (es : List Nat) : Nat := (es.filter (· ≤ cut)).getLast?.getD 0

theorem ends_gt (p : Nat) (ls : List (List UInt8)) : ∀ e ∈ endsFrom p ls, p < e := by
  induction ls generalizing p with
  | nil => intro e he; simp [endsFrom] at he
  | cons x r ih =>
    intro e he
    simp only [endsFrom, List.mem_cons] at he
    rcases he with rfl | he
    · omega
    · have := ih _ e he; omega

/-- The frames that end within the cut are the first ones; what is left is a proper beginning of a frame, or nothing. -/
theorem cut_split (p : Nat) (ls : List (List UInt8)) (hs : ∀ x ∈ ls, x.length ≤ 65536) (cut : Nat) (hc : p ≤ cut) (hc2 : cut ≤ p + (framesB ls).length) :
    ∃ t, (framesB ls).take (cut - p) = framesB (ls.take (wholeOf cut (endsFrom p ls))) ++ t ∧ NoFrame t ∧ wholeOf cut (endsFrom p ls) ≤ ls.length ∧
      ((endsFrom p ls).filter (· ≤ cut)).getLast?.getD p = p + (framesB (ls.take (wholeOf cut (endsFrom p ls)))).length := by
  induction ls generalizing p with
  | nil =>
    refine ⟨[], by simp [framesB, wholeOf, endsFrom], noFrame_short [] (by simp), by simp [wholeOf, endsFrom], by simp [endsFrom, framesB]⟩
  | cons x r ih =>
    have hx := hs x (by simp)
    by_cases hle : p + 8 + x.length ≤ cut
    · rw [framesB_cons, List.length_append, frameB_length] at hc2
      obtain ⟨t, h1, h2, h3, h4⟩ := ih (p + 8 + x.length) (fun y hy => hs y (by simp [hy])) hle (by omega)
      have hw : wholeOf cut (endsFrom p (x :: r)) = wholeOf cut (endsFrom (p + 8 + x.length) r) + 1 := by
        simp only [wholeOf, endsFrom]
        rw [List.filter_cons_of_pos (by simpa using hle)]
        simp
      refine ⟨t, ?_, h2, by rw [hw]; simp; omega, ?_⟩
      · rw [hw, List.take_succ_cons, framesB_cons, framesB_cons, List.append_assoc, ← h1]
        rw [List.take_append, frameB_length, List.take_of_length_le (by rw [frameB_length]; omega)]
        congr 2
        omega
      · rw [hw, List.take_succ_cons, framesB_cons, List.length_append, frameB_length]
        simp only [endsFrom]
        rw [List.filter_cons_of_pos (by simpa using hle), List.getLast?_cons]
        simp only [Option.getD_some]
        rw [h4]
        omega
    · have hnone : (endsFrom p (x :: r)).filter (· ≤ cut) = [] := by
        rw [List.filter_eq_nil_iff]
        intro e he
        simp only [endsFrom, List.mem_cons] at he
        rcases he with rfl | he
        · simpa using hle
        · have := ends_gt _ r e he
          simp; omega
      have hw : wholeOf cut (endsFrom p (x :: r)) = 0 := by unfold wholeOf; rw [hnone]; rfl
      refine ⟨(framesB (x :: r)).take (cut - p), by rw [hw]; simp [framesB], ?_, by omega, by rw [hw, hnone]; simp [framesB]⟩
      rw [framesB_cons, List.take_append_of_le_length (by rw [frameB_length]; omega)]
      exact noFrame_cut x hx _ (by omega)

theorem scan_cut (ls : List (List UInt8)) (hs : ∀ x ∈ ls, x.length ≤ 65536) (cut : Nat) (hc : cut ≤ (framesB ls).length) :
    ScanOK ((framesB ls).take cut) 0 (scFrom 0 (ls.take (wholeOf cut (endsFrom 0 ls)))) ∧ wholeOf cut (endsFrom 0 ls) ≤ ls.length ∧ lastOf cut (endsFrom 0 ls) = (framesB (ls.take (wholeOf cut (endsFrom 0 ls)))).length := by
  obtain ⟨t, h1, h2, h3, h4⟩ := cut_split 0 ls hs cut (by omega) (by omega)
  refine ⟨scan_frames _ (fun x hx => hs x (List.mem_of_mem_take hx)) _ 0 t (by rw [List.drop_zero]; simpa using h1) h2, h3, ?_⟩
  unfold lastOf
  rw [h4]; omega

theorem scan_all (ls : List (List UInt8)) (hs : ∀ x ∈ ls, x.length ≤ 65536) : ScanOK (framesB ls) 0 (scFrom 0 ls) :=
  scan_frames ls hs _ 0 [] (by simp) (noFrame_short [] (by simp))

theorem few_facts {ls : List (List UInt8)} {m : Nat} (h : fewB ls m = true) : ls.length ≤ m ∧ ∀ x ∈ ls, x.length ≤ 1000 := by
  unfold fewB at h
  rw [Bool.and_eq_true] at h
  have h1 : ls.length ≤ m := by simpa using h.2
  refine ⟨h1, fun x hx => ?_⟩
  have h2 := h.1
  rw [List.take_of_length_le (by omega), List.all_eq_true] at h2
  simpa using h2 x hx
theorem framesB_bound (ls : List (List UInt8)) (k : Nat) (h : ∀ x ∈ ls, x.length ≤ k) : (framesB ls).length ≤ ls.length * (8 + k) := by
  induction ls with
  | nil => simp [framesB]
  | cons x r ih =>
    rw [framesB_cons, List.length_append, frameB_length, List.length_cons, Nat.succ_mul]
    have h1 := ih (fun y hy => h y (by simp [hy]))
    have h2 := h x (by simp)
    omega
end Go.Proofs.Ytfacdoemgalodaa
