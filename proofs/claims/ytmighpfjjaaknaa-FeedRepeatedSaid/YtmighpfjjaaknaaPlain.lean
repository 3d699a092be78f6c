/-
  Plain laws of Take and Reply: no program in sight.
-/
import Derived.Test.YtmighpfjjaaknaaLiveW
namespace Go.Proofs.Ytmighpfjjaaknaa
set_option linter.unusedVariables false
set_option linter.unusedSimpArgs false

theorem okPs_appL2 {l : List Pl} {ms : List Mv} (h : okPs l) (h' : okMs ms) : okPs (appL l ms) ∧ (appL l ms).length ≤ l.length := by
  unfold appL
  cases hx : applyTo l.length l (-1) ms with
  | none => exact ⟨by simp [okPs], by simp⟩
  | some y => obtain ⟨a, b⟩ := applyTo_ok h h' hx; exact ⟨a, by simp [b]⟩
theorem takeC_ok {c : Cl} {m : Mg} (hc : okPs c.week) (hm : okPs m.week) (h' : okMs m.moves) : okPs (takeC c m).week := by
  unfold takeC t2L
  split
  · split
    · exact hm
    · split
      · dsimp only
        split
        · exact (okPs_appL2 hc h').1
        · simp [okPs]
      · simp [okPs, zeroC]
  · simp [okPs, zeroC]
theorem takeC_len {c : Cl} {m : Mg} {k : Nat} (hc : okPs c.week) (h' : okMs m.moves) (h1 : c.week.length ≤ k) (h2 : m.week.length ≤ k) : (takeC c m).week.length ≤ k := by
  unfold takeC t2L
  split
  · split
    · exact h2
    · split
      · dsimp only
        split
        · exact Nat.le_trans (okPs_appL2 hc h').2 h1
        · simp
      · simp [zeroC]
  · simp [zeroC]
theorem takeC_zero {c : Cl} {m : Mg} (h : takeE c m ≠ 0) : takeC c m = zeroC := by
  unfold takeE at h
  unfold takeC
  split at h
  · rename_i hk
    split at h
    · rw [if_neg (fun h' => by omega)]
    · split at h
      · exact absurd rfl h
      · rename_i h1
        split
        · first | rfl | rw [if_neg h1, if_neg h]
        · rfl
  · rename_i hk
    rw [if_neg (fun h' => hk ⟨h'.1, h'.2.1, h'.2.2.1⟩)]
theorem takeC_some {c : Cl} {m : Mg} (h : takeE c m = 0) : (m.kind = 1 ∨ m.kind = 2) ∧ (0 ≤ c.no ∧ c.no ≤ 1099511627776) ∧ (1 ≤ m.no ∧ m.no ≤ 1099511627776) ∧ c.no < m.no ∧ (takeC c m).no = m.no := by
  unfold takeE at h
  split at h
  · rename_i hk
    split at h
    · cases h
    · rename_i hno
      have hall : (m.kind = 1 ∨ m.kind = 2) ∧ (0 ≤ c.no ∧ c.no ≤ 1099511627776) ∧ (1 ≤ m.no ∧ m.no ≤ 1099511627776) ∧ c.no < m.no := ⟨hk.1, hk.2.1, hk.2.2, by omega⟩
      refine ⟨hall.1, hall.2.1, hall.2.2.1, hall.2.2.2, ?_⟩
      unfold takeC
      rw [if_pos hall]
      split
      · rfl
      · rename_i h1
        rw [if_neg h1] at h
        rw [if_pos h]
  · cases h
/-- A message that was taken is old. -/
theorem take_again {c : Cl} {m : Mg} (h : takeE c m = 0) : takeE (takeC c m) m = 341 ∧ takeC (takeC c m) m = zeroC := by
  obtain ⟨h1, h2, h3, h4, h5⟩ := takeC_some h
  have e : takeE (takeC c m) m = 341 := by
    unfold takeE
    rw [h5, if_pos ⟨h1, ⟨by omega, h3.2⟩, h3⟩, if_pos (Int.le_refl _)]
  exact ⟨e, takeC_zero (by rw [e]; decide)⟩
end Go.Proofs.Ytmighpfjjaaknaa
