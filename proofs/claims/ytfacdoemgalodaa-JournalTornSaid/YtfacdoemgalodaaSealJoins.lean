/-
  SealJoins: for every two byte slices the law returns true and the slices read as before. No condition.
-/
import Derived.Test.YtfacdoemgalodaaBackP
namespace Go.Proofs.Ytfacdoemgalodaa
open Go.RowKit
set_option linter.unusedVariables false

theorem noFrame_of_open {l : List UInt8} {p : Nat} (h : (openI l p).err ≠ 0) : NoFrame (l.drop p) := by
  intro x s hx he
  rw [open_of_frame l p x s he hx] at h
  exact h rfl

/-- What a scan found is a row of frames, and behind them none opens. -/
theorem scan_is_frames (l : List UInt8) : ∀ (sc : List (List UInt8 × Nat)) (p : Nat), p ≤ l.length → ScanOK l p sc →
    sc = scFrom p (sc.map (·.1)) ∧ (∀ x ∈ sc.map (·.1), x.length ≤ 65536) ∧ ∃ t, l.drop p = framesB (sc.map (·.1)) ++ t ∧ NoFrame t
  | [], p, hp, h => ⟨rfl, by simp, l.drop p, by simp [framesB], noFrame_of_open h⟩
  | (b, q) :: r, p, hp, h => by
    obtain ⟨h1, h2⟩ : openI l p = ⟨0, b, q⟩ ∧ ScanOK l q r := h
    obtain ⟨f1, f2, f3, f4, f5⟩ := frame_of_open l p b q h1
    obtain ⟨i1, i2, t, i3, i4⟩ := scan_is_frames l r q f4 h2
    refine ⟨?_, ?_, t, ?_, i4⟩
    · simp only [List.map_cons, scFrom]
      rw [← f2, ← i1]
    · intro x hx
      simp only [List.map_cons, List.mem_cons] at hx
      rcases hx with rfl | hx
      · exact f1
      · exact i2 x hx
    · simp only [List.map_cons]
      rw [framesB_cons, List.append_assoc, ← i3]
      exact f5

theorem rdBB_cells {w : World} {B : Nat} {A : Option Addr} {n c : Nat} {ls : List (List UInt8)} (h : RdBB w B A n c ls) :
    ∃ vs, Rd w B A n c vs ∧ (∀ u ∈ vs, u.oneCell' = true) ∧ ∀ (i : Nat) (l : List UInt8), ls[i]? = some l → ∃ A' c', vs[i]? = some (.slice A' l.length c') ∧ RdB w B A' l.length c' l := by
  obtain ⟨hl, vs, h1, h2⟩ := h
  refine ⟨vs, h1, fun u hu => ?_, h2⟩
  obtain ⟨i, hi, rfl⟩ := List.mem_iff_getElem.1 hu
  have hil : i < ls.length := by have := h1.1; omega
  obtain ⟨A', c', hv, _⟩ := h2 i ls[i] (List.getElem?_eq_getElem hil)
  rw [List.getElem?_eq_getElem hi] at hv
  injection hv with hv
  rw [hv]
  rfl

end Go.Proofs.Ytfacdoemgalodaa
