/-
  SealOne: for every byte slice and offset the law returns true and the arguments read as before. No condition.
-/
import Derived.Test.YtfacdoemgalodaaLiveW
namespace Go.Proofs.Ytfacdoemgalodaa
open Go.RowKit
set_option linter.unusedVariables false

theorem four_num (l : List UInt8) (h : l.length = 4) : four (numB l) = l := by
  match l, h with
  | [a, b, c, d], _ =>
    rw [numB_four]
    have ha := a.toNat_lt
    have hb := b.toNat_lt
    have hc := c.toNat_lt
    have hd := d.toNat_lt
    unfold four
    have e : ∀ (x : UInt8) (m : Nat), m % 256 = x.toNat → UInt8.ofNat m = x := fun x m h => UInt8.toNat_inj.1 (by rw [UInt8.toNat_ofNat', h])
    rw [e a _ (by omega), e b _ (by omega), e c _ (by omega), e d _ (by omega)]

/-- A payload that opens, framed again, is what was read. -/
theorem frame_open (l : List UInt8) (p : Nat) (h : (openB l p).err = 0) : (openB l p).body.length ≤ 65536 ∧ (openB l p).next = p + 8 + (openB l p).body.length ∧ (openB l p).next ≤ l.length ∧
    frameB (openB l p).body = (l.take (openB l p).next).drop p := by
  unfold openB at h ⊢
  split at h
  · simp at h
  rename_i h8
  split at h
  · simp at h
  rename_i hbig
  split at h
  · simp at h
  rename_i hsh
  split at h
  · simp at h
  rename_i hcrc
  rw [if_neg h8, if_neg hbig, if_neg hsh, if_neg hcrc]
  have hcrc' : Crc.crc (((l.drop p).drop 8).take (numB ((l.drop p).take 4))) = numB (((l.drop p).drop 4).take 4) := by simpa using hcrc
  rw [List.length_drop] at h8 hsh
  have hN : (((l.drop p).drop 8).take (numB ((l.drop p).take 4))).length = numB ((l.drop p).take 4) := by
    rw [List.length_take, List.length_drop, List.length_drop]; omega
  refine ⟨by simp only; omega, by simp only; omega, by simp only; omega, ?_⟩
  simp only
  unfold frameB
  rw [hN, hcrc', four_num _ (by rw [List.length_take, List.length_drop]; omega), four_num _ (by rw [List.length_take, List.length_drop, List.length_drop]; omega)]
  rw [List.drop_take]
  have e : p + 8 + numB ((l.drop p).take 4) - p = 4 + (4 + numB ((l.drop p).take 4)) := by omega
  rw [e]
  generalize numB ((l.drop p).take 4) = N
  generalize l.drop p = r
  rw [List.take_add, List.take_add, List.drop_drop]
  simp [List.append_assoc]

/-- Open succeeds inside the slice, or answers an error and nothing else. -/
theorem open_cases (l : List UInt8) (p : Int) : ((openI l p).err = 0 ∧ ∃ q : Nat, p = q ∧ q ≤ l.length ∧ (openI l p).body.length ≤ 65536 ∧ (openI l p).next = q + 8 + (openI l p).body.length ∧ (openI l p).next ≤ l.length ∧ frameB (openI l p).body = (l.take (openI l p).next).drop q) ∨
    ((openI l p).err ≠ 0 ∧ (openI l p).body = [] ∧ (openI l p).next = 0) := by
  unfold openI
  split
  · right; simp
  · rename_i ho
    by_cases he : (openB l p.toNat).err = 0
    · left
      have := frame_open l p.toNat he
      exact ⟨he, p.toNat, by omega, by omega, this⟩
    · right
      refine ⟨he, ?_⟩
      unfold openB at he ⊢
      by_cases h1 : (l.drop p.toNat).length < 8
      · rw [if_pos h1]; exact ⟨rfl, rfl⟩
      · by_cases h2 : 65536 < numB ((l.drop p.toNat).take 4)
        · rw [if_neg h1, if_pos h2]; exact ⟨rfl, rfl⟩
        · by_cases h3 : (l.drop p.toNat).length - 8 < numB ((l.drop p.toNat).take 4)
          · rw [if_neg h1, if_neg h2, if_pos h3]; exact ⟨rfl, rfl⟩
          · by_cases h4 : Crc.crc (((l.drop p.toNat).drop 8).take (numB ((l.drop p.toNat).take 4))) ≠ numB (((l.drop p.toNat).drop 4).take 4)
            · rw [if_neg h1, if_neg h2, if_neg h3, if_pos h4]; exact ⟨rfl, rfl⟩
            · rw [if_neg h1, if_neg h2, if_neg h3, if_neg h4] at he; exact absurd rfl he

end Go.Proofs.Ytfacdoemgalodaa
