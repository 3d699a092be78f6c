/-
  SealOne: for every byte slice and offset the law returns true and the arguments read as before. No condition.
-/
import Derived.Test.YtoagegphhefboaaLiveW
namespace Go.Proofs.Ytoagegphhefboaa
open Go.RowKit
set_option linter.unusedVariables false

theorem four_num (l : List UInt8) (h : l.length = 4) : four (numB l) = l := by
  match l, h with
  | [a, b, c, d], _ =>
    rw [numB_four]
    have ha := a.toNat_lt
    have hb := b.toNat_lt
    have hc := c.toNat_lt
    have hd := d.toNat_lt
    unfold four
    have e : ∀ (x : UInt8) (m : Nat), m % 256 = x.toNat → UInt8.ofNat m = x := fun x m h => UInt8.toNat_inj.1 (by rw [UInt8.toNat_ofNat', h])
    rw [e a _ (by omega), e b _ (by omega), e c _ (by omega), e d _ (by omega)]

/-- A payload that opens, framed again, is what was read. -/
theorem frame_open (l : List UInt8) (p : Nat) (h : (openB l p).err = 0) : (openB l p).body.length ≤ 65536 ∧ (openB l p).next = p + 8 + (openB l p).body.length ∧ (openB l p).next ≤ l.length ∧
    frameB (openB l p).body = (l.take (openB l p).next).drop p := by
  unfold openB at h ⊢
  split at h
  · simp at h
  rename_i h8
  split at h
  · simp at h
  rename_i hbig
  split at h
  · simp at h
  rename_i hsh
  split at h
  · simp at h
  rename_i hcrc
  rw [if_neg h8, if_neg hbig, if_neg hsh, if_neg hcrc]
  have hcrc' : Crc.crc (((l.drop p).drop 8).take (numB ((l.drop p).take 4))) = numB (((l.drop p).drop 4).take 4) := by simpa using hcrc
  rw [List.length_drop] at h8 hsh
  have hN : (((l.drop p).drop 8).take (numB ((l.drop p).take 4))).length = numB ((l.drop p).take 4) := by
    rw [List.length_take, List.length_drop, List.length_drop]; omega
  refine ⟨by simp only; omega, by simp only; omega, by simp only; omega, ?_⟩
  simp only
  unfold frameB
  rw [hN, hcrc', four_num _ (by rw [List.length_take, List.length_drop]; omega), four_num _ (by rw [List.length_take, List.length_drop, List.length_drop]; omega)]
  rw [List.drop_take]
  have e : p + 8 + numB ((l.drop p).take 4) - p = 4 + (4 + numB ((l.drop p).take 4)) := by omega
  rw [e]
  generalize numB ((l.drop p).take 4) = N
  generalize l.drop p = r
  rw [List.take_add, List.take_add, List.drop_drop]
  simp [List.append_assoc]

/-- Open succeeds inside the slice, or answers an error and nothing else. -/
theorem open_cases (l : List UInt8) (p : Int) : ((openI l p).err = 0 ∧ ∃ q : Nat, p = q ∧ q ≤ l.length ∧ (openI l p).body.length ≤ 65536 ∧ (openI l p).next = q + 8 + (openI l p).body.length ∧ (openI l p).next ≤ l.length ∧ frameB (openI l p).body = (l.take (openI l p).next).drop q) ∨
    ((openI l p).err ≠ 0 ∧ (openI l p).body = [] ∧ (openI l p).next = 0) := by
  unfold openI
  split
  · right; simp
  · rename_i ho
    by_cases he : (openB l p.toNat).err = 0
    · left
      have := frame_open l p.toNat he
      exact ⟨he, p.toNat, by omega, by omega, this⟩
    · right
      refine ⟨he, ?_⟩
      unfold openB at he ⊢
      by_cases h1 : (l.drop p.toNat).length < 8
      · rw [if_pos h1]; exact ⟨rfl, rfl⟩
      · by_cases h2 : 65536 < numB ((l.drop p.toNat).take 4)
        · rw [if_neg h1, if_pos h2]; exact ⟨rfl, rfl⟩
        · by_cases h3 : (l.drop p.toNat).length - 8 < numB ((l.drop p.toNat).take 4)
          · rw [if_neg h1, if_neg h2, if_pos h3]; exact ⟨rfl, rfl⟩
          · by_cases h4 : Crc.crc (((l.drop p.toNat).drop 8).take (numB ((l.drop p.toNat).take 4))) ≠ numB (((l.drop p.toNat).drop 4).take 4)
            · rw [if_neg h1, if_neg h2, if_neg h3, if_pos h4]; exact ⟨rfl, rfl⟩
            · rw [if_neg h1, if_neg h2, if_neg h3, if_neg h4] at he; exact absurd rfl he

set_option maxHeartbeats 2000000 in
theorem sealOne_walk (A : Option Addr) (n c : Nat) (l : List UInt8) (p : Int) (w : World) (h : RdB w w.heap.size A n c l) (hp1 : -9223372036854775808 ≤ p) (hp2 : p ≤ 9223372036854775807) :
    Calls Try.prog 7 #[.slice A n c, .int .i64 p] w fun e w' => e = .returned (.bool true) ∧ Below w.heap.size w w' := by
  have hm := h.max
  have hle := h.le
  have hlen := Lib.hid h.len
  go_enter Try.func7, Try.ntmps7
  go_wp2_with fail
  refine (live2_any w).mono ?_
  rintro e w1 ⟨rfl, hb1⟩
  have h1 := (h.below hb1).more hb1.size
  by_cases hbig : 4000 < n
  · go_wp2_with fail
    go_ret
    exact ⟨rfl, hb1⟩
  · go_wp2_with fail
    refine (open_any A n c l p w1 h1 (by omega) hp1 hp2).mono ?_
    have hR' := open_cases l p
    rw [hlen.out] at hR'
    generalize openI l p = R at *
    obtain ⟨err, body, next⟩ := R
    dsimp only at hR'
    rintro e w2 ⟨v2, rfl, hown2, hb2⟩
    have hB2 := hb1.trans (hb2.mono hb1.size)
    dsimp only at *
    obtain ⟨A2, c2, rfl, hr2⟩ := own_rdB hown2
    rcases hR' with ⟨rfl, q, rfl, hq, hbl, rfl, hnx, hfr⟩ | ⟨herr, rfl, rfl⟩
    · have Hfr := Lib.hid hfr
      clear hfr
      have h2 := (h1.below hb2)
      go_wp2_with fail
      refine (frame_any A2 _ c2 body w2 hr2).mono ?_
      rintro e w3 (⟨hbad, _⟩ | ⟨_, v3, rfl, hown3, hb3⟩)
      · omega
      obtain ⟨A3, c3, rfl, hr3⟩ := own_rdB hown3
      rw [Hfr.out] at hr3
      have h3 := (h2.below (hb3.mono hb2.size)).more (Nat.le_trans hb2.size hb3.size)
      have hB3 := hB2.trans (hb3.mono hB2.size)
      have hs := (h3.upto hnx).cut (show q ≤ q + 8 + body.length by omega)
      have e1 : (List.drop q (List.take (q + 8 + body.length) l) == List.drop q (List.take (q + 8 + body.length) l)) = true := by simp
      have hm2 := hr2.max
      have hl2 := hr2.le
      generalize List.drop q (List.take (q + 8 + body.length) l) = t at *
      clear hown2 hown3
      have d1 : decide ((0 : Int) ≤ (q : Int)) = true := by simp
      generalize body.length = m at *
      have d2 : (((q + 8 + m : Nat) : Int) == (q : Int) + 8 + (m : Int)) = true := by rw [beq_iff_eq]; omega
      have d3 : decide (((q + 8 + m : Nat) : Int) ≤ (n : Int)) = true := by simp; omega
      rw [if_neg (by omega)] at hs
      go_wp2_with fail
      refine (same_any A3 _ _ _ _ _ t t w3 hr3 hs).mono ?_
      rintro e w4 ⟨rfl, rfl⟩
      go_wp2_with fail
      go_ret
      exact ⟨rfl, hB3⟩
    · have d1 : ((err : Int) != 0) = true := by rw [bne_iff_ne]; omega
      go_wp2_with fail
      go_ret
      exact ⟨rfl, hB2⟩
end Go.Proofs.Ytoagegphhefboaa
