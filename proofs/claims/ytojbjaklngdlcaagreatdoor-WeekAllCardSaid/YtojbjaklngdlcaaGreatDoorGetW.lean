/-
  octet.GetInt.
-/
import Derived.Test.YtojbjaklngdlcaaGreatDoorProg
import Derived.KernelRfl
import Derived.Test.YtojbjaklngdlcaaGreatDoorBits
namespace Go.Proofs.YtojbjaklngdlcaaGreatDoor
open Go.RowKit
set_option linter.unusedVariables false
set_option linter.unusedSimpArgs false

set_option maxRecDepth 100000 in
set_option maxHeartbeats 1000000 in
theorem getInt_any (A : Option Addr) (n c : Nat) (l : List UInt8) (a : Int) (w : World) (h : RdB w w.heap.size A n c l) (ha : -9223372036854775808 ≤ a ∧ a ≤ 9223372036854775807) :
    Calls Tryz.prog 54 #[.slice A n c, .int .i64 a] w fun e w' => e = .returned (.tuple #[.int .i64 (Vi.getI l a).1, .int .i64 (Vi.getI l a).2.1, .int .i64 (Vi.getI l a).2.2]) ∧ w = w' := by
  have hm := h.max
  have hle := h.le
  have hlen := Lib.hid h.len
  obtain ⟨R, hR⟩ : ∃ R, R = Vi.getI l a := ⟨_, rfl⟩
  rw [← hR]
  by_cases hbad : a < 0 ∨ (n : Int) < a
  · have hR2 : R = (0, 0, 1) := by rw [hR]; unfold Vi.getI; rw [if_pos (by rw [hlen.out]; exact hbad)]
    subst hR2
    clear hR
    by_cases h0 : a < 0
    · have d0 : decide (a < 0) = true := decide_eq_true h0
      go_enter Tryz.func54, Tryz.ntmps54
      go_wp2_with fail
      go_ret3
      exact ⟨rfl, rfl⟩
    · have d0 : decide (a < 0) = false := decide_eq_false h0
      have d1 : decide ((n : Int) < a) = true := decide_eq_true (by omega)
      go_enter Tryz.func54, Tryz.ntmps54
      go_wp2_with fail
      go_ret3
      exact ⟨rfl, rfl⟩
  · have d0 : decide (a < 0) = false := decide_eq_false (by omega)
    have d1 : decide ((n : Int) < a) = false := decide_eq_false (by omega)
    obtain ⟨q, rfl⟩ := Int.eq_ofNat_of_zero_le (show 0 ≤ a by omega)
    have hqn : q ≤ n := by omega
    have hR2 : R = match Vi.dec 0 0 (l.drop q) with | .short => (0, 0, 10) | .form => (0, 0, 11) | .ok u k => (Vi.unzig u, (q : Int) + k, 0) := by
      rw [hR]; unfold Vi.getI; rw [if_neg (by rw [hlen.out]; exact hbad)]; rfl
    have hcut := h.cut hqn
    have HR := Lib.hid hR2
    clear hR hR2 hbad
    rcases Nat.decEq c q with hcq | hcq
    · rw [if_neg hcq] at hcut
      go_enter Tryz.func54, Tryz.ntmps54
      go_wp2_with fail
      generalize Option.map (fun x => Addr.add x q) A = A' at *
      generalize l.drop q = s at *
      obtain ⟨m, hmq⟩ : ∃ m, m = n - q := ⟨_, rfl⟩
      rw [← hmq] at hcut ⊢
      have hm2 : q + m ≤ 9223372036854775807 := by omega
      have hls := Lib.hid hcut.len
      clear hmq hcq
      go_loop [7, 22] (fun u i => ∃ k U : Nat, k ≤ m ∧ k ≤ 9 ∧ i = .int .i64 k ∧ u = .int .u64 (U : Int) ∧ U < 128 ^ k ∧ Vi.dec 0 0 s = Vi.dec k U (s.drop k)) (fun _ i => m - (intOf i).toNat)
      case atStart => exact ⟨0, 0, by omega, by omega, rfl, rfl, by simp, rfl⟩
      case round =>
        obtain ⟨k, U, hk, hk9, rfl, rfl, hU, hdec⟩ := hrel
        have HD := Lib.hid hdec
        have HU := Lib.hid hU
        clear hdec hU
        by_cases hkm : k < m
        · have d2 : decide ((k : Int) < (m : Int)) = true := by simp; omega
          have hkl : k < s.length := by rw [hls.out]; exact hkm
          obtain ⟨ad, rfl, hab, c1⟩ := hcut.at_ hkm hkl
          have HS : Hid (s.drop k = s[k] :: s.drop (k + 1)) := List.drop_eq_getElem_cons hkl
          generalize s[k] = b at *
          obtain ⟨B, hB⟩ : ∃ B : Nat, B = b.toNat := ⟨_, rfl⟩
          have hB255 : B < 256 := by rw [hB]; exact b.toNat_lt
          rw [← hB] at c1
          have HB := Lib.hid hB
          clear hB
          have HDC : Hid (Vi.dec 0 0 s = if (k = 9 ∧ 1 < B) ∨ (0 < k ∧ B = 0) then .form else if B < 128 then .ok (U + B * 128 ^ k) (k + 1) else Vi.dec (k + 1) (U + (B - 128) * 128 ^ k) (s.drop (k + 1))) := by
            show Vi.dec 0 0 s = _
            rw [HD.out, HS.out]
            simp only [Vi.dec, HB.out]
          clear HD HS
          by_cases e9 : k = 9 ∧ 1 < B
          · have hR3 : R = (0, 0, 11) := by rw [HR.out, HDC.out, if_pos (.inl e9)]
            subst hR3
            have f9 : ((k : Int) == 9) = true := by simp; omega
            have f1 : decide ((1 : Int) < (B : Int)) = true := by simp; omega
            clear e9 HDC HR
            go_wp2_with fail
            go_ret3
            exact ⟨rfl, rfl⟩
          · by_cases e0 : 0 < k ∧ B = 0
            · have hR3 : R = (0, 0, 11) := by rw [HR.out, HDC.out, if_pos (.inr e0)]
              subst hR3
              have f0 : decide ((0 : Int) < (k : Int)) = true := by simp; omega
              have f0' : decide (0 < k) = true := by simp; omega
              have f1 : ((B : Int) == 0) = true := by simp; omega
              have f2 : decide ((1 : Int) < (B : Int)) = false := by simp; omega
              clear HDC HR
              by_cases k9 : k = 9
              · have f9 : ((k : Int) == 9) = true := by simp; omega
                clear e0 e9 k9
                go_wp2_with fail
                go_ret3
                exact ⟨rfl, rfl⟩
              · have f9 : ((k : Int) == 9) = false := by simp; omega
                clear e0 e9
                go_wp2_with fail
                go_ret3
                exact ⟨rfl, rfl⟩
            · have HW := Lib.hid (or_step U B k HU.out hB255 hk9 (fun e => by omega))
              have hW64 := Lib.hid (step_lt64 U (B % 128) k HU.out hk9 (by omega) (fun e => by omega))
              have HX : Hid (Vi.dec 0 0 s = if B < 128 then .ok (U + B * 128 ^ k) (k + 1) else Vi.dec (k + 1) (U + (B - 128) * 128 ^ k) (s.drop (k + 1))) := by
                show Vi.dec 0 0 s = _
                rw [HDC.out, if_neg (by omega)]
              clear HDC
              by_cases hlast : B < 128
              · have hR3 : R = (Vi.unzig (U + B * 128 ^ k), (q : Int) + ((k + 1 : Nat) : Int), 0) := by rw [HR.out, HX.out, if_pos hlast]
                have HV : Hid (bits .xor .i64 (wrap64 (((U + (B % 128) * 128 ^ k : Nat) : Int) / 2)) (wrap64 (-wrap64 (bits .and .u64 ((U + (B % 128) * 128 ^ k : Nat) : Int) 1))) = Vi.unzig (U + B * 128 ^ k)) := by
                  have := get_val _ hW64.out
                  rw [Nat.mod_eq_of_lt hlast] at this ⊢
                  exact this
                clear HX hW64 HU
                subst hR3
                clear HR
                have f2 : decide ((B : Int) < 128) = true := by simp; omega
                rcases Nat.eq_zero_or_pos k with kz | kz
                · have f9 : ((k : Int) == 9) = false := by simp; omega
                  have f0 : decide ((0 : Int) < (k : Int)) = false := by simp; omega
                  have f0' : decide (0 < k) = false := by simp; omega
                  have KZ := Lib.hid kz
                  clear kz e9 e0
                  go_wp2_with fail
                  rw [HW.out, HV.out]
                  go_ret3
                  refine ⟨?_, rfl⟩
                  simp
                  omega
                · have f0 : decide ((0 : Int) < (k : Int)) = true := by simp; omega
                  have f0' : decide (0 < k) = true := by simp; omega
                  have f1 : ((B : Int) == 0) = false := by simp; omega
                  by_cases k9 : k = 9
                  · have f9 : ((k : Int) == 9) = true := by simp; omega
                    have b1 : decide ((1 : Int) < (B : Int)) = false := by simp; omega
                    have K9 := Lib.hid k9
                    clear k9 e9 e0
                    go_wp2_with fail
                    rw [HW.out, HV.out]
                    go_ret3
                    refine ⟨?_, rfl⟩
                    simp
                    omega
                  · have f9 : ((k : Int) == 9) = false := by simp; omega
                    clear e9 e0
                    go_wp2_with fail
                    rw [HW.out, HV.out]
                    go_ret3
                    refine ⟨?_, rfl⟩
                    simp
                    omega
              · have HP : Hid (U + (B % 128) * 128 ^ k < 128 ^ (k + 1)) := pow_step U (B % 128) k HU.out (by omega)
                have HX2 : Hid (Vi.dec 0 0 s = Vi.dec (k + 1) (U + (B % 128) * 128 ^ k) (s.drop (k + 1))) := by
                  show Vi.dec 0 0 s = _
                  rw [HX.out, if_neg hlast, show B % 128 = B - 128 by omega]
                have hk8 : k ≤ 8 := by omega
                clear HX hW64 HU
                have f2 : decide ((B : Int) < 128) = false := by simp; omega
                rcases Nat.eq_zero_or_pos k with kz | kz
                · have f9 : ((k : Int) == 9) = false := by simp; omega
                  have f0 : decide ((0 : Int) < (k : Int)) = false := by simp; omega
                  have f0' : decide (0 < k) = false := by simp; omega
                  have KZ := Lib.hid kz
                  clear kz e9 e0
                  go_wp2
                  rw [HW.out]
                  go_round
                  case rel => exact ⟨k + 1, _, by omega, by omega, by go_num, rfl, HP.out, HX2.out⟩
                  case measure => simp [intOf]; omega
                · have f0 : decide ((0 : Int) < (k : Int)) = true := by simp; omega
                  have f0' : decide (0 < k) = true := by simp; omega
                  have f1 : ((B : Int) == 0) = false := by simp; omega
                  by_cases k9 : k = 9
                  · have f9 : ((k : Int) == 9) = true := by simp; omega
                    have b1 : decide ((1 : Int) < (B : Int)) = false := by simp; omega
                    have K9 := Lib.hid k9
                    clear k9 e9 e0
                    go_wp2
                    rw [HW.out]
                    go_round
                    case rel => exact ⟨k + 1, _, by omega, by omega, by go_num, rfl, HP.out, HX2.out⟩
                    case measure => simp [intOf]; omega
                  · have f9 : ((k : Int) == 9) = false := by simp; omega
                    clear e9 e0
                    go_wp2
                    rw [HW.out]
                    go_round
                    case rel => exact ⟨k + 1, _, by omega, by omega, by go_num, rfl, HP.out, HX2.out⟩
                    case measure => simp [intOf]; omega

        · obtain rfl : k = m := by omega
          have d2 : decide ((k : Int) < (k : Int)) = false := by simp
          have hR3 : R = (0, 0, 10) := by rw [HR.out, HD.out, List.drop_of_length_le (by rw [hls.out]; omega)]; rfl
          subst hR3
          go_wp2_with fail
          go_ret3
          exact ⟨rfl, rfl⟩
    · subst hcq
      have hR3 : R = (0, 0, 10) := by rw [HR.out, List.drop_of_length_le (by rw [hlen.out]; omega)]; rfl
      subst hR3
      obtain rfl : n = c := by omega
      clear HR
      go_enter Tryz.func54, Tryz.ntmps54
      go_wp2_with fail
      refine wp_loop_rounds 1 ?_
      rw [rounds_succ]
      have d2 : decide ((0 : Int) < ((n - n : Nat) : Int)) = false := by simp
      go_wp2_with fail
      go_ret3
      exact ⟨rfl, rfl⟩
end Go.Proofs.YtojbjaklngdlcaaGreatDoor
