/-
  The reference's GetInt.
-/
import Derived.Test.YtcnldbhkppfmmaaDoorProg
import Derived.KernelRfl
import Derived.Test.YtcnldbhkppfmmaaDoorBits
namespace Go.Proofs.YtcnldbhkppfmmaaDoor
open Go.RowKit
set_option linter.unusedVariables false
set_option linter.unusedSimpArgs false

set_option maxRecDepth 100000 in
set_option maxHeartbeats 1000000 in
theorem rgetInt_any (A : Option Addr) (n c : Nat) (l : List UInt8) (a : Int) (w : World) (h : RdB w w.heap.size A n c l) (ha : -9223372036854775808 ≤ a ∧ a ≤ 9223372036854775807) (hn : n ≤ 1099511627776) :
    Calls Tryd.prog 34 #[.slice A n c, .int .i64 a] w fun e w' => e = .returned (.tuple #[.int .i64 (Vi.getI l a).1, .int .i64 (Vi.getI l a).2.1, .int .i64 (Vi.getI l a).2.2]) ∧ w = w' := by
  have hm := h.max
  have hle := h.le
  have hlen := Lib.hid h.len
  obtain ⟨R, hR⟩ : ∃ R, R = Vi.getI l a := ⟨_, rfl⟩
  rw [← hR]
  by_cases hbad : a < 0 ∨ (n : Int) < a
  · have hR2 : R = (0, 0, 1) := by rw [hR]; unfold Vi.getI; rw [if_pos (by rw [hlen.out]; exact hbad)]
    subst hR2
    clear hR
    by_cases h0 : a < 0
    · have d0 : decide (a < 0) = true := decide_eq_true h0
      go_enter Tryd.func34, Tryd.ntmps34
      go_wp2_with fail
      go_ret3
      exact ⟨rfl, rfl⟩
    · have d0 : decide (a < 0) = false := decide_eq_false h0
      have d1 : decide ((n : Int) < a) = true := decide_eq_true (by omega)
      go_enter Tryd.func34, Tryd.ntmps34
      go_wp2_with fail
      go_ret3
      exact ⟨rfl, rfl⟩
  · have d0 : decide (a < 0) = false := decide_eq_false (by omega)
    have d1 : decide ((n : Int) < a) = false := decide_eq_false (by omega)
    obtain ⟨q, rfl⟩ := Int.eq_ofNat_of_zero_le (show 0 ≤ a by omega)
    have hqn : q ≤ n := by omega
    have hR2 : R = match Vi.dec 0 0 (l.drop q) with | .short => (0, 0, 10) | .form => (0, 0, 11) | .ok u k => (Vi.unzig u, (q : Int) + k, 0) := by
      rw [hR]; unfold Vi.getI; rw [if_neg (by rw [hlen.out]; exact hbad)]; rfl
    have HR := Lib.hid hR2
    clear hR hR2 hbad
    go_enter Tryd.func34, Tryd.ntmps34
    go_wp2_with fail
    go_loop [7, 8, 9] (fun u t i => ∃ k U T : Nat, q + k ≤ n ∧ k ≤ 9 ∧ i = .int .i64 k ∧ u = .int .u64 (U : Int) ∧ t = .int .u64 (T : Int) ∧ T = 128 ^ k ∧ U < T ∧ Vi.dec 0 0 (l.drop q) = Vi.dec k U (l.drop (q + k))) (fun _ _ i => n - (intOf i).toNat)
    case atStart => exact ⟨0, 0, 1, by omega, by omega, rfl, rfl, rfl, rfl, by omega, rfl⟩
    case round =>
      obtain ⟨k, U, T, hk, hk9, rfl, rfl, rfl, hT, hU, hdec⟩ := hrel
      have HD := Lib.hid hdec
      have HT := Lib.hid hT
      have HU := Lib.hid hU
      clear hdec hT hU
      have d11 : decide ((k : Int) < 11) = true := by simp; omega
      by_cases hkm : q + k < n
      · have d2 : ((q : Int) + (k : Int) == (n : Int)) = false := by simp; omega
        have hkl : q + k < l.length := by rw [hlen.out]; exact hkm
        obtain ⟨ad, rfl, hab, c1⟩ := h.at_ hkm hkl
        have HS : Hid (l.drop (q + k) = l[q + k] :: l.drop (q + (k + 1))) := List.drop_eq_getElem_cons hkl
        generalize l[q + k] = b at *
        obtain ⟨B, hB⟩ : ∃ B : Nat, B = b.toNat := ⟨_, rfl⟩
        have hB255 : B < 256 := by rw [hB]; exact b.toNat_lt
        rw [← hB] at c1
        have HB := Lib.hid hB
        clear hB
        have HDC : Hid (Vi.dec 0 0 (l.drop q) = if (k = 9 ∧ 1 < B) ∨ (0 < k ∧ B = 0) then .form else if B < 128 then .ok (U + B * 128 ^ k) (k + 1) else Vi.dec (k + 1) (U + (B - 128) * 128 ^ k) (l.drop (q + (k + 1)))) := by
          show Vi.dec 0 0 (l.drop q) = _
          rw [HD.out, HS.out]
          simp only [Vi.dec, HB.out]
        clear HD HS
        by_cases e9 : k = 9 ∧ 1 < B
        · have hR3 : R = (0, 0, 11) := by rw [HR.out, HDC.out, if_pos (.inl e9)]
          subst hR3
          have f9 : ((k : Int) == 9) = true := by simp; omega
          have f1 : decide ((1 : Int) < (B : Int)) = true := by simp; omega
          clear e9 HDC HR
          go_wp2_with fail
          go_ret3
          exact ⟨rfl, rfl⟩
        · by_cases e0 : 0 < k ∧ B = 0
          · have hR3 : R = (0, 0, 11) := by rw [HR.out, HDC.out, if_pos (.inr e0)]
            subst hR3
            have f0 : decide ((0 : Int) < (k : Int)) = true := by simp; omega
            have f0' : decide (0 < k) = true := by simp; omega
            have f1 : ((B : Int) == 0) = true := by simp; omega
            have f2 : decide ((1 : Int) < (B : Int)) = false := by simp; omega
            clear HDC HR
            by_cases k9 : k = 9
            · have f9 : ((k : Int) == 9) = true := by simp; omega
              clear e0 e9 k9
              go_wp2_with fail
              go_ret3
              exact ⟨rfl, rfl⟩
            · have f9 : ((k : Int) == 9) = false := by simp; omega
              clear e0 e9
              go_wp2_with fail
              go_ret3
              exact ⟨rfl, rfl⟩
          · have hUk : U < 128 ^ k := by rw [← HT.out]; exact HU.out
            have hX64 := step_lt64 U (B % 128) k hUk hk9 (by omega) (fun e => by omega)
            obtain ⟨X, hX⟩ : ∃ X, X = U + (B % 128) * 128 ^ k := ⟨_, rfl⟩
            rw [← hX] at hX64
            have hW : IntKind.u64.wrap ((U : Int) + IntKind.u64.wrap ((B : Int) % 128 * (T : Int))) = (X : Int) := by
              have hlt : (B % 128) * T < 18446744073709551616 := by rw [HT.out]; omega
              have e1 : ((B : Int) % 128 * (T : Int)) = (((B % 128) * T : Nat) : Int) := by push_cast; rfl
              rw [e1, wrapu64_in _ hlt]
              have e2 : (U : Int) + (((B % 128) * T : Nat) : Int) = ((X : Nat) : Int) := by rw [hX, HT.out]; push_cast; rfl
              rw [e2, wrapu64_in _ hX64]
            have HX : Hid (Vi.dec 0 0 (l.drop q) = if B < 128 then .ok (U + B * 128 ^ k) (k + 1) else Vi.dec (k + 1) (U + (B - 128) * 128 ^ k) (l.drop (q + (k + 1)))) := by
              show Vi.dec 0 0 (l.drop q) = _
              rw [HDC.out, if_neg (by omega)]
            clear HDC hUk
            by_cases hlast : B < 128
            · have hR3 : R = (Vi.unzig X, (q : Int) + ((k + 1 : Nat) : Int), 0) := by rw [HR.out, HX.out, if_pos hlast, hX, Nat.mod_eq_of_lt hlast]
              have f2 : decide ((B : Int) < 128) = true := by simp; omega
              have xb : (X : Int) ≤ 18446744073709551615 := by omega
              clear HX HU hX
              subst hR3
              clear HR
              rcases Nat.mod_two_eq_zero_or_one X with hm2 | hm2
              · have HV : Hid (Vi.unzig X = (X : Int) / 2) := by show Vi.unzig X = _; unfold Vi.unzig; rw [if_pos hm2]; omega
                have g1 : ((X : Int) % 2 == 1) = false := by simp; omega
                clear hm2
                rcases Nat.eq_zero_or_pos k with kz | kz
                · have f9 : ((k : Int) == 9) = false := by simp; omega
                  have f0 : decide ((0 : Int) < (k : Int)) = false := by simp; omega
                  have f0' : decide (0 < k) = false := by simp; omega
                  clear kz e9 e0
                  by_cases bz : B = 0
                  · have f1 : ((B : Int) == 0) = true := by simp; omega
                    clear bz
                    go_wp2_with fail
                    go_ret3
                    refine ⟨?_, rfl⟩
                    rw [HV.out]
                    simp
                    omega
                  · have f1 : ((B : Int) == 0) = false := by simp; omega
                    go_wp2_with fail
                    go_ret3
                    refine ⟨?_, rfl⟩
                    rw [HV.out]
                    simp
                    omega
                · have f0 : decide ((0 : Int) < (k : Int)) = true := by simp; omega
                  have f0' : decide (0 < k) = true := by simp; omega
                  have f1 : ((B : Int) == 0) = false := by simp; omega
                  by_cases k9 : k = 9
                  · have f9 : ((k : Int) == 9) = true := by simp; omega
                    have b1 : decide ((1 : Int) < (B : Int)) = false := by simp; omega
                    clear k9 e9 e0
                    go_wp2_with fail
                    go_ret3
                    refine ⟨?_, rfl⟩
                    rw [HV.out]
                    simp
                    omega
                  · have f9 : ((k : Int) == 9) = false := by simp; omega
                    clear e9 e0
                    go_wp2_with fail
                    go_ret3
                    refine ⟨?_, rfl⟩
                    rw [HV.out]
                    simp
                    omega
              · have HV : Hid (Vi.unzig X = -((X : Int) / 2) - 1) := by show Vi.unzig X = _; unfold Vi.unzig; rw [if_neg (by omega)]; omega
                have g1 : ((X : Int) % 2 == 1) = true := by simp; omega
                clear hm2
                rcases Nat.eq_zero_or_pos k with kz | kz
                · have f9 : ((k : Int) == 9) = false := by simp; omega
                  have f0 : decide ((0 : Int) < (k : Int)) = false := by simp; omega
                  have f0' : decide (0 < k) = false := by simp; omega
                  clear kz e9 e0
                  by_cases bz : B = 0
                  · have f1 : ((B : Int) == 0) = true := by simp; omega
                    clear bz
                    go_wp2_with fail
                    go_ret3
                    refine ⟨?_, rfl⟩
                    rw [HV.out]
                    simp
                    omega
                  · have f1 : ((B : Int) == 0) = false := by simp; omega
                    go_wp2_with fail
                    go_ret3
                    refine ⟨?_, rfl⟩
                    rw [HV.out]
                    simp
                    omega
                · have f0 : decide ((0 : Int) < (k : Int)) = true := by simp; omega
                  have f0' : decide (0 < k) = true := by simp; omega
                  have f1 : ((B : Int) == 0) = false := by simp; omega
                  by_cases k9 : k = 9
                  · have f9 : ((k : Int) == 9) = true := by simp; omega
                    have b1 : decide ((1 : Int) < (B : Int)) = false := by simp; omega
                    clear k9 e9 e0
                    go_wp2_with fail
                    go_ret3
                    refine ⟨?_, rfl⟩
                    rw [HV.out]
                    simp
                    omega
                  · have f9 : ((k : Int) == 9) = false := by simp; omega
                    clear e9 e0
                    go_wp2_with fail
                    go_ret3
                    refine ⟨?_, rfl⟩
                    rw [HV.out]
                    simp
                    omega
            · have f2 : decide ((B : Int) < 128) = false := by simp; omega
              have HP : Hid (X < T * 128) := by
                have := pow_step U (B % 128) k (by rw [← HT.out]; exact HU.out) (by omega)
                rw [← hX, Nat.pow_succ, ← HT.out] at this
                exact this
              have HX2 : Hid (Vi.dec 0 0 (l.drop q) = Vi.dec (k + 1) X (l.drop (q + (k + 1)))) := by
                show Vi.dec 0 0 (l.drop q) = _
                rw [HX.out, if_neg hlast, hX, show B % 128 = B - 128 by omega]
              have hk8 : k ≤ 8 := by omega
              have hT57 : T ≤ 72057594037927936 := by rw [HT.out]; exact Nat.le_trans (Nat.pow_le_pow_right (by decide) hk8) (by decide)
              have hwT : IntKind.u64.wrap ((T : Int) * 128) = ((T * 128 : Nat) : Int) := by
                have := wrapu64_in (T * 128) (by omega)
                rw [← this]; push_cast; rfl
              clear HX HU hX
              rcases Nat.eq_zero_or_pos k with kz | kz
              · have f9 : ((k : Int) == 9) = false := by simp; omega
                have f0 : decide ((0 : Int) < (k : Int)) = false := by simp; omega
                have f0' : decide (0 < k) = false := by simp; omega
                clear kz e9 e0
                by_cases bz : B = 0
                · have f1 : ((B : Int) == 0) = true := by simp; omega
                  clear bz
                  go_wp2
                  go_round
                  case rel => exact ⟨k + 1, X, T * 128, by omega, by omega, by go_num, rfl, by first | rfl | (push_cast; rfl), by rw [HT.out, Nat.pow_succ], HP.out, HX2.out⟩
                  case measure => simp [intOf]; omega
                · have f1 : ((B : Int) == 0) = false := by simp; omega
                  go_wp2
                  go_round
                  case rel => exact ⟨k + 1, X, T * 128, by omega, by omega, by go_num, rfl, by first | rfl | (push_cast; rfl), by rw [HT.out, Nat.pow_succ], HP.out, HX2.out⟩
                  case measure => simp [intOf]; omega
              · have f0 : decide ((0 : Int) < (k : Int)) = true := by simp; omega
                have f0' : decide (0 < k) = true := by simp; omega
                have f1 : ((B : Int) == 0) = false := by simp; omega
                by_cases k9 : k = 9
                · have f9 : ((k : Int) == 9) = true := by simp; omega
                  have b1 : decide ((1 : Int) < (B : Int)) = false := by simp; omega
                  clear k9 e9 e0
                  go_wp2
                  go_round
                  case rel => exact ⟨k + 1, X, T * 128, by omega, by omega, by go_num, rfl, by first | rfl | (push_cast; rfl), by rw [HT.out, Nat.pow_succ], HP.out, HX2.out⟩
                  case measure => simp [intOf]; omega
                · have f9 : ((k : Int) == 9) = false := by simp; omega
                  clear e9 e0
                  go_wp2
                  go_round
                  case rel => exact ⟨k + 1, X, T * 128, by omega, by omega, by go_num, rfl, by first | rfl | (push_cast; rfl), by rw [HT.out, Nat.pow_succ], HP.out, HX2.out⟩
                  case measure => simp [intOf]; omega

      · have d2 : ((q : Int) + (k : Int) == (n : Int)) = true := by simp; omega
        have hR3 : R = (0, 0, 10) := by rw [HR.out, HD.out, List.drop_of_length_le (by rw [hlen.out]; omega)]; rfl
        subst hR3
        go_wp2_with fail
        go_ret3
        exact ⟨rfl, rfl⟩
end Go.Proofs.YtcnldbhkppfmmaaDoor
