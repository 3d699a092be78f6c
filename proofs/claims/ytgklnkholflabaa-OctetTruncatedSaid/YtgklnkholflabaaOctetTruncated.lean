/-
  OctetTruncated, walked.
-/
import Derived.Test.YtgklnkholflabaaArgs
import Derived.Test.YtgklnkholflabaaGrow
import Derived.Test.YtgklnkholflabaaCodec
namespace Go.Proofs.Ytgklnkholflabaa
open Go.RowKit
set_option linter.unusedVariables false
set_option linter.unusedSimpArgs false

set_option maxRecDepth 100000 in
set_option maxHeartbeats 4000000 in
theorem octetTruncated_any (z : Int) (s : ByteArray) (B : Option Addr) (m d : Nat) (xs : List Int) (cut : Int) (w : World) (hz : -9223372036854775808 ≤ z ∧ z ≤ 9223372036854775807) (hs : s.size ≤ 9223372036854775807) (hx : RdI w w.heap.size B m d xs) (hc : -9223372036854775808 ≤ cut ∧ cut ≤ 9223372036854775807) :
    Calls Try.prog 8 #[.int .i64 z, .string s, .slice B m d, .int .i64 cut] w fun e w' => e = .returned (.bool true) ∧ Below w.heap.size w w' := by
  have h3 := hx.max
  have h4 := hx.le
  have hbt := Below.refl w.heap.size w
  go_enter Try.func8, Try.ntmps8
  go_wp2_with fail
  refine (live_any w).mono ?_
  rintro e w1 ⟨rfl, hb⟩
  replace hx := (hx.below hb).more hb.size
  replace hbt := hbt.trans (hb.mono hbt.size)
  clear hb
  by_cases hls : s.size ≤ 300
  · by_cases hlx : m ≤ 100
    · by_cases hcut : 0 ≤ cut
      · have d0 : decide (300 < s.size) = false := by simp; omega
        have d1 : decide (100 < m) = false := by simp; omega
        have d2 : decide (cut < 0) = false := by simp; omega
        go_wp2_with fail
        clear d0 d1 d2
        refine (putInt_any none 0 0 [] z _ (RdB.nil _ _) (by omega) hz).mono ?_
        rintro e w2 ⟨v2, rfl, ho, hb⟩
        rw [Nat.zero_add, List.nil_append] at ho
        generalize hk : (Vi.putI z).length = k2 at ho
        have HK2 := Lib.hid hk
        clear hk
        obtain ⟨A2, c2, rfl, q2⟩ := own_rdB (n := k2) (l := Vi.putI z) ho
        clear ho
        replace hx := (hx.below hb).more hb.size
        replace hbt := hbt.trans (hb.mono hbt.size)
        clear hb
        have hq2 := q2.max
        have hr2 := q2.le
        go_wp2_with fail
        refine (putText_any none 0 0 [] s _ (RdB.nil _ _) (by omega) (by omega)).mono ?_
        rintro e w3 ⟨v3, rfl, ho, hb⟩
        rw [Nat.zero_add, List.nil_append] at ho
        generalize hk : (Vi.putS s.data.toList).length = k3 at ho
        have HK3 := Lib.hid hk
        clear hk
        obtain ⟨A3, c3, rfl, q3⟩ := own_rdB (n := k3) (l := Vi.putS s.data.toList) ho
        clear ho
        replace hx := (hx.below hb).more hb.size
        replace q2 := (q2.below hb).more hb.size
        replace hbt := hbt.trans (hb.mono hbt.size)
        clear hb
        have hq3 := q3.max
        have hr3 := q3.le
        go_wp2_with fail
        refine (putInts_any none 0 0 [] B m d xs _ (RdB.nil _ _) (by exact hx) (by omega) (by omega)).mono ?_
        rintro e w4 ⟨v4, rfl, ho, hb⟩
        rw [Nat.zero_add, List.nil_append] at ho
        generalize hk : (Vi.putL xs).length = k4 at ho
        have HK4 := Lib.hid hk
        clear hk
        obtain ⟨A4, c4, rfl, q4⟩ := own_rdB (n := k4) (l := Vi.putL xs) ho
        clear ho
        replace hx := (hx.below hb).more hb.size
        replace q2 := (q2.below hb).more hb.size
        replace q3 := (q3.below hb).more hb.size
        replace hbt := hbt.trans (hb.mono hbt.size)
        clear hb
        have hq4 := q4.max
        have hr4 := q4.le
        have p2 : 0 < k2 := by rw [← HK2.out]; exact Vi.putI_pos z
        have p3 : 0 < k3 := by rw [← HK3.out]; exact Vi.putS_pos _
        have p4 : 0 < k4 := by rw [← HK4.out]; exact Vi.putL_pos _
        have e2 : ((k2 : Int) == 0) = false := by simp; omega
        have e3 : ((k3 : Int) == 0) = false := by simp; omega
        have e4 : ((k4 : Int) == 0) = false := by simp; omega
        obtain ⟨j, rfl⟩ : ∃ j : Nat, cut = (j : Int) := ⟨cut.toNat, by omega⟩
        have m2 : j % k2 < k2 := Nat.mod_lt _ p2
        have m3 : j % k3 < k3 := Nat.mod_lt _ p3
        have m4 : j % k4 < k4 := Nat.mod_lt _ p4
        have G2 : Vi.getI ((Vi.putI z).take (j % k2)) 0 = (0, 0, 10) := Vi.getI_part (a := 0) rfl (by rw [HK2.out]; exact m2) (Nat.zero_le _) hz
        have G3 : Vi.getS ((Vi.putS s.data.toList).take (j % k3)) 0 (s.size : Int) = ([], 0, 10) := Vi.getS_part (a := 0) rfl (by rw [HK3.out]; exact m3) (Nat.zero_le _) (by rw [data_len]; omega) (by rw [data_len]; omega)
        have G4 : Vi.getL ((Vi.putL xs).take (j % k4)) 0 (m : Int) = ([], 0, 10) := Vi.getL_part (a := 0) rfl (by rw [HK4.out]; exact m4) (Nat.zero_le _) (by rw [hx.len]; omega) (by rw [hx.len]; omega) hx.2
        have H2 := Lib.hid G2
        have H3 := Lib.hid G3
        have H4 := Lib.hid G4
        clear G2 G3 G4
        go_wp2_with fail
        refine (getInt_any A2 (j % k2) c2 _ 0 w4 (q2.upto (by omega)) (by omega)).mono ?_
        rintro e w' ⟨rfl, rfl⟩
        rw [H2.out]
        dsimp only
        go_wp2_with fail
        refine (getText_any A3 (j % k3) c3 _ 0 s.size w4 (q3.upto (by omega)) (by omega)).mono ?_
        rintro e w5 ⟨rfl, hb⟩
        rw [H3.out]
        dsimp only
        replace hx := (hx.below hb).more hb.size
        replace q2 := (q2.below hb).more hb.size
        replace q3 := (q3.below hb).more hb.size
        replace q4 := (q4.below hb).more hb.size
        replace hbt := hbt.trans (hb.mono hbt.size)
        clear hb
        go_wp2_with fail
        refine (getInts_any A4 (j % k4) c4 _ 0 m w5 (q4.upto (by omega)) (by omega) (by have := Vi.putL_len hx.2 (by rw [hx.len]; omega); rw [HK4.out, hx.len] at this; omega)).mono ?_
        rintro e w6 ⟨v6, rfl, ho, hb⟩
        rw [H4.out]
        clear ho
        dsimp only
        replace hx := (hx.below hb).more hb.size
        replace q2 := (q2.below hb).more hb.size
        replace q3 := (q3.below hb).more hb.size
        replace q4 := (q4.below hb).more hb.size
        replace hbt := hbt.trans (hb.mono hbt.size)
        clear hb
        go_wp2_with fail
        go_ret
        exact ⟨ret_bool rfl, hbt⟩
      · have d0 : decide (300 < s.size) = false := by simp; omega
        have d1 : decide (100 < m) = false := by simp; omega
        have d2 : decide (cut < 0) = true := by simp; omega
        go_wp2_with fail
        go_ret
        exact ⟨ret_bool rfl, hbt⟩
    · have d0 : decide (300 < s.size) = false := by simp; omega
      have d1 : decide (100 < m) = true := by simp; omega
      go_wp2_with fail
      go_ret
      exact ⟨ret_bool rfl, hbt⟩
  · have d0 : decide (300 < s.size) = true := by simp; omega
    go_wp2_with fail
    go_ret
    exact ⟨ret_bool rfl, hbt⟩
end Go.Proofs.Ytgklnkholflabaa
