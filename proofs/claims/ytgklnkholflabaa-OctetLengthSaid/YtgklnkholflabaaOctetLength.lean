/-
  OctetLength, walked.
-/
import Derived.Test.YtgklnkholflabaaArgs
import Derived.Test.YtgklnkholflabaaGrow
import Derived.Test.YtgklnkholflabaaCodec
namespace Go.Proofs.Ytgklnkholflabaa
open Go.RowKit
set_option linter.unusedVariables false
set_option linter.unusedSimpArgs false

set_option maxRecDepth 100000 in
set_option maxHeartbeats 4000000 in
theorem octetLength_any (m n : Int) (w : World) (hm : -9223372036854775808 ≤ m ∧ m ≤ 9223372036854775807) (hn : -9223372036854775808 ≤ n ∧ n ≤ 9223372036854775807) :
    Calls Try.prog 9 #[.int .i64 m, .int .i64 n] w fun e w' => e = .returned (.bool true) ∧ Below w.heap.size w w' := by
  have hbt := Below.refl w.heap.size w
  go_enter Try.func9, Try.ntmps9
  go_wp2_with fail
  refine (live_any w).mono ?_
  rintro e w1 ⟨rfl, hb⟩
  replace hbt := hbt.trans (hb.mono hbt.size)
  clear hb
  go_wp2_with fail
  refine (putInt_any none 0 0 [] m _ (RdB.nil _ _) (by omega) hm).mono ?_
  rintro e w2 ⟨v2, rfl, ho, hb⟩
  rw [Nat.zero_add, List.nil_append] at ho
  have HK2 := Lib.hid (rfl : (Vi.putI m).length = (Vi.putI m).length)
  generalize hk : (Vi.putI m).length = k2 at ho
  clear HK2
  have HK2 := Lib.hid hk
  clear hk
  obtain ⟨A2, c2, rfl, q2⟩ := own_rdB (n := k2) (l := Vi.putI m) ho
  clear ho
  replace hbt := hbt.trans (hb.mono hbt.size)
  clear hb
  have hq2 := q2.max
  have hr2 := q2.le
  go_wp2_with fail
  refine (putInt_any none 0 0 [] n _ (RdB.nil _ _) (by omega) hn).mono ?_
  rintro e w3 ⟨v3, rfl, ho, hb⟩
  rw [Nat.zero_add, List.nil_append] at ho
  have HK3 := Lib.hid (rfl : (Vi.putI n).length = (Vi.putI n).length)
  generalize hk : (Vi.putI n).length = k3 at ho
  clear HK3
  have HK3 := Lib.hid hk
  clear hk
  obtain ⟨A3, c3, rfl, q3⟩ := own_rdB (n := k3) (l := Vi.putI n) ho
  clear ho
  replace q2 := (q2.below hb).more hb.size
  replace hbt := hbt.trans (hb.mono hbt.size)
  clear hb
  have hq3 := q3.max
  have hr3 := q3.le
  have ha : 1 ≤ k2 ∧ k2 ≤ 10 := by rw [← HK2.out]; exact ⟨Vi.putI_pos m, putI_len hm⟩
  have hb : k2 = 1 ↔ (-64 ≤ m ∧ m ≤ 63) := by rw [← HK2.out]; exact Vi.putI_one
  have hc : ((0 ≤ m ∧ m ≤ n) ∨ (m < 0 ∧ n ≤ m)) → k2 ≤ k3 := by rw [← HK2.out, ← HK3.out]; exact Vi.putI_near
  have HB := Lib.hid hb
  have HC := Lib.hid hc
  clear hb hc
  clear q2 q3
  have t1 : decide ((1 : Int) ≤ (k2 : Int)) = true := by simp; omega
  have t2 : decide ((k2 : Int) ≤ 10) = true := by simp; omega
  have t1' : decide (1 ≤ k2) = true := by simp; omega
  have t2' : decide (k2 ≤ 10) = true := by simp; omega
  by_cases hpos : 0 ≤ m
  · by_cases hone : -64 ≤ m ∧ m ≤ 63
    · by_cases hnear : m ≤ n
      · have f1 : (decide (0 ≤ m)) = true := by have := HB.out; have := HC.out; simp; omega
        have f2 : (decide (m < 0)) = false := by have := HB.out; have := HC.out; simp; omega
        have f3 : ((k2 : Int) == 1) = true := by have := HB.out; have := HC.out; simp; omega
        have f4 : (decide (-64 ≤ m)) = true := by have := HB.out; have := HC.out; simp; omega
        have f5 : (decide (m ≤ 63)) = true := by have := HB.out; have := HC.out; simp; omega
        have f6 : (decide (m ≤ n)) = true := by have := HB.out; have := HC.out; simp; omega
        have f7 : (decide (k2 ≤ k3)) = true := by have := HB.out; have := HC.out; simp; omega
        clear HB HC HK2 HK3
        go_wp2_with fail
        go_ret
        exact ⟨ret_bool rfl, hbt⟩
      · have f8 : (decide (0 ≤ m)) = true := by have := HB.out; have := HC.out; simp; omega
        have f9 : (decide (m < 0)) = false := by have := HB.out; have := HC.out; simp; omega
        have f10 : ((k2 : Int) == 1) = true := by have := HB.out; have := HC.out; simp; omega
        have f11 : (decide (-64 ≤ m)) = true := by have := HB.out; have := HC.out; simp; omega
        have f12 : (decide (m ≤ 63)) = true := by have := HB.out; have := HC.out; simp; omega
        have f13 : (decide (m ≤ n)) = false := by have := HB.out; have := HC.out; simp; omega
        clear HB HC HK2 HK3
        go_wp2_with fail
        go_ret
        exact ⟨ret_bool rfl, hbt⟩
    · by_cases hnear : m ≤ n
      · have f14 : (decide (0 ≤ m)) = true := by have := HB.out; have := HC.out; simp; omega
        have f15 : (decide (m < 0)) = false := by have := HB.out; have := HC.out; simp; omega
        have f16 : ((k2 : Int) == 1) = false := by have := HB.out; have := HC.out; simp; omega
        have f17 : (decide (-64 ≤ m)) = true := by have := HB.out; have := HC.out; simp; omega
        have f18 : (decide (m ≤ 63)) = false := by have := HB.out; have := HC.out; simp; omega
        have f19 : (decide (m ≤ n)) = true := by have := HB.out; have := HC.out; simp; omega
        have f20 : (decide (k2 ≤ k3)) = true := by have := HB.out; have := HC.out; simp; omega
        clear HB HC HK2 HK3
        go_wp2_with fail
        go_ret
        exact ⟨ret_bool rfl, hbt⟩
      · have f21 : (decide (0 ≤ m)) = true := by have := HB.out; have := HC.out; simp; omega
        have f22 : (decide (m < 0)) = false := by have := HB.out; have := HC.out; simp; omega
        have f23 : ((k2 : Int) == 1) = false := by have := HB.out; have := HC.out; simp; omega
        have f24 : (decide (-64 ≤ m)) = true := by have := HB.out; have := HC.out; simp; omega
        have f25 : (decide (m ≤ 63)) = false := by have := HB.out; have := HC.out; simp; omega
        have f26 : (decide (m ≤ n)) = false := by have := HB.out; have := HC.out; simp; omega
        clear HB HC HK2 HK3
        go_wp2_with fail
        go_ret
        exact ⟨ret_bool rfl, hbt⟩
  · by_cases hone : -64 ≤ m ∧ m ≤ 63
    · by_cases hnear : n ≤ m
      · have f27 : (decide (0 ≤ m)) = false := by have := HB.out; have := HC.out; simp; omega
        have f28 : (decide (m < 0)) = true := by have := HB.out; have := HC.out; simp; omega
        have f29 : ((k2 : Int) == 1) = true := by have := HB.out; have := HC.out; simp; omega
        have f30 : (decide (-64 ≤ m)) = true := by have := HB.out; have := HC.out; simp; omega
        have f31 : (decide (m ≤ 63)) = true := by have := HB.out; have := HC.out; simp; omega
        have f32 : (decide (n ≤ m)) = true := by have := HB.out; have := HC.out; simp; omega
        have f33 : (decide (k2 ≤ k3)) = true := by have := HB.out; have := HC.out; simp; omega
        clear HB HC HK2 HK3
        go_wp2_with fail
        go_ret
        exact ⟨ret_bool rfl, hbt⟩
      · have f34 : (decide (0 ≤ m)) = false := by have := HB.out; have := HC.out; simp; omega
        have f35 : (decide (m < 0)) = true := by have := HB.out; have := HC.out; simp; omega
        have f36 : ((k2 : Int) == 1) = true := by have := HB.out; have := HC.out; simp; omega
        have f37 : (decide (-64 ≤ m)) = true := by have := HB.out; have := HC.out; simp; omega
        have f38 : (decide (m ≤ 63)) = true := by have := HB.out; have := HC.out; simp; omega
        have f39 : (decide (n ≤ m)) = false := by have := HB.out; have := HC.out; simp; omega
        clear HB HC HK2 HK3
        go_wp2_with fail
        go_ret
        exact ⟨ret_bool rfl, hbt⟩
    · by_cases hnear : n ≤ m
      · have f40 : (decide (0 ≤ m)) = false := by have := HB.out; have := HC.out; simp; omega
        have f41 : (decide (m < 0)) = true := by have := HB.out; have := HC.out; simp; omega
        have f42 : ((k2 : Int) == 1) = false := by have := HB.out; have := HC.out; simp; omega
        have f43 : (decide (-64 ≤ m)) = false := by have := HB.out; have := HC.out; simp; omega
        have f44 : (decide (n ≤ m)) = true := by have := HB.out; have := HC.out; simp; omega
        have f45 : (decide (k2 ≤ k3)) = true := by have := HB.out; have := HC.out; simp; omega
        clear HB HC HK2 HK3
        go_wp2_with fail
        go_ret
        exact ⟨ret_bool rfl, hbt⟩
      · have f46 : (decide (0 ≤ m)) = false := by have := HB.out; have := HC.out; simp; omega
        have f47 : (decide (m < 0)) = true := by have := HB.out; have := HC.out; simp; omega
        have f48 : ((k2 : Int) == 1) = false := by have := HB.out; have := HC.out; simp; omega
        have f49 : (decide (-64 ≤ m)) = false := by have := HB.out; have := HC.out; simp; omega
        have f50 : (decide (n ≤ m)) = false := by have := HB.out; have := HC.out; simp; omega
        clear HB HC HK2 HK3
        go_wp2_with fail
        go_ret
        exact ⟨ret_bool rfl, hbt⟩
end Go.Proofs.Ytgklnkholflabaa
