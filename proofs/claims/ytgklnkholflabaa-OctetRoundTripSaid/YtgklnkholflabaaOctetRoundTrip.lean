/-
  OctetRoundTrip, walked.
-/
import Derived.Test.YtgklnkholflabaaArgs
import Derived.Test.YtgklnkholflabaaGrow
import Derived.Test.YtgklnkholflabaaCodec
namespace Go.Proofs.Ytgklnkholflabaa
open Go.RowKit
set_option linter.unusedVariables false
set_option linter.unusedSimpArgs false

set_option maxRecDepth 100000 in
set_option maxHeartbeats 4000000 in
theorem octetRoundTrip_any (A : Option Addr) (n c : Nat) (l : List UInt8) (z : Int) (s : ByteArray) (B : Option Addr) (m d : Nat) (xs : List Int) (w : World) (h : RdB w w.heap.size A n c l) (hz : -9223372036854775808 ≤ z ∧ z ≤ 9223372036854775807) (hs : s.size ≤ 9223372036854775807) (hx : RdI w w.heap.size B m d xs) :
    Calls Try.prog 6 #[.slice A n c, .int .i64 z, .string s, .slice B m d] w fun e w' => e = .returned (.bool true) ∧ Below w.heap.size w w' := by
  have h1 := h.max
  have h2 := h.le
  have h3 := hx.max
  have h4 := hx.le
  have hbt := Below.refl w.heap.size w
  go_enter Try.func6, Try.ntmps6
  go_wp2_with fail
  refine (live_any w).mono ?_
  rintro e w1 ⟨rfl, hb⟩
  replace h := (h.below hb).more hb.size
  replace hx := (hx.below hb).more hb.size
  replace hbt := hbt.trans (hb.mono hbt.size)
  clear hb
  go_wp2_with fail
  refine (few_any A n c w1 (by omega)).mono ?_
  rintro e w' ⟨rfl, rfl⟩
  by_cases hfew : n ≤ 3000
  · by_cases hls : s.size ≤ 300
    · by_cases hlx : m ≤ 100
      · rw [decide_eq_true hfew]
        have d0 : decide (300 < s.size) = false := by simp; omega
        have d1 : decide (100 < m) = false := by simp; omega
        go_wp2_with fail
        clear d0 d1
        refine (putInt_any A n c l z _ (by exact h) (by omega) hz).mono ?_
        rintro e w2 ⟨v2, rfl, ho, hb⟩
        generalize hk : (Vi.putI z).length = k2 at ho
        have HK2 := Lib.hid hk
        clear hk
        obtain ⟨A2, c2, rfl, q2⟩ := own_rdB (n := n + k2) (l := l ++ Vi.putI z) ho
        clear ho
        replace h := (h.below hb).more hb.size
        replace hx := (hx.below hb).more hb.size
        replace hbt := hbt.trans (hb.mono hbt.size)
        clear hb
        have hq2 := q2.max
        have hr2 := q2.le
        have L2 : k2 ≤ 10 := by rw [← HK2.out]; exact putI_len hz
        go_wp2_with fail
        refine (putText_any A2 (n + k2) c2 (l ++ Vi.putI z) s _ (by exact q2) (by omega) (by omega)).mono ?_
        rintro e w3 ⟨v3, rfl, ho, hb⟩
        generalize hk : (Vi.putS s.data.toList).length = k3 at ho
        have HK3 := Lib.hid hk
        clear hk
        obtain ⟨A3, c3, rfl, q3⟩ := own_rdB (n := n + k2 + k3) (l := (l ++ Vi.putI z) ++ Vi.putS s.data.toList) ho
        clear ho
        replace h := (h.below hb).more hb.size
        replace hx := (hx.below hb).more hb.size
        replace q2 := (q2.below hb).more hb.size
        replace hbt := hbt.trans (hb.mono hbt.size)
        clear hb
        have hq3 := q3.max
        have hr3 := q3.le
        have L3 : k3 ≤ 310 := by rw [← HK3.out]; have := Vi.putS_len s.data.toList (by rw [data_len]; omega); rw [data_len] at this; omega
        clear q2
        go_wp2_with fail
        refine (putInts_any A3 (n + k2 + k3) c3 (l ++ Vi.putI z ++ Vi.putS s.data.toList) B m d xs _ (by exact q3) (by exact hx) (by omega) (by omega)).mono ?_
        rintro e w4 ⟨v4, rfl, ho, hb⟩
        generalize hk : (Vi.putL xs).length = k4 at ho
        have HK4 := Lib.hid hk
        clear hk
        obtain ⟨A4, c4, rfl, q4⟩ := own_rdB (n := n + k2 + k3 + k4) (l := (l ++ Vi.putI z ++ Vi.putS s.data.toList) ++ Vi.putL xs) ho
        clear ho
        replace h := (h.below hb).more hb.size
        replace hx := (hx.below hb).more hb.size
        replace q3 := (q3.below hb).more hb.size
        replace hbt := hbt.trans (hb.mono hbt.size)
        clear hb
        have hq4 := q4.max
        have hr4 := q4.le
        have L4 : k4 ≤ 1010 := by rw [← HK4.out]; have := Vi.putL_len hx.2 (by rw [hx.len]; omega); rw [hx.len] at this; omega
        clear q3
        have hln : l.length = n := h.len
        have HLN := Lib.hid hln
        clear hln
        obtain ⟨L, hL⟩ : ∃ L, L = l ++ Vi.putI z ++ Vi.putS s.data.toList ++ Vi.putL xs := ⟨_, rfl⟩
        rw [← hL] at q4
        have HL := Lib.hid hL
        clear hL
        have H1 : Hid (Vi.getI L (n : Int) = (z, (n : Int) + (k2 : Int), 0)) := by
          show Vi.getI L (n : Int) = _
          rw [← HK2.out]; exact Vi.getI_put (r := Vi.putS s.data.toList ++ Vi.putL xs) (by rw [HL.out, ← HLN.out]; simp) hz
        have H2 : Hid (Vi.getS L ((n : Int) + (k2 : Int)) (s.size : Int) = (s.data.toList, (n : Int) + (k2 : Int) + (k3 : Int), 0)) := by
          show Vi.getS L ((n : Int) + (k2 : Int)) (s.size : Int) = _
          rw [← HK2.out, ← HK3.out]
          have := Vi.getS_put (l := L) (a := n + (Vi.putI z).length) (s := s.data.toList) (r := Vi.putL xs) (most := (s.size : Int)) (by rw [HL.out, ← HLN.out, ← List.length_append, List.append_assoc, List.drop_left]) (by rw [data_len]; omega) (by rw [data_len]; omega)
          simpa only [Int.natCast_add] using this
        have H3 : Hid (Vi.getL L ((n : Int) + (k2 : Int) + (k3 : Int)) (m : Int) = (xs, (n : Int) + (k2 : Int) + (k3 : Int) + (k4 : Int), 0)) := by
          show Vi.getL L ((n : Int) + (k2 : Int) + (k3 : Int)) (m : Int) = _
          rw [← HK2.out, ← HK3.out, ← HK4.out]
          have := Vi.getL_put (l := L) (a := n + (Vi.putI z).length + (Vi.putS s.data.toList).length) (xs := xs) (r := []) (most := (m : Int)) (by rw [HL.out, ← HLN.out, ← List.length_append, ← List.length_append, List.drop_left, List.append_nil]) (by rw [hx.len]; omega) (by rw [hx.len]; omega) hx.2
          simpa only [Int.natCast_add] using this
        have H4 : Hid (L.take n = l) := by show L.take n = l; rw [HL.out, ← HLN.out]; simp
        go_wp2_with fail
        refine (getInt_any A4 (n + k2 + k3 + k4) c4 L n w4 q4 (by omega)).mono ?_
        rintro e w' ⟨rfl, rfl⟩
        rw [H1.out]
        dsimp only
        go_wp2_with fail
        refine (getText_any A4 (n + k2 + k3 + k4) c4 L (n + k2) s.size w4 q4 (by omega)).mono ?_
        rintro e w5 ⟨rfl, hb⟩
        rw [H2.out]
        dsimp only
        rw [strOf_data]
        replace h := (h.below hb).more hb.size
        replace hx := (hx.below hb).more hb.size
        replace q4 := (q4.below hb).more hb.size
        replace hbt := hbt.trans (hb.mono hbt.size)
        clear hb
        go_wp2_with fail
        refine (getInts_any A4 (n + k2 + k3 + k4) c4 L (n + k2 + k3) m w5 q4 (by omega) (by omega)).mono ?_
        rintro e w6 ⟨v6, rfl, ho, hb⟩
        rw [H3.out] at ho ⊢
        dsimp only at ho ⊢
        rw [hx.len] at ho
        obtain ⟨A6, c6, rfl, q6⟩ := own_rdI ho hx.2
        clear ho
        replace h := (h.below hb).more hb.size
        replace hx := (hx.below hb).more hb.size
        replace q4 := (q4.below hb).more hb.size
        replace hbt := hbt.trans (hb.mono hbt.size)
        clear hb
        have hd : decide (n + k2 + k3 + k4 < n) = false := by simp; omega
        go_wp2_with fail
        clear hd
        refine wp_region_plan [([0, 1, 2, 3, 4, 5, 6, 7, 8, 9, 10, 11, 12, 13, 14, 15, 16, 17, 18, 19, 20, 21, 22], some 23), ([24, 25, 26, 27, 28, 29, 30, 31, 32, 33, 34, 35, 36, 37, 38, 39, 40, 41], none)] (by kernel_rfl) (by kernel_rfl) (fun _ _ d _ _ h => by cases d <;> exact h) ?_
        intro wd hsz hb
        clear hsz
        replace h := (h.below hb).more hb.size
        replace hx := (hx.below hb).more hb.size
        replace q4 := (q4.below hb).more hb.size
        replace q6 := (q6.below hb).more hb.size
        replace hbt := hbt.trans (hb.mono hbt.size)
        clear hb
        simp only [pickP, pick, List.map_cons, List.map_nil, Option.map_some, Option.map_none, List.getD_cons_zero, List.getD_cons_succ]
        refine plan_cons ?_
        (repeat (go_big_quiet_step (fail)))
        refine plan_nil ?_
        refine plan_call (by rfl) (fun K hK => ?_)
        go_simp
        refine (ints_any A6 B m c6 m d xs xs _ q6 hx).mono ?_
        rintro e w7 ⟨rfl, mm, hw7⟩
        have hb : Below wd.heap.size wd w7 := by rw [hw7]; exact below_drewN' (Below.refl _ _) _
        clear hw7 mm
        rw [decide_eq_true rfl]
        refine hK.out _ _ hb ?_
        clear hK K
        (try simp only [Act.put, List.setIfInBounds_toArray, List.set_cons_zero, List.set_cons_succ])
        replace h := (h.below hb).more hb.size
        replace hx := (hx.below hb).more hb.size
        replace q4 := (q4.below hb).more hb.size
        replace q6 := (q6.below hb).more hb.size
        replace hbt := hbt.trans (hb.mono hbt.size)
        clear hb
        have hs1 : ∀ x : Ext w7.heap.size w7, _ := fun x => run_str (h.below x.ok)
        have q4' := q4.upto (k := n) (by omega)
        rw [H4.out] at q4'
        have hs2 : ∀ x : Ext w7.heap.size w7, _ := fun x => run_str (q4'.below x.ok)
        refine plan_cons ?_
        (repeat (go_big_quiet_step (fail)))
        refine plan_nil ?_
        refine plan_end ?_
        go_wp2_with fail
        go_ret
        exact ⟨ret_bool rfl, hbt⟩
      · rw [decide_eq_true hfew]
        have d0 : decide (300 < s.size) = false := by simp; omega
        have d1 : decide (100 < m) = true := by simp; omega
        go_wp2_with fail
        go_ret
        exact ⟨ret_bool rfl, hbt⟩
    · rw [decide_eq_true hfew]
      have d0 : decide (300 < s.size) = true := by simp; omega
      go_wp2_with fail
      go_ret
      exact ⟨ret_bool rfl, hbt⟩
  · rw [decide_eq_false hfew]
    go_wp2_with fail
    go_ret
    exact ⟨ret_bool rfl, hbt⟩
end Go.Proofs.Ytgklnkholflabaa
