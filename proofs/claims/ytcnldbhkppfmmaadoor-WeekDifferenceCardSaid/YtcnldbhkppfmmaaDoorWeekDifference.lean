/-
  WeekDifference, walked.
-/
import Derived.Test.YtcnldbhkppfmmaaDoorLawP4
import Derived.Test.YtcnldbhkppfmmaaDoorDiffP
namespace Go.Proofs.YtcnldbhkppfmmaaDoor
open Go.RowKit Go.Shelf
set_option linter.unusedVariables false
set_option linter.unusedSimpArgs false

def eqPl (a b c d : Int) : Bool := decide (a = c ∧ b = d)
theorem run_eql_pl (a b c d : Int) (w : World) : (binOp .eql 55 (.agg #[.int .i64 a, .int .i64 b]) (.agg #[.int .i64 c, .int .i64 d])).run Tryd.prog w = .ok (.bool (eqPl a b c d)) w := by
  unfold eqPl
  rw [run_eql_struct, run_equalIn_struct _ _ _ _ _ (by kernel_rfl) (by kernel_rfl)]
  by_cases h1 : a = c <;> by_cases h2 : b = d <;> simp [go_sem, Program.fieldsOf, Tryd.underlying55, Op.eqFields, h1, h2]
attribute [local go_sem ↓] run_eql_pl run_neq_pl

set_option maxRecDepth 100000 in
set_option maxHeartbeats 8000000 in
theorem weekDifference_any (A : Option Addr) (n c : Nat) (l : List Pl) (B : Option Addr) (n1 c1' : Nat) (r : List Pl) (D : Option Addr) (n2 c2' : Nat) (q : List Pl) (mx : Int) (w : World) (hl : RdP w w.heap.size A n c l) (hr : RdP w w.heap.size B n1 c1' r) (hq : RdP w w.heap.size D n2 c2' q) (hm : w.cell? ⟨0, 0, none⟩ = some (.int .i64 mx)) :
    Calls Tryd.prog 5 #[.agg #[.slice A n c], .agg #[.slice B n1 c1'], .agg #[.slice D n2 c2']] w fun e w' => e = .returned (.bool true) ∧ Below w.heap.size w w' := by
  have hbt := Below.refl w.heap.size w
  have hl1 := hl.max
  have hl2 := hl.le
  have hlL := Lib.hid hl.len
  have hr1 := hr.max
  have hr2 := hr.le
  have hrL := Lib.hid hr.len
  have hq1 := hq.max
  have hq2 := hq.le
  have hqL := Lib.hid hq.len
  obtain ⟨V1, hV⟩ : ∃ V1, V1 = w.alloc (.cells #[.slice A n c] 24) := ⟨_, rfl⟩
  have b1 := blk_new hV
  have hb := below_new hV
  replace hl := (hl.below hb).more hb.size
  replace hr := (hr.below hb).more hb.size
  replace hq := (hq.below hb).more hb.size
  replace hm := (hb.cell (World.block_lt_of_cell? _ _ hm)).trans hm
  replace hbt := hbt.trans (hb.mono hbt.size)
  clear hb
  have HSV1 : Hid (V1.heap.size = w.heap.size + 1) := by show V1.heap.size = _; rw [hV, World.size_alloc]
  have HVV1 := Lib.hid hV.symm
  clear hV
  obtain ⟨V2, hV⟩ : ∃ V2, V2 = V1.alloc (.cells #[.slice B n1 c1'] 24) := ⟨_, rfl⟩
  have b2 := blk_new hV
  have hb := below_new hV
  replace hl := (hl.below hb).more hb.size
  replace hr := (hr.below hb).more hb.size
  replace hq := (hq.below hb).more hb.size
  replace hm := (hb.cell (World.block_lt_of_cell? _ _ hm)).trans hm
  replace b1 := blk_below b1 hb
  replace hbt := hbt.trans (hb.mono hbt.size)
  clear hb
  have HSV2 : Hid (V2.heap.size = V1.heap.size + 1) := by show V2.heap.size = _; rw [hV, World.size_alloc]
  have HVV2 := Lib.hid hV.symm
  clear hV
  rw [HSV1.out] at b2 HSV2
  rw [← HVV1.out] at HVV2
  obtain ⟨V3, hV⟩ : ∃ V3, V3 = V2.alloc (.cells #[.slice D n2 c2'] 24) := ⟨_, rfl⟩
  have b3 := blk_new hV
  have hb := below_new hV
  replace hl := (hl.below hb).more hb.size
  replace hr := (hr.below hb).more hb.size
  replace hq := (hq.below hb).more hb.size
  replace hm := (hb.cell (World.block_lt_of_cell? _ _ hm)).trans hm
  replace b1 := blk_below b1 hb
  replace b2 := blk_below b2 hb
  replace hbt := hbt.trans (hb.mono hbt.size)
  clear hb
  have HSV3 : Hid (V3.heap.size = V2.heap.size + 1) := by show V3.heap.size = _; rw [hV, World.size_alloc]
  have HVV3 := Lib.hid hV.symm
  clear hV
  rw [HSV2.out] at b3
  rw [← HVV2.out] at HVV3
  clear HSV1 HSV2 HSV3
  go_enter Tryd.func5, Tryd.ntmps5
  go_wp2_with fail
  rw [HVV3.out]
  clear HVV1 HVV2 HVV3
  refine (live4_any mx V3 hm).mono ?_
  rintro e w1 ⟨rfl, hb⟩
  replace hl := (hl.below hb).more hb.size
  replace hr := (hr.below hb).more hb.size
  replace hq := (hq.below hb).more hb.size
  replace hm := (hb.cell (World.block_lt_of_cell? _ _ hm)).trans hm
  replace b1 := blk_below b1 hb
  replace b2 := blk_below b2 hb
  replace b3 := blk_below b3 hb
  replace hbt := hbt.trans (hb.mono hbt.size)
  clear hb
  have c0 := blk_cell (j := 0) b1
  simp only [List.getElem?_toArray, List.getElem?_cons_zero, List.getElem?_cons_succ] at c0
  have d0 := blk_cell (j := 0) b2
  simp only [List.getElem?_toArray, List.getElem?_cons_zero, List.getElem?_cons_succ] at d0
  have e0 := blk_cell (j := 0) b3
  simp only [List.getElem?_toArray, List.getElem?_cons_zero, List.getElem?_cons_succ] at e0
  by_cases h1 : 100 < n
  · have th1 : decide ((100 : Int) < (n : Int)) = true := by simp; omega
    have uh1 : decide (100 < n) = true := by simp; omega
    go_wp2_with fail
    go_ret
    exact ⟨rfl, hbt⟩
  · have th1 : decide ((100 : Int) < (n : Int)) = false := by simp; omega
    have uh1 : decide (100 < n) = false := by simp; omega
    by_cases hn1 : ¬ n1 = n
    · have x1 : ((n1 : Int) != (n : Int)) = true := by simp; omega
      go_wp2_with fail
      go_ret
      exact ⟨rfl, hbt⟩
    · have hn1' : n1 = n := Classical.not_not.1 hn1
      subst hn1'
      clear hn1
      have x1 : ((n1 : Int) != (n1 : Int)) = false := by simp
      by_cases hn2 : ¬ n2 = n1
      · have x2 : ((n2 : Int) != (n1 : Int)) = true := by simp; omega
        go_wp2_with fail
        go_ret
        exact ⟨rfl, hbt⟩
      · have hn2' : n2 = n1 := Classical.not_not.1 hn2
        subst hn2'
        clear hn2
        have x2 : ((n2 : Int) != (n2 : Int)) = false := by simp
        go_wp2_with fail
        clear c0 d0 e0
        refine (diff_any A B n2 c n2 c1' l r w1 hl hr (by omega)).mono ?_
        rintro e w2 ⟨v2, rfl, ho2, hb⟩
        rw [diffE_ok (hlL.out) (hrL.out)]
        obtain ⟨A2, q2, rfl, h2⟩ := own_rdM ho2 (okMs_diffL hr.2 (by rw [hrL.out]; omega))
        clear ho2
        obtain ⟨k2, hk2⟩ : ∃ k2, k2 = (diffL l r).length := ⟨_, rfl⟩
        rw [← hk2] at h2 ⊢
        have K2 := Lib.hid hk2
        clear hk2
        have y2 := h2.max
        have z2 := h2.le
        replace hl := (hl.below hb).more hb.size
        replace hr := (hr.below hb).more hb.size
        replace hq := (hq.below hb).more hb.size
        replace hm := (hb.cell (World.block_lt_of_cell? _ _ hm)).trans hm
        replace b1 := blk_below b1 hb
        replace b2 := blk_below b2 hb
        replace b3 := blk_below b3 hb
        replace hbt := hbt.trans (hb.mono hbt.size)
        clear hb
        have c0 := blk_cell (j := 0) b1
        simp only [List.getElem?_toArray, List.getElem?_cons_zero, List.getElem?_cons_succ] at c0
        have d0 := blk_cell (j := 0) b2
        simp only [List.getElem?_toArray, List.getElem?_cons_zero, List.getElem?_cons_succ] at d0
        have e0 := blk_cell (j := 0) b3
        simp only [List.getElem?_toArray, List.getElem?_cons_zero, List.getElem?_cons_succ] at e0
        go_wp2_with fail
        clear c0 d0 e0
        refine (diff_any B D n2 c1' n2 c2' r q w2 hr hq (by omega)).mono ?_
        rintro e w3 ⟨v3, rfl, ho3, hb⟩
        rw [diffE_ok (hrL.out) (hqL.out)]
        obtain ⟨A3, q3, rfl, h3⟩ := own_rdM ho3 (okMs_diffL hq.2 (by rw [hqL.out]; omega))
        clear ho3
        obtain ⟨k3, hk3⟩ : ∃ k3, k3 = (diffL r q).length := ⟨_, rfl⟩
        rw [← hk3] at h3 ⊢
        have K3 := Lib.hid hk3
        clear hk3
        have y3 := h3.max
        have z3 := h3.le
        replace hl := (hl.below hb).more hb.size
        replace hr := (hr.below hb).more hb.size
        replace hq := (hq.below hb).more hb.size
        replace hm := (hb.cell (World.block_lt_of_cell? _ _ hm)).trans hm
        replace b1 := blk_below b1 hb
        replace b2 := blk_below b2 hb
        replace b3 := blk_below b3 hb
        replace h2 := (h2.below hb).more hb.size
        replace hbt := hbt.trans (hb.mono hbt.size)
        clear hb
        have c0 := blk_cell (j := 0) b1
        simp only [List.getElem?_toArray, List.getElem?_cons_zero, List.getElem?_cons_succ] at c0
        have d0 := blk_cell (j := 0) b2
        simp only [List.getElem?_toArray, List.getElem?_cons_zero, List.getElem?_cons_succ] at d0
        have e0 := blk_cell (j := 0) b3
        simp only [List.getElem?_toArray, List.getElem?_cons_zero, List.getElem?_cons_succ] at e0
        go_wp2_with fail
        clear c0 d0 e0
        refine (diff_any A D n2 c n2 c2' l q w3 hl hq (by omega)).mono ?_
        rintro e w4 ⟨v4, rfl, ho4, hb⟩
        rw [diffE_ok (hlL.out) (hqL.out)]
        obtain ⟨A4, q4, rfl, h4⟩ := own_rdM ho4 (okMs_diffL hq.2 (by rw [hqL.out]; omega))
        clear ho4
        obtain ⟨k4, hk4⟩ : ∃ k4, k4 = (diffL l q).length := ⟨_, rfl⟩
        rw [← hk4] at h4 ⊢
        have K4 := Lib.hid hk4
        clear hk4
        have y4 := h4.max
        have z4 := h4.le
        replace hl := (hl.below hb).more hb.size
        replace hr := (hr.below hb).more hb.size
        replace hq := (hq.below hb).more hb.size
        replace hm := (hb.cell (World.block_lt_of_cell? _ _ hm)).trans hm
        replace b1 := blk_below b1 hb
        replace b2 := blk_below b2 hb
        replace b3 := blk_below b3 hb
        replace h2 := (h2.below hb).more hb.size
        replace h3 := (h3.below hb).more hb.size
        replace hbt := hbt.trans (hb.mono hbt.size)
        clear hb
        have htri := diffL_tri hlL.out hrL.out hqL.out
        rw [← K2.out, ← K3.out, ← K4.out] at htri
        have hk100 : k2 ≤ 100 ∧ k3 ≤ 100 := by
          have e2 := diffTo_len l r r.length
          have e3 := diffTo_len r q q.length
          rw [K2.out, K3.out]
          unfold diffL
          rw [if_pos (by rw [hlL.out, hrL.out]), if_pos (by rw [hrL.out, hqL.out])]
          rw [hrL.out] at e2 ⊢
          rw [hqL.out] at e3 ⊢
          omega
        have t5 : decide ((k2 : Int) + (k3 : Int) < (k4 : Int)) = false := by simp; omega
        have c0 := blk_cell (j := 0) b1
        simp only [List.getElem?_toArray, List.getElem?_cons_zero, List.getElem?_cons_succ] at c0
        have d0 := blk_cell (j := 0) b2
        simp only [List.getElem?_toArray, List.getElem?_cons_zero, List.getElem?_cons_succ] at d0
        have e0 := blk_cell (j := 0) b3
        simp only [List.getElem?_toArray, List.getElem?_cons_zero, List.getElem?_cons_succ] at e0
        go_wp2_with fail
        clear c0 d0 e0
        have hap := apply_diff (a := l) (b := r) (by rw [hlL.out, hrL.out])
        refine (apply_any A A2 n2 c k2 q2 l (diffL l r) w4 hl h2 (by omega)).mono ?_
        rintro e w5 ⟨v5, rfl, ho5, hb⟩
        rw [hap.1, hrL.out] at ho5
        rw [hap.2]
        clear hap
        obtain ⟨A5, q5, rfl, h5⟩ := own_rdP ho5 hr.2
        clear ho5
        have y5 := h5.max
        have z5 := h5.le
        replace hl := (hl.below hb).more hb.size
        replace hr := (hr.below hb).more hb.size
        replace hq := (hq.below hb).more hb.size
        replace hm := (hb.cell (World.block_lt_of_cell? _ _ hm)).trans hm
        replace b1 := blk_below b1 hb
        replace b2 := blk_below b2 hb
        replace b3 := blk_below b3 hb
        replace h2 := (h2.below hb).more hb.size
        replace h3 := (h3.below hb).more hb.size
        replace h4 := (h4.below hb).more hb.size
        replace hbt := hbt.trans (hb.mono hbt.size)
        clear hb
        obtain ⟨V5, hV⟩ : ∃ V5, V5 = w5.alloc (.cells #[.slice A5 n2 q5] 24) := ⟨_, rfl⟩
        have b5 := blk_new hV
        have hb := below_new hV
        replace hl := (hl.below hb).more hb.size
        replace hr := (hr.below hb).more hb.size
        replace hq := (hq.below hb).more hb.size
        replace hm := (hb.cell (World.block_lt_of_cell? _ _ hm)).trans hm
        replace b1 := blk_below b1 hb
        replace b2 := blk_below b2 hb
        replace b3 := blk_below b3 hb
        replace h2 := (h2.below hb).more hb.size
        replace h3 := (h3.below hb).more hb.size
        replace h4 := (h4.below hb).more hb.size
        replace h5 := (h5.below hb).more hb.size
        replace hbt := hbt.trans (hb.mono hbt.size)
        clear hb
        have HSV5 : Hid (V5.heap.size = w5.heap.size + 1) := by show V5.heap.size = _; rw [hV, World.size_alloc]
        have HVV5 := Lib.hid hV.symm
        clear hV
        clear HSV5
        have c5x := blk_cell (j := 0) b5
        simp only [List.getElem?_toArray, List.getElem?_cons_zero, List.getElem?_cons_succ] at c5x
        rw [← HVV5.out] at c5x
        go_wp2_with fail
        rw [HVV5.out]
        clear HVV5 c5x
        have hap := apply_diff (a := r) (b := q) (by rw [hrL.out, hqL.out])
        refine (apply_any A5 A3 n2 q5 k3 q3 r (diffL r q) V5 h5 h3 (by omega)).mono ?_
        rintro e w6 ⟨v6, rfl, ho6, hb⟩
        rw [hap.1, hqL.out] at ho6
        rw [hap.2]
        clear hap
        obtain ⟨A6, q6, rfl, h6⟩ := own_rdP ho6 hq.2
        clear ho6
        have y6 := h6.max
        have z6 := h6.le
        replace hl := (hl.below hb).more hb.size
        replace hr := (hr.below hb).more hb.size
        replace hq := (hq.below hb).more hb.size
        replace hm := (hb.cell (World.block_lt_of_cell? _ _ hm)).trans hm
        replace b1 := blk_below b1 hb
        replace b2 := blk_below b2 hb
        replace b3 := blk_below b3 hb
        replace h2 := (h2.below hb).more hb.size
        replace h3 := (h3.below hb).more hb.size
        replace h4 := (h4.below hb).more hb.size
        replace h5 := (h5.below hb).more hb.size
        replace b5 := blk_below b5 hb
        replace hbt := hbt.trans (hb.mono hbt.size)
        clear hb
        obtain ⟨V6, hV⟩ : ∃ V6, V6 = w6.alloc (.cells #[.slice A6 n2 q6] 24) := ⟨_, rfl⟩
        have b6 := blk_new hV
        have hb := below_new hV
        replace hl := (hl.below hb).more hb.size
        replace hr := (hr.below hb).more hb.size
        replace hq := (hq.below hb).more hb.size
        replace hm := (hb.cell (World.block_lt_of_cell? _ _ hm)).trans hm
        replace b1 := blk_below b1 hb
        replace b2 := blk_below b2 hb
        replace b3 := blk_below b3 hb
        replace h2 := (h2.below hb).more hb.size
        replace h3 := (h3.below hb).more hb.size
        replace h4 := (h4.below hb).more hb.size
        replace h5 := (h5.below hb).more hb.size
        replace b5 := blk_below b5 hb
        replace h6 := (h6.below hb).more hb.size
        replace hbt := hbt.trans (hb.mono hbt.size)
        clear hb
        have HSV6 : Hid (V6.heap.size = w6.heap.size + 1) := by show V6.heap.size = _; rw [hV, World.size_alloc]
        have HVV6 := Lib.hid hV.symm
        clear hV
        clear HSV6
        go_wp2_with fail
        rw [HVV6.out]
        clear HVV6
        go_loopw [17] (fun iv wr => ∃ (j nq : Nat), j ≤ k2 ∧ iv = .int .i64 j ∧ wr = V6.drewN nq) (fun iv _ => k2 - (intOf iv).toNat)
        case atStart => exact ⟨0, 0, by omega, rfl, rfl⟩
        case round =>
          obtain ⟨j, nq0, hj, rfl, rfl⟩ := hrel
          have hbz : Below V6.heap.size V6 (V6.drewN nq0) := below_drewN' (Below.refl _ _) _
          have hb := hbz
          clear hbz
          replace hl := (hl.below hb).more hb.size
          replace hr := (hr.below hb).more hb.size
          replace hq := (hq.below hb).more hb.size
          replace hm := (hb.cell (World.block_lt_of_cell? _ _ hm)).trans hm
          replace b1 := blk_below b1 hb
          replace b2 := blk_below b2 hb
          replace b3 := blk_below b3 hb
          replace h2 := (h2.below hb).more hb.size
          replace h3 := (h3.below hb).more hb.size
          replace h4 := (h4.below hb).more hb.size
          replace h5 := (h5.below hb).more hb.size
          replace b5 := blk_below b5 hb
          replace h6 := (h6.below hb).more hb.size
          replace b6 := blk_below b6 hb
          replace hbt := hbt.trans (hb.mono hbt.size)
          clear hb
          generalize hwr : V6.drewN nq0 = wr at *
          have HWR := Lib.hid hwr.symm
          clear hwr
          by_cases hjk : j < k2
          · have hjl : j < (diffL l r).length := by rw [← K2.out]; exact hjk
            obtain ⟨ad, rfl, _, x0, x1, x2, _⟩ := h2.at_ hjk hjl
            obtain ⟨i, hi1, hi2, hmi, hne⟩ := diffL_mem hlL.out hrL.out (List.getElem_mem hjl)
            rw [hmi] at x0 x1 x2
            dsimp only at x0 x1 x2
            clear hmi
            have hin : i < n2 := by rw [← hlL.out]; exact hi1
            obtain ⟨ad1, hA, _, p0, p1, _⟩ := hl.at_ hin hi1
            obtain ⟨ad2, hB, _, s0, s1, _⟩ := hr.at_ hin hi2
            have c0 := blk_cell (j := 0) b1
            simp only [List.getElem?_toArray, List.getElem?_cons_zero, List.getElem?_cons_succ] at c0
            have d0 := blk_cell (j := 0) b2
            simp only [List.getElem?_toArray, List.getElem?_cons_zero, List.getElem?_cons_succ] at d0
            rw [hA] at c0
            rw [hB] at d0
            clear hA hB
            generalize l[i] = P at *
            generalize r[i] = Q at *
            obtain ⟨P1, P2⟩ := P
            obtain ⟨Q1, Q2⟩ := Q
            dsimp only at *
            have t6 : decide ((j : Int) < (k2 : Int)) = true := by simp; omega
            have t7 : decide (j < k2) = true := by simp; omega
            have t8 : decide ((i : Int) < 0) = false := by simp
            have t9 : decide ((n2 : Int) ≤ (i : Int)) = false := by simp; omega
            have t10 : eqPl P1 P2 Q1 Q2 = false := by unfold eqPl; rw [decide_eq_false_iff_not]; rintro ⟨rfl, rfl⟩; exact hne rfl
            have t11 : neqPl Q1 Q2 Q1 Q2 = false := by unfold neqPl; simp
            have t12 : decide (i < n2) = true := by simp; omega
            go_wp2_with fail
            go_quiet (fail)
            go_wp2_with fail
            go_roundw
            case rel => exact ⟨j + 1, nq0 + nq, by omega, by go_num, by rw [HWR.out, World.drewN_drewN]⟩
            case measure => simp [intOf]; omega
          · obtain rfl : j = k2 := by omega
            have t6 : decide ((j : Int) < (j : Int)) = false := by simp
            have c0 := blk_cell (j := 0) b1
            simp only [List.getElem?_toArray, List.getElem?_cons_zero, List.getElem?_cons_succ] at c0
            have d0 := blk_cell (j := 0) b2
            simp only [List.getElem?_toArray, List.getElem?_cons_zero, List.getElem?_cons_succ] at d0
            have e0 := blk_cell (j := 0) b3
            simp only [List.getElem?_toArray, List.getElem?_cons_zero, List.getElem?_cons_succ] at e0
            go_wp2_with fail
            clear c0 d0 e0
            refine (diff_any B A n2 c1' n2 c r l wr hr hl (by omega)).mono ?_
            rintro e w7 ⟨v7, rfl, ho7, hb⟩
            rw [diffE_ok hrL.out hlL.out]
            obtain ⟨A7, q7, rfl, h7⟩ := own_rdM ho7 (okMs_diffL hl.2 (by rw [hlL.out]; omega))
            clear ho7
            rw [diffL_sym hrL.out hlL.out, ← K2.out] at h7 ⊢
            replace hl := (hl.below hb).more hb.size
            replace hr := (hr.below hb).more hb.size
            replace hq := (hq.below hb).more hb.size
            replace hm := (hb.cell (World.block_lt_of_cell? _ _ hm)).trans hm
            replace b1 := blk_below b1 hb
            replace b2 := blk_below b2 hb
            replace b3 := blk_below b3 hb
            replace h2 := (h2.below hb).more hb.size
            replace h3 := (h3.below hb).more hb.size
            replace h4 := (h4.below hb).more hb.size
            replace h5 := (h5.below hb).more hb.size
            replace b5 := blk_below b5 hb
            replace h6 := (h6.below hb).more hb.size
            replace b6 := blk_below b6 hb
            replace hbt := hbt.trans (hb.mono hbt.size)
            clear hb
            have y7 := h7.max
            have z7 := h7.le
            have c0 := blk_cell (j := 0) b5
            simp only [List.getElem?_toArray, List.getElem?_cons_zero, List.getElem?_cons_succ] at c0
            have d0 := blk_cell (j := 0) b2
            simp only [List.getElem?_toArray, List.getElem?_cons_zero, List.getElem?_cons_succ] at d0
            go_wp2_with fail
            clear c0 d0
            refine (same4_any A5 B n2 q5 n2 c1' _ _ w7 h5 hr).mono ?_
            rintro e w8 ⟨rfl, hb⟩
            rw [show decide (r = r) = true by simp]
            replace hl := (hl.below hb).more hb.size
            replace hr := (hr.below hb).more hb.size
            replace hq := (hq.below hb).more hb.size
            replace hm := (hb.cell (World.block_lt_of_cell? _ _ hm)).trans hm
            replace b1 := blk_below b1 hb
            replace b2 := blk_below b2 hb
            replace b3 := blk_below b3 hb
            replace h2 := (h2.below hb).more hb.size
            replace h3 := (h3.below hb).more hb.size
            replace h4 := (h4.below hb).more hb.size
            replace h5 := (h5.below hb).more hb.size
            replace b5 := blk_below b5 hb
            replace h6 := (h6.below hb).more hb.size
            replace b6 := blk_below b6 hb
            replace h7 := (h7.below hb).more hb.size
            replace hbt := hbt.trans (hb.mono hbt.size)
            clear hb
            have c0 := blk_cell (j := 0) b6
            simp only [List.getElem?_toArray, List.getElem?_cons_zero, List.getElem?_cons_succ] at c0
            have d0 := blk_cell (j := 0) b3
            simp only [List.getElem?_toArray, List.getElem?_cons_zero, List.getElem?_cons_succ] at d0
            go_wp2_with fail
            clear c0 d0
            refine (same4_any A6 D n2 q6 n2 c2' _ _ w8 h6 hq).mono ?_
            rintro e w9 ⟨rfl, hb⟩
            rw [show decide (q = q) = true by simp]
            replace hl := (hl.below hb).more hb.size
            replace hr := (hr.below hb).more hb.size
            replace hq := (hq.below hb).more hb.size
            replace hm := (hb.cell (World.block_lt_of_cell? _ _ hm)).trans hm
            replace b1 := blk_below b1 hb
            replace b2 := blk_below b2 hb
            replace b3 := blk_below b3 hb
            replace h2 := (h2.below hb).more hb.size
            replace h3 := (h3.below hb).more hb.size
            replace h4 := (h4.below hb).more hb.size
            replace h5 := (h5.below hb).more hb.size
            replace b5 := blk_below b5 hb
            replace h6 := (h6.below hb).more hb.size
            replace b6 := blk_below b6 hb
            replace h7 := (h7.below hb).more hb.size
            replace hbt := hbt.trans (hb.mono hbt.size)
            clear hb
            go_wp2_with fail
            go_ret
            exact ⟨rfl, hbt⟩

end Go.Proofs.YtcnldbhkppfmmaaDoor
