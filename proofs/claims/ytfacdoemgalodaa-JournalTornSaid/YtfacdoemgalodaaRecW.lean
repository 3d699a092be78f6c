/-
  The walks of the journal's may, record and read, and of the reference's.
-/
import Derived.Test.YtfacdoemgalodaaJPlain
import Derived.Test.YtfacdoemgalodaaWeekW
import Derived.Test.YtfacdoemgalodaaWeekG
namespace Go.Proofs.Ytfacdoemgalodaa
open Go.RowKit
set_option linter.unusedVariables false
set_option linter.unusedSimpArgs false

theorem jwithin_any (n a b : Int) (w : World) : Calls Try.prog 55 #[.int .i64 n, .int .i64 a, .int .i64 b] w fun e w' => e = .returned (.bool (decide (a ≤ n ∧ n ≤ b))) ∧ w = w' := by
  go_enter Try.func55, Try.ntmps55
  by_cases h1 : a ≤ n
  · have d1 : decide (a ≤ n) = true := by simp; omega
    go_wp2_with fail
    go_ret
    refine ⟨ret_bool ?_, rfl⟩
    simp [h1]
  · have d1 : decide (a ≤ n) = false := by simp; omega
    go_wp2_with fail
    go_ret
    refine ⟨ret_bool ?_, rfl⟩
    simp [h1]

set_option maxRecDepth 100000 in
set_option maxHeartbeats 4000000 in
theorem jmay_any (no cost : Int) (A : Option Addr) (n c : Nat) (bst : Bool) (w : World) :
    Calls Try.prog 39 #[.agg #[.int .i64 no, .slice A n c, .int .i64 cost, .bool bst]] w fun e w' => e = .returned (.bool (Jn.mayB no cost n)) ∧ Below w.heap.size w w' := by
  have hbt := Below.refl w.heap.size w
  obtain ⟨V1, hV⟩ : ∃ V1, V1 = w.alloc (.cells #[.int .i64 no, .slice A n c, .int .i64 cost, .bool bst] 42) := ⟨_, rfl⟩
  have b1 := blk_new hV
  have hb := below_new hV
  replace hbt := hbt.trans (hb.mono hbt.size)
  clear hb
  have HSV1 : Hid (V1.heap.size = w.heap.size + 1) := by show V1.heap.size = _; rw [hV, World.size_alloc]
  have HVV1 := Lib.hid hV.symm
  clear hV
  have cb0 := blk_cell (j := 0) b1
  simp only [List.getElem?_toArray, List.getElem?_cons_zero, List.getElem?_cons_succ] at cb0
  have cb1 := blk_cell (j := 1) b1
  simp only [List.getElem?_toArray, List.getElem?_cons_zero, List.getElem?_cons_succ] at cb1
  have cb2 := blk_cell (j := 2) b1
  simp only [List.getElem?_toArray, List.getElem?_cons_zero, List.getElem?_cons_succ] at cb2
  have cb3 := blk_cell (j := 3) b1
  simp only [List.getElem?_toArray, List.getElem?_cons_zero, List.getElem?_cons_succ] at cb3
  rw [← HVV1.out] at cb0 cb1 cb2 cb3
  go_enter Try.func39, Try.ntmps39
  go_wp2_with fail
  rw [HVV1.out] at cb0 cb1 cb2 cb3 ⊢
  clear HVV1
  refine (jwithin_any no 1 1099511627776 V1).mono ?_
  rintro e w' ⟨rfl, rfl⟩
  by_cases p1 : 1 ≤ no ∧ no ≤ 1099511627776
  · rw [decide_eq_true p1]
    go_wp2_with fail
    refine (jwithin_any cost 0 1099511627776 V1).mono ?_
    rintro e w' ⟨rfl, rfl⟩
    by_cases p2 : 0 ≤ cost ∧ cost ≤ 1099511627776
    · rw [decide_eq_true p2]
      go_wp2_with fail
      go_ret
      exact ⟨ret_bool (by unfold Jn.mayB; rw [decide_eq_true p1, decide_eq_true p2, Bool.true_and, Bool.true_and]; exact decide_eq_decide.2 (by omega)), hbt⟩
    · rw [decide_eq_false p2]
      go_wp2_with fail
      go_ret
      exact ⟨ret_bool (by unfold Jn.mayB; rw [decide_eq_true p1, decide_eq_false p2]; rfl), hbt⟩
  · rw [decide_eq_false p1]
    go_wp2_with fail
    go_ret
    exact ⟨ret_bool (by unfold Jn.mayB; rw [decide_eq_false p1]; rfl), hbt⟩

set_option maxRecDepth 100000 in
set_option maxHeartbeats 4000000 in
theorem rmay_any (no cost : Int) (A : Option Addr) (n c : Nat) (bst : Bool) (w : World) :
    Calls Try.prog 43 #[.agg #[.int .i64 no, .slice A n c, .int .i64 cost, .bool bst]] w fun e w' => e = .returned (.bool (Jn.mayB no cost n)) ∧ Below w.heap.size w w' := by
  have hbt := Below.refl w.heap.size w
  obtain ⟨V1, hV⟩ : ∃ V1, V1 = w.alloc (.cells #[.int .i64 no, .slice A n c, .int .i64 cost, .bool bst] 42) := ⟨_, rfl⟩
  have b1 := blk_new hV
  have hb := below_new hV
  replace hbt := hbt.trans (hb.mono hbt.size)
  clear hb
  have HSV1 : Hid (V1.heap.size = w.heap.size + 1) := by show V1.heap.size = _; rw [hV, World.size_alloc]
  have HVV1 := Lib.hid hV.symm
  clear hV
  have cb0 := blk_cell (j := 0) b1
  simp only [List.getElem?_toArray, List.getElem?_cons_zero, List.getElem?_cons_succ] at cb0
  have cb1 := blk_cell (j := 1) b1
  simp only [List.getElem?_toArray, List.getElem?_cons_zero, List.getElem?_cons_succ] at cb1
  have cb2 := blk_cell (j := 2) b1
  simp only [List.getElem?_toArray, List.getElem?_cons_zero, List.getElem?_cons_succ] at cb2
  have cb3 := blk_cell (j := 3) b1
  simp only [List.getElem?_toArray, List.getElem?_cons_zero, List.getElem?_cons_succ] at cb3
  rw [← HVV1.out] at cb0 cb1 cb2 cb3
  go_enter Try.func43, Try.ntmps43
  by_cases q1 : 1 ≤ no
  · have d0 : decide (1 ≤ no) = true := decide_eq_true q1
    by_cases q2 : no ≤ 1099511627776
    · have d1 : decide (no ≤ 1099511627776) = true := decide_eq_true q2
      by_cases q3 : 0 ≤ cost
      · have d2 : decide (0 ≤ cost) = true := decide_eq_true q3
        by_cases q4 : cost ≤ 1099511627776
        · have d3 : decide (cost ≤ 1099511627776) = true := decide_eq_true q4
          go_wp2_with fail
          rw [HVV1.out]
          go_ret
          refine ⟨ret_bool ?_, hbt⟩
          unfold Jn.mayB
          rw [show decide (1 ≤ no ∧ no ≤ 1099511627776) = true from by simp <;> omega, show decide (0 ≤ cost ∧ cost ≤ 1099511627776) = true from by simp <;> omega, Bool.true_and, Bool.true_and]
          exact decide_eq_decide.2 (by omega)
        · have d3 : decide (cost ≤ 1099511627776) = false := decide_eq_false q4
          go_wp2_with fail
          rw [HVV1.out]
          go_ret
          refine ⟨ret_bool ?_, hbt⟩
          unfold Jn.mayB
          rw [show decide (1 ≤ no ∧ no ≤ 1099511627776) = true from by simp <;> omega, show decide (0 ≤ cost ∧ cost ≤ 1099511627776) = false from by simp <;> omega]
          rfl
      · have d2 : decide (0 ≤ cost) = false := decide_eq_false q3
        go_wp2_with fail
        rw [HVV1.out]
        go_ret
        refine ⟨ret_bool ?_, hbt⟩
        unfold Jn.mayB
        rw [show decide (1 ≤ no ∧ no ≤ 1099511627776) = true from by simp <;> omega, show decide (0 ≤ cost ∧ cost ≤ 1099511627776) = false from by simp <;> omega]
        rfl
    · have d1 : decide (no ≤ 1099511627776) = false := decide_eq_false q2
      go_wp2_with fail
      rw [HVV1.out]
      go_ret
      refine ⟨ret_bool ?_, hbt⟩
      unfold Jn.mayB
      rw [show decide (1 ≤ no ∧ no ≤ 1099511627776) = false from by simp <;> omega]
      rfl
  · have d0 : decide (1 ≤ no) = false := decide_eq_false q1
    go_wp2_with fail
    rw [HVV1.out]
    go_ret
    refine ⟨ret_bool ?_, hbt⟩
    unfold Jn.mayB
    rw [show decide (1 ≤ no ∧ no ≤ 1099511627776) = false from by simp <;> omega]
    rfl

set_option maxRecDepth 100000 in
set_option maxHeartbeats 4000000 in
theorem jrecord_any (v : Ver) (A : Option Addr) (c : Nat) (w : World) (h : RdP w w.heap.size A v.week.length c v.week) (h1 : okI v.no) (h2 : okI v.cost) (hn : v.week.length ≤ 1048576) :
    Calls Try.prog 41 #[.agg #[.int .i64 v.no, .slice A v.week.length c, .int .i64 v.cost, .bool v.best]] w (RetNew 5 (Jn.recB v).length (bv (Jn.recB v)) w) := by
  have l1 := putI_len h1
  have l2 := putI_len h2
  have l3 := Vi.putW_len h.2 (by omega)
  have hbt := Below.refl w.heap.size w
  have HB : Hid (Jn.recB v = Vi.putI v.no ++ Vi.putW v.week ++ Vi.putI v.cost ++ Vi.putI (Jn.bestI v.best)) := by show _ = _; unfold Jn.recB; simp
  have HBT : Hid (v.best = true → Jn.bestI v.best = 1) := fun e => by rw [e]; rfl
  have HBF : Hid (v.best = false → Jn.bestI v.best = 0) := fun e => by rw [e]; rfl
  obtain ⟨no, wk, cost, bst⟩ := v
  dsimp only at *
  obtain ⟨n, hn'⟩ : ∃ n, wk.length = n := ⟨_, rfl⟩
  rw [hn'] at h hn l3 ⊢
  have HN := Lib.hid hn'
  clear hn'
  obtain ⟨V1, hV⟩ : ∃ V1, V1 = w.alloc (.cells #[.int .i64 no, .slice A n c, .int .i64 cost, .bool bst] 42) := ⟨_, rfl⟩
  have b1 := blk_new hV
  have hb := below_new hV
  replace h := (h.below hb).more hb.size
  replace hbt := hbt.trans (hb.mono hbt.size)
  clear hb
  have HSV1 : Hid (V1.heap.size = w.heap.size + 1) := by show V1.heap.size = _; rw [hV, World.size_alloc]
  have HVV1 := Lib.hid hV.symm
  clear hV
  go_enter Try.func41, Try.ntmps41
  have cb10 := cell_of_row V1 w.heap.size 0 _ _ _ b1
  simp only [List.getElem?_toArray, List.getElem?_cons_zero, List.getElem?_cons_succ] at cb10
  have cb11 := cell_of_row V1 w.heap.size 1 _ _ _ b1
  simp only [List.getElem?_toArray, List.getElem?_cons_zero, List.getElem?_cons_succ] at cb11
  have cb12 := cell_of_row V1 w.heap.size 2 _ _ _ b1
  simp only [List.getElem?_toArray, List.getElem?_cons_zero, List.getElem?_cons_succ] at cb12
  have cb13 := cell_of_row V1 w.heap.size 3 _ _ _ b1
  simp only [List.getElem?_toArray, List.getElem?_cons_zero, List.getElem?_cons_succ] at cb13
  rw [← HVV1.out] at cb10 cb11 cb12 cb13
  go_wp2_with fail
  rw [HVV1.out]
  clear HVV1
  clear cb10 cb11 cb12 cb13
  refine (putInt_any none 0 0 [] no V1 (RdB.nil _ _) (by omega) h1).mono ?_
  rintro e w2 ⟨v2, rfl, o2, hb⟩
  rw [Nat.zero_add, List.nil_append] at o2
  obtain ⟨A2, c2, rfl, q2⟩ := own_rdB o2
  clear o2
  replace h := (h.below hb).more hb.size
  replace b1 := blk_below b1 hb
  replace hbt := hbt.trans (hb.mono hbt.size)
  clear hb
  generalize hp1 : Vi.putI no = P1 at *
  clear hp1
  have cb10 := cell_of_row w2 w.heap.size 0 _ _ _ b1
  simp only [List.getElem?_toArray, List.getElem?_cons_zero, List.getElem?_cons_succ] at cb10
  have cb11 := cell_of_row w2 w.heap.size 1 _ _ _ b1
  simp only [List.getElem?_toArray, List.getElem?_cons_zero, List.getElem?_cons_succ] at cb11
  have cb12 := cell_of_row w2 w.heap.size 2 _ _ _ b1
  simp only [List.getElem?_toArray, List.getElem?_cons_zero, List.getElem?_cons_succ] at cb12
  have cb13 := cell_of_row w2 w.heap.size 3 _ _ _ b1
  simp only [List.getElem?_toArray, List.getElem?_cons_zero, List.getElem?_cons_succ] at cb13
  go_wp2_with fail
  clear cb10 cb11 cb12 cb13
  refine (wPut_any A2 P1.length c2 P1 A n c wk w2 q2 h (by omega) (by omega)).mono ?_
  rintro e w3 ⟨v3, rfl, o3, hb⟩
  obtain ⟨A3, c3, rfl, q3⟩ := own_rdB o3
  clear o3
  clear q2 h
  replace b1 := blk_below b1 hb
  replace hbt := hbt.trans (hb.mono hbt.size)
  clear hb
  generalize Vi.putW wk = P2 at *
  have cb10 := cell_of_row w3 w.heap.size 0 _ _ _ b1
  simp only [List.getElem?_toArray, List.getElem?_cons_zero, List.getElem?_cons_succ] at cb10
  have cb11 := cell_of_row w3 w.heap.size 1 _ _ _ b1
  simp only [List.getElem?_toArray, List.getElem?_cons_zero, List.getElem?_cons_succ] at cb11
  have cb12 := cell_of_row w3 w.heap.size 2 _ _ _ b1
  simp only [List.getElem?_toArray, List.getElem?_cons_zero, List.getElem?_cons_succ] at cb12
  have cb13 := cell_of_row w3 w.heap.size 3 _ _ _ b1
  simp only [List.getElem?_toArray, List.getElem?_cons_zero, List.getElem?_cons_succ] at cb13
  go_wp2_with fail
  clear cb10 cb11 cb12 cb13
  refine (putInt_any A3 (P1.length + P2.length) c3 (P1 ++ P2) cost w3 q3 (by omega) h2).mono ?_
  rintro e w4 ⟨v4, rfl, o4, hb⟩
  obtain ⟨A4, c4, rfl, q4⟩ := own_rdB o4
  clear o4
  clear q3
  replace b1 := blk_below b1 hb
  replace hbt := hbt.trans (hb.mono hbt.size)
  clear hb
  generalize Vi.putI cost = P3 at *
  cases bst
  · have cb10 := cell_of_row w4 w.heap.size 0 _ _ _ b1
    simp only [List.getElem?_toArray, List.getElem?_cons_zero, List.getElem?_cons_succ] at cb10
    have cb11 := cell_of_row w4 w.heap.size 1 _ _ _ b1
    simp only [List.getElem?_toArray, List.getElem?_cons_zero, List.getElem?_cons_succ] at cb11
    have cb12 := cell_of_row w4 w.heap.size 2 _ _ _ b1
    simp only [List.getElem?_toArray, List.getElem?_cons_zero, List.getElem?_cons_succ] at cb12
    have cb13 := cell_of_row w4 w.heap.size 3 _ _ _ b1
    simp only [List.getElem?_toArray, List.getElem?_cons_zero, List.getElem?_cons_succ] at cb13
    go_wp2_with fail
    clear cb10 cb11 cb12 cb13
    refine (putInt_any A4 (P1.length + P2.length + P3.length) c4 (P1 ++ P2 ++ P3) 0 w4 q4 (by omega) (by omega)).mono ?_
    rintro e w5 ⟨v5, rfl, o5, hb⟩
    replace o5 := own_mono o5 hbt.size
    clear q4
    replace b1 := blk_below b1 hb
    replace hbt := hbt.trans (hb.mono hbt.size)
    clear hb
    go_wp2_with fail
    go_ret
    refine ⟨_, rfl, ?_, hbt⟩
    rw [HB.out, HBF.out (by simp), List.length_append, List.length_append, List.length_append]
    exact o5
  · have cb10 := cell_of_row w4 w.heap.size 0 _ _ _ b1
    simp only [List.getElem?_toArray, List.getElem?_cons_zero, List.getElem?_cons_succ] at cb10
    have cb11 := cell_of_row w4 w.heap.size 1 _ _ _ b1
    simp only [List.getElem?_toArray, List.getElem?_cons_zero, List.getElem?_cons_succ] at cb11
    have cb12 := cell_of_row w4 w.heap.size 2 _ _ _ b1
    simp only [List.getElem?_toArray, List.getElem?_cons_zero, List.getElem?_cons_succ] at cb12
    have cb13 := cell_of_row w4 w.heap.size 3 _ _ _ b1
    simp only [List.getElem?_toArray, List.getElem?_cons_zero, List.getElem?_cons_succ] at cb13
    go_wp2_with fail
    clear cb10 cb11 cb12 cb13
    refine (putInt_any A4 (P1.length + P2.length + P3.length) c4 (P1 ++ P2 ++ P3) 1 w4 q4 (by omega) (by omega)).mono ?_
    rintro e w5 ⟨v5, rfl, o5, hb⟩
    replace o5 := own_mono o5 hbt.size
    clear q4
    replace b1 := blk_below b1 hb
    replace hbt := hbt.trans (hb.mono hbt.size)
    clear hb
    go_wp2_with fail
    go_ret
    refine ⟨_, rfl, ?_, hbt⟩
    rw [HB.out, HBT.out (by simp), List.length_append, List.length_append, List.length_append]
    exact o5

set_option maxRecDepth 100000 in
set_option maxHeartbeats 4000000 in
theorem rrecord_any (v : Ver) (A : Option Addr) (c : Nat) (w : World) (h : RdP w w.heap.size A v.week.length c v.week) (h1 : okI v.no) (h2 : okI v.cost) (hn : v.week.length ≤ 1048576) :
    Calls Try.prog 45 #[.agg #[.int .i64 v.no, .slice A v.week.length c, .int .i64 v.cost, .bool v.best]] w (RetNew 5 (Jn.recB v).length (bv (Jn.recB v)) w) := by
  have l1 := putI_len h1
  have l2 := putI_len h2
  have l3 := Vi.putW_len h.2 (by omega)
  have hbt := Below.refl w.heap.size w
  have HB : Hid (Jn.recB v = Vi.putI v.no ++ Vi.putW v.week ++ Vi.putI v.cost ++ Vi.putI (Jn.bestI v.best)) := by show _ = _; unfold Jn.recB; simp
  have HBT : Hid (v.best = true → Jn.bestI v.best = 1) := fun e => by rw [e]; rfl
  have HBF : Hid (v.best = false → Jn.bestI v.best = 0) := fun e => by rw [e]; rfl
  obtain ⟨no, wk, cost, bst⟩ := v
  dsimp only at *
  obtain ⟨n, hn'⟩ : ∃ n, wk.length = n := ⟨_, rfl⟩
  rw [hn'] at h hn l3 ⊢
  have HN := Lib.hid hn'
  clear hn'
  obtain ⟨V1, hV⟩ : ∃ V1, V1 = w.alloc (.cells #[.int .i64 no, .slice A n c, .int .i64 cost, .bool bst] 42) := ⟨_, rfl⟩
  have b1 := blk_new hV
  have hb := below_new hV
  replace h := (h.below hb).more hb.size
  replace hbt := hbt.trans (hb.mono hbt.size)
  clear hb
  have HSV1 : Hid (V1.heap.size = w.heap.size + 1) := by show V1.heap.size = _; rw [hV, World.size_alloc]
  have HVV1 := Lib.hid hV.symm
  clear hV
  go_enter Try.func45, Try.ntmps45
  cases bst
  · have cb10 := cell_of_row V1 w.heap.size 0 _ _ _ b1
    simp only [List.getElem?_toArray, List.getElem?_cons_zero, List.getElem?_cons_succ] at cb10
    have cb11 := cell_of_row V1 w.heap.size 1 _ _ _ b1
    simp only [List.getElem?_toArray, List.getElem?_cons_zero, List.getElem?_cons_succ] at cb11
    have cb12 := cell_of_row V1 w.heap.size 2 _ _ _ b1
    simp only [List.getElem?_toArray, List.getElem?_cons_zero, List.getElem?_cons_succ] at cb12
    have cb13 := cell_of_row V1 w.heap.size 3 _ _ _ b1
    simp only [List.getElem?_toArray, List.getElem?_cons_zero, List.getElem?_cons_succ] at cb13
    rw [← HVV1.out] at cb10 cb11 cb12 cb13
    go_wp2_with fail
    rw [HVV1.out]
    clear HVV1
    clear cb10 cb11 cb12 cb13
    refine wp_region_plan [([0, 1, 3, 4, 6, 7, 9], some 2), ([], some 5), ([], some 8), ([], some 10), ([11], none)] (by kernel_rfl) (by kernel_rfl) ?_
    intro wd hsz hb
    clear hsz
    replace h := (h.below hb).more hb.size
    replace b1 := blk_below b1 hb
    replace hbt := hbt.trans (hb.mono hbt.size)
    clear hb
    simp only [pickP, pick, List.map_cons, List.map_nil, Option.map_some, Option.map_none, List.getD_cons_zero, List.getD_cons_succ]
    have cb0 : ∀ x : Ext wd.heap.size wd, x.val.cell? ⟨w.heap.size, 0, none⟩ = some (.int .i64 no) := fun x => (x.cell (blk_lt b1)).trans (blk_cell b1)
    have cb1 : ∀ x : Ext wd.heap.size wd, x.val.cell? ⟨w.heap.size, 1, none⟩ = some (.slice A n c) := fun x => (x.cell (blk_lt b1)).trans (blk_cell b1)
    have cb2 : ∀ x : Ext wd.heap.size wd, x.val.cell? ⟨w.heap.size, 2, none⟩ = some (.int .i64 cost) := fun x => (x.cell (blk_lt b1)).trans (blk_cell b1)
    have cb3 : ∀ x : Ext wd.heap.size wd, x.val.cell? ⟨w.heap.size, 3, none⟩ = some (.bool false) := fun x => (x.cell (blk_lt b1)).trans (blk_cell b1)
    refine plan_cons ?_
    (repeat (go_big_quiet_step (fail)))
    refine plan_nil ?_
    clear cb0 cb1 cb2 cb3
    refine plan_call (by kernel_rfl) (fun K hK => ?_)
    go_simp
    refine (rputInt_any none 0 0 [] no _ (RdB.nil _ _) (by omega) h1).mono ?_
    rintro e w2 ⟨v2, rfl, o2, hb⟩
    rw [Nat.zero_add, List.nil_append] at o2
    obtain ⟨A2, c2, rfl, q2⟩ := own_rdB o2
    clear o2
    refine hK.out _ _ hb ?_
    clear hK K
    (try simp only [Act.put, List.setIfInBounds_toArray, List.set_cons_zero, List.set_cons_succ])
    replace h := (h.below hb).more hb.size
    replace b1 := blk_below b1 hb
    replace hbt := hbt.trans (hb.mono hbt.size)
    clear hb
    generalize hp1 : Vi.putI no = P1 at *
    clear hp1
    refine plan_cons ?_
    (repeat (go_big_quiet_step (fail)))
    refine plan_nil ?_
    refine plan_call (by kernel_rfl) (fun K hK => ?_)
    go_simp
    refine (rPut4_any A2 P1.length c2 P1 A n c wk _ q2 h (by omega) (by omega)).mono ?_
    rintro e w3 ⟨v3, rfl, o3, hb⟩
    obtain ⟨A3, c3, rfl, q3⟩ := own_rdB o3
    clear o3
    clear q2 h
    refine hK.out _ _ hb ?_
    clear hK K
    (try simp only [Act.put, List.setIfInBounds_toArray, List.set_cons_zero, List.set_cons_succ])
    replace b1 := blk_below b1 hb
    replace hbt := hbt.trans (hb.mono hbt.size)
    clear hb
    generalize Vi.putW wk = P2 at *
    refine plan_cons ?_
    (repeat (go_big_quiet_step (fail)))
    refine plan_nil ?_
    refine plan_call (by kernel_rfl) (fun K hK => ?_)
    go_simp
    refine (rputInt_any A3 (P1.length + P2.length) c3 (P1 ++ P2) cost _ q3 (by omega) h2).mono ?_
    rintro e w4 ⟨v4, rfl, o4, hb⟩
    obtain ⟨A4, c4, rfl, q4⟩ := own_rdB o4
    clear o4
    clear q3
    refine hK.out _ _ hb ?_
    clear hK K
    (try simp only [Act.put, List.setIfInBounds_toArray, List.set_cons_zero, List.set_cons_succ])
    replace b1 := blk_below b1 hb
    replace hbt := hbt.trans (hb.mono hbt.size)
    clear hb
    generalize Vi.putI cost = P3 at *
    refine plan_cons ?_
    (repeat (go_big_quiet_step (fail)))
    refine plan_nil ?_
    refine plan_call (by kernel_rfl) (fun K hK => ?_)
    go_simp
    refine (rputInt_any A4 (P1.length + P2.length + P3.length) c4 (P1 ++ P2 ++ P3) 0 _ q4 (by omega) (by omega)).mono ?_
    rintro e w5 ⟨v5, rfl, o5, hb⟩
    replace o5 := own_mono o5 hbt.size
    clear q4
    refine hK.out _ _ hb ?_
    clear hK K
    (try simp only [Act.put, List.setIfInBounds_toArray, List.set_cons_zero, List.set_cons_succ])
    replace b1 := blk_below b1 hb
    replace hbt := hbt.trans (hb.mono hbt.size)
    clear hb
    refine plan_cons ?_
    (repeat (go_big_quiet_step (fail)))
    refine plan_nil ?_
    refine plan_end ?_
    go_wp2_with fail
    go_ret
    refine ⟨_, rfl, ?_, hbt⟩
    rw [HB.out, HBF.out (by simp), List.length_append, List.length_append, List.length_append]
    exact o5
  · have cb10 := cell_of_row V1 w.heap.size 0 _ _ _ b1
    simp only [List.getElem?_toArray, List.getElem?_cons_zero, List.getElem?_cons_succ] at cb10
    have cb11 := cell_of_row V1 w.heap.size 1 _ _ _ b1
    simp only [List.getElem?_toArray, List.getElem?_cons_zero, List.getElem?_cons_succ] at cb11
    have cb12 := cell_of_row V1 w.heap.size 2 _ _ _ b1
    simp only [List.getElem?_toArray, List.getElem?_cons_zero, List.getElem?_cons_succ] at cb12
    have cb13 := cell_of_row V1 w.heap.size 3 _ _ _ b1
    simp only [List.getElem?_toArray, List.getElem?_cons_zero, List.getElem?_cons_succ] at cb13
    rw [← HVV1.out] at cb10 cb11 cb12 cb13
    go_wp2_with fail
    rw [HVV1.out]
    clear HVV1
    clear cb10 cb11 cb12 cb13
    refine wp_region_plan [([0, 1, 3, 4, 6, 7, 9], some 2), ([], some 5), ([], some 8), ([], some 10), ([11], none)] (by kernel_rfl) (by kernel_rfl) ?_
    intro wd hsz hb
    clear hsz
    replace h := (h.below hb).more hb.size
    replace b1 := blk_below b1 hb
    replace hbt := hbt.trans (hb.mono hbt.size)
    clear hb
    simp only [pickP, pick, List.map_cons, List.map_nil, Option.map_some, Option.map_none, List.getD_cons_zero, List.getD_cons_succ]
    have cb0 : ∀ x : Ext wd.heap.size wd, x.val.cell? ⟨w.heap.size, 0, none⟩ = some (.int .i64 no) := fun x => (x.cell (blk_lt b1)).trans (blk_cell b1)
    have cb1 : ∀ x : Ext wd.heap.size wd, x.val.cell? ⟨w.heap.size, 1, none⟩ = some (.slice A n c) := fun x => (x.cell (blk_lt b1)).trans (blk_cell b1)
    have cb2 : ∀ x : Ext wd.heap.size wd, x.val.cell? ⟨w.heap.size, 2, none⟩ = some (.int .i64 cost) := fun x => (x.cell (blk_lt b1)).trans (blk_cell b1)
    have cb3 : ∀ x : Ext wd.heap.size wd, x.val.cell? ⟨w.heap.size, 3, none⟩ = some (.bool true) := fun x => (x.cell (blk_lt b1)).trans (blk_cell b1)
    refine plan_cons ?_
    (repeat (go_big_quiet_step (fail)))
    refine plan_nil ?_
    clear cb0 cb1 cb2 cb3
    refine plan_call (by kernel_rfl) (fun K hK => ?_)
    go_simp
    refine (rputInt_any none 0 0 [] no _ (RdB.nil _ _) (by omega) h1).mono ?_
    rintro e w2 ⟨v2, rfl, o2, hb⟩
    rw [Nat.zero_add, List.nil_append] at o2
    obtain ⟨A2, c2, rfl, q2⟩ := own_rdB o2
    clear o2
    refine hK.out _ _ hb ?_
    clear hK K
    (try simp only [Act.put, List.setIfInBounds_toArray, List.set_cons_zero, List.set_cons_succ])
    replace h := (h.below hb).more hb.size
    replace b1 := blk_below b1 hb
    replace hbt := hbt.trans (hb.mono hbt.size)
    clear hb
    generalize hp1 : Vi.putI no = P1 at *
    clear hp1
    refine plan_cons ?_
    (repeat (go_big_quiet_step (fail)))
    refine plan_nil ?_
    refine plan_call (by kernel_rfl) (fun K hK => ?_)
    go_simp
    refine (rPut4_any A2 P1.length c2 P1 A n c wk _ q2 h (by omega) (by omega)).mono ?_
    rintro e w3 ⟨v3, rfl, o3, hb⟩
    obtain ⟨A3, c3, rfl, q3⟩ := own_rdB o3
    clear o3
    clear q2 h
    refine hK.out _ _ hb ?_
    clear hK K
    (try simp only [Act.put, List.setIfInBounds_toArray, List.set_cons_zero, List.set_cons_succ])
    replace b1 := blk_below b1 hb
    replace hbt := hbt.trans (hb.mono hbt.size)
    clear hb
    generalize Vi.putW wk = P2 at *
    refine plan_cons ?_
    (repeat (go_big_quiet_step (fail)))
    refine plan_nil ?_
    refine plan_call (by kernel_rfl) (fun K hK => ?_)
    go_simp
    refine (rputInt_any A3 (P1.length + P2.length) c3 (P1 ++ P2) cost _ q3 (by omega) h2).mono ?_
    rintro e w4 ⟨v4, rfl, o4, hb⟩
    obtain ⟨A4, c4, rfl, q4⟩ := own_rdB o4
    clear o4
    clear q3
    refine hK.out _ _ hb ?_
    clear hK K
    (try simp only [Act.put, List.setIfInBounds_toArray, List.set_cons_zero, List.set_cons_succ])
    replace b1 := blk_below b1 hb
    replace hbt := hbt.trans (hb.mono hbt.size)
    clear hb
    generalize Vi.putI cost = P3 at *
    refine plan_cons ?_
    (repeat (go_big_quiet_step (fail)))
    refine plan_nil ?_
    refine plan_call (by kernel_rfl) (fun K hK => ?_)
    go_simp
    refine (rputInt_any A4 (P1.length + P2.length + P3.length) c4 (P1 ++ P2 ++ P3) 1 _ q4 (by omega) (by omega)).mono ?_
    rintro e w5 ⟨v5, rfl, o5, hb⟩
    replace o5 := own_mono o5 hbt.size
    clear q4
    refine hK.out _ _ hb ?_
    clear hK K
    (try simp only [Act.put, List.setIfInBounds_toArray, List.set_cons_zero, List.set_cons_succ])
    replace b1 := blk_below b1 hb
    replace hbt := hbt.trans (hb.mono hbt.size)
    clear hb
    refine plan_cons ?_
    (repeat (go_big_quiet_step (fail)))
    refine plan_nil ?_
    refine plan_end ?_
    go_wp2_with fail
    go_ret
    refine ⟨_, rfl, ?_, hbt⟩
    rw [HB.out, HBT.out (by simp), List.length_append, List.length_append, List.length_append]
    exact o5

end Go.Proofs.Ytfacdoemgalodaa
