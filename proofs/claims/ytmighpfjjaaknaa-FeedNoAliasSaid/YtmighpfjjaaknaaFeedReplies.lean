/-
  FeedReplies, walked.
-/
import Derived.Test.YtmighpfjjaaknaaPlain
import Derived.Test.YtmighpfjjaaknaaArgs
import Derived.Test.YtmighpfjjaaknaaRReplyW
namespace Go.Proofs.Ytmighpfjjaaknaa
open Go.RowKit
set_option linter.unusedVariables false
set_option linter.unusedSimpArgs false

theorem msgs_same (a0 a1 a2 a3 : Int) (A A' P P' : Option Addr) (n c n' c' m d m' d' : Nat) (l : List Pl) (x : List Mv) (w : World) (h : RdP w w.heap.size A n c l) (h' : RdP w w.heap.size A' n' c' l) (g : RdM w w.heap.size P m d x) (g' : RdM w w.heap.size P' m' d' x) :
    Calls Try.prog 15 #[.agg #[.int .i64 a0, .int .i64 a1, .int .i64 a2, .int .i64 a3, .slice A n c, .slice P m d], .agg #[.int .i64 a0, .int .i64 a1, .int .i64 a2, .int .i64 a3, .slice A' n' c', .slice P' m' d']] w fun e w' =>
      e = .returned (.bool true) ∧ Below w.heap.size w w' :=
  (msgs_any a0 a1 a2 a3 a0 a1 a2 a3 A A' P P' n c n' c' m d m' d' l l x x w h h' g g').mono fun e w' hh => ⟨by rw [hh.1, decide_eq_true ⟨rfl, rfl, rfl, rfl, rfl, rfl⟩], hh.2⟩
set_option maxRecDepth 20000 in
set_option maxHeartbeats 4000000 in
theorem feedReplies_any (A : Option Addr) (n c : Nat) (vs : List Ver) (cno : Int) (A1 : Option Addr) (n1' c1 : Nat) (l : List Pl) (no to : Int) (w : World) (h : RdV w w.heap.size A n c vs) (hc : RdP w w.heap.size A1 n1' c1 l) (hno : okI no) (hto : okI to) :
    Calls Try.prog 3 #[.slice A n c, .agg #[.int .i64 cno, .slice A1 n1' c1], .int .i64 no, .int .i64 to] w fun e w' => e = .returned (.bool true) ∧ Below w.heap.size w w' := by
  have n1 := h.max
  have n2 := h.le
  have hl := Lib.hid h.len
  have y1 := hc.max
  have y2 := hc.le
  obtain ⟨V1, hV⟩ : ∃ V1, V1 = w.alloc (.cells #[.int .i64 cno, .slice A1 n1' c1] 27) := ⟨_, rfl⟩
  have bc := blk_new hV
  have hb := below_new hV
  have hbt := hb
  clear hb
  have HSV1 : Hid (V1.heap.size = w.heap.size + 1) := by show V1.heap.size = _; rw [hV, World.size_alloc]
  have HVV1 := Lib.hid hV.symm
  clear hV
  replace h := (h.below hbt).more hbt.size
  replace hc := (hc.below hbt).more hbt.size
  go_enter Try.func3, Try.ntmps3
  go_wp2_with fail
  rw [HVV1.out]
  clear HVV1
  refine (live_any V1).mono ?_
  rintro e w1 ⟨rfl, hb⟩
  replace h := (h.below hb).more hb.size
  replace hc := (hc.below hb).more hb.size
  replace bc := blk_below bc hb
  replace hbt := hbt.trans (hb.mono hbt.size)
  clear hb
  go_wp2_with fail
  refine (few_any A n c vs w1 h).mono ?_
  rintro e w2 ⟨r, rfl, hfew, rfl⟩
  cases r
  · clear hfew
    go_wp2_with fail
    go_ret
    exact ⟨rfl, hbt⟩
  · obtain ⟨hv1, hv2⟩ := hfew rfl
    rw [hl.out] at hv1
    have HV2 := Lib.hid hv2
    have HOK := Lib.hid h.okWeeks
    have HM := fun (no to : Int) => replyM_ok (no := no) (to := to) h.okWeeks hv2
    replace HM := Lib.hid HM
    clear hv2 hfew
    by_cases h70 : n1' ≤ 70
    · have d1 : decide ((70 : Int) < (n1' : Int)) = false := by simp; omega
      have cbc0 := cell_of_row w1 w.heap.size 0 _ _ _ bc
      simp only [List.getElem?_toArray, List.getElem?_cons_zero, List.getElem?_cons_succ] at cbc0
      have cbc1 := cell_of_row w1 w.heap.size 1 _ _ _ bc
      simp only [List.getElem?_toArray, List.getElem?_cons_zero, List.getElem?_cons_succ] at cbc1
      go_wp2_with fail
      clear cbc0 cbc1
      have HR := Lib.hid (fun (W : World) (h : RdV W W.heap.size A n c vs) => rreply_any A n c vs no to W h (by omega) (fun v hv => Nat.le_trans (HV2.out v hv) (by omega)))
      have HR0 := Lib.hid (fun (W : World) (h : RdV W W.heap.size A n c vs) => reply_any A n c vs no to W h (by omega) (fun v hv => Nat.le_trans (HV2.out v hv) (by omega)))
      obtain ⟨ok1, ok2, ok3⟩ := HM.out no to
      clear HM
      generalize replyM vs no to = M at *
      generalize replyE vs no to = E at *
      obtain ⟨m0, m1, m2, m3, lw, lm⟩ := M
      dsimp only at ok1 ok2 ok3
      refine (HR0.out w1 h).mono ?_
      rintro e w3 ⟨v, u, rfl, ho, hp, hb⟩
      dsimp only at ho hp ⊢
      obtain ⟨A3, k3, rfl, q3⟩ := own_rdP ho ok1
      obtain ⟨P3, j3, rfl, r3⟩ := own_rdM hp ok2
      clear ho hp HR0
      replace h := (h.below hb).more hb.size
      replace hc := (hc.below hb).more hb.size
      replace bc := blk_below bc hb
      replace hbt := hbt.trans (hb.mono hbt.size)
      clear hb
      obtain ⟨V3, hV⟩ : ∃ V3, V3 = w3.alloc (.cells #[.int .i64 m0, .int .i64 m1, .int .i64 m2, .int .i64 m3, .slice A3 lw.length k3, .slice P3 lm.length j3] 32) := ⟨_, rfl⟩
      have bm3 := blk_new hV
      have hb := below_new hV
      replace h := (h.below hb).more hb.size
      replace hc := (hc.below hb).more hb.size
      replace bc := blk_below bc hb
      replace q3 := (q3.below hb).more hb.size
      replace r3 := (r3.below hb).more hb.size
      replace hbt := hbt.trans (hb.mono hbt.size)
      clear hb
      have HSV3 : Hid (V3.heap.size = w3.heap.size + 1) := by show V3.heap.size = _; rw [hV, World.size_alloc]
      have HVV3 := Lib.hid hV.symm
      clear hV
      go_wp2_with fail
      rw [HVV3.out]
      clear HVV3
      refine (HR.out V3 h).mono ?_
      rintro e w4 ⟨v, u, rfl, ho, hp, hb⟩
      dsimp only at ho hp ⊢
      obtain ⟨A4, k4, rfl, q4⟩ := own_rdP ho ok1
      obtain ⟨P4, j4, rfl, r4⟩ := own_rdM hp ok2
      clear ho hp HR
      replace h := (h.below hb).more hb.size
      replace hc := (hc.below hb).more hb.size
      replace bc := blk_below bc hb
      replace q3 := (q3.below hb).more hb.size
      replace r3 := (r3.below hb).more hb.size
      replace bm3 := blk_below bm3 hb
      replace hbt := hbt.trans (hb.mono hbt.size)
      clear hb
      obtain ⟨V4, hV⟩ : ∃ V4, V4 = w4.alloc (.cells #[.int .i64 m0, .int .i64 m1, .int .i64 m2, .int .i64 m3, .slice A4 lw.length k4, .slice P4 lm.length j4] 32) := ⟨_, rfl⟩
      have bm4 := blk_new hV
      have hb := below_new hV
      replace h := (h.below hb).more hb.size
      replace hc := (hc.below hb).more hb.size
      replace bc := blk_below bc hb
      replace q3 := (q3.below hb).more hb.size
      replace r3 := (r3.below hb).more hb.size
      replace bm3 := blk_below bm3 hb
      replace q4 := (q4.below hb).more hb.size
      replace r4 := (r4.below hb).more hb.size
      replace hbt := hbt.trans (hb.mono hbt.size)
      clear hb
      have HSV4 : Hid (V4.heap.size = w4.heap.size + 1) := by show V4.heap.size = _; rw [hV, World.size_alloc]
      have HVV4 := Lib.hid hV.symm
      clear hV
      go_wp2_with fail
      rw [HVV4.out]
      clear HVV4
      have cbm30 := cell_of_row V4 w3.heap.size 0 _ _ _ bm3
      simp only [List.getElem?_toArray, List.getElem?_cons_zero, List.getElem?_cons_succ] at cbm30
      have ybm30 := fun x : Ext V4.heap.size V4 => (x.ok.cell (p := ⟨w3.heap.size, 0, none⟩) (Array.getElem?_eq_some_iff.1 bm3).1).trans cbm30
      clear cbm30
      have cbm31 := cell_of_row V4 w3.heap.size 1 _ _ _ bm3
      simp only [List.getElem?_toArray, List.getElem?_cons_zero, List.getElem?_cons_succ] at cbm31
      have ybm31 := fun x : Ext V4.heap.size V4 => (x.ok.cell (p := ⟨w3.heap.size, 1, none⟩) (Array.getElem?_eq_some_iff.1 bm3).1).trans cbm31
      clear cbm31
      have cbm32 := cell_of_row V4 w3.heap.size 2 _ _ _ bm3
      simp only [List.getElem?_toArray, List.getElem?_cons_zero, List.getElem?_cons_succ] at cbm32
      have ybm32 := fun x : Ext V4.heap.size V4 => (x.ok.cell (p := ⟨w3.heap.size, 2, none⟩) (Array.getElem?_eq_some_iff.1 bm3).1).trans cbm32
      clear cbm32
      have cbm33 := cell_of_row V4 w3.heap.size 3 _ _ _ bm3
      simp only [List.getElem?_toArray, List.getElem?_cons_zero, List.getElem?_cons_succ] at cbm33
      have ybm33 := fun x : Ext V4.heap.size V4 => (x.ok.cell (p := ⟨w3.heap.size, 3, none⟩) (Array.getElem?_eq_some_iff.1 bm3).1).trans cbm33
      clear cbm33
      have cbm34 := cell_of_row V4 w3.heap.size 4 _ _ _ bm3
      simp only [List.getElem?_toArray, List.getElem?_cons_zero, List.getElem?_cons_succ] at cbm34
      have ybm34 := fun x : Ext V4.heap.size V4 => (x.ok.cell (p := ⟨w3.heap.size, 4, none⟩) (Array.getElem?_eq_some_iff.1 bm3).1).trans cbm34
      clear cbm34
      have cbm35 := cell_of_row V4 w3.heap.size 5 _ _ _ bm3
      simp only [List.getElem?_toArray, List.getElem?_cons_zero, List.getElem?_cons_succ] at cbm35
      have ybm35 := fun x : Ext V4.heap.size V4 => (x.ok.cell (p := ⟨w3.heap.size, 5, none⟩) (Array.getElem?_eq_some_iff.1 bm3).1).trans cbm35
      clear cbm35
      have cbm40 := cell_of_row V4 w4.heap.size 0 _ _ _ bm4
      simp only [List.getElem?_toArray, List.getElem?_cons_zero, List.getElem?_cons_succ] at cbm40
      have ybm40 := fun x : Ext V4.heap.size V4 => (x.ok.cell (p := ⟨w4.heap.size, 0, none⟩) (Array.getElem?_eq_some_iff.1 bm4).1).trans cbm40
      clear cbm40
      have cbm41 := cell_of_row V4 w4.heap.size 1 _ _ _ bm4
      simp only [List.getElem?_toArray, List.getElem?_cons_zero, List.getElem?_cons_succ] at cbm41
      have ybm41 := fun x : Ext V4.heap.size V4 => (x.ok.cell (p := ⟨w4.heap.size, 1, none⟩) (Array.getElem?_eq_some_iff.1 bm4).1).trans cbm41
      clear cbm41
      have cbm42 := cell_of_row V4 w4.heap.size 2 _ _ _ bm4
      simp only [List.getElem?_toArray, List.getElem?_cons_zero, List.getElem?_cons_succ] at cbm42
      have ybm42 := fun x : Ext V4.heap.size V4 => (x.ok.cell (p := ⟨w4.heap.size, 2, none⟩) (Array.getElem?_eq_some_iff.1 bm4).1).trans cbm42
      clear cbm42
      have cbm43 := cell_of_row V4 w4.heap.size 3 _ _ _ bm4
      simp only [List.getElem?_toArray, List.getElem?_cons_zero, List.getElem?_cons_succ] at cbm43
      have ybm43 := fun x : Ext V4.heap.size V4 => (x.ok.cell (p := ⟨w4.heap.size, 3, none⟩) (Array.getElem?_eq_some_iff.1 bm4).1).trans cbm43
      clear cbm43
      have cbm44 := cell_of_row V4 w4.heap.size 4 _ _ _ bm4
      simp only [List.getElem?_toArray, List.getElem?_cons_zero, List.getElem?_cons_succ] at cbm44
      have ybm44 := fun x : Ext V4.heap.size V4 => (x.ok.cell (p := ⟨w4.heap.size, 4, none⟩) (Array.getElem?_eq_some_iff.1 bm4).1).trans cbm44
      clear cbm44
      have cbm45 := cell_of_row V4 w4.heap.size 5 _ _ _ bm4
      simp only [List.getElem?_toArray, List.getElem?_cons_zero, List.getElem?_cons_succ] at cbm45
      have ybm45 := fun x : Ext V4.heap.size V4 => (x.ok.cell (p := ⟨w4.heap.size, 5, none⟩) (Array.getElem?_eq_some_iff.1 bm4).1).trans cbm45
      clear cbm45
      have cbc0 := cell_of_row V4 w.heap.size 0 _ _ _ bc
      simp only [List.getElem?_toArray, List.getElem?_cons_zero, List.getElem?_cons_succ] at cbc0
      have ybc0 := fun x : Ext V4.heap.size V4 => (x.ok.cell (p := ⟨w.heap.size, 0, none⟩) (Array.getElem?_eq_some_iff.1 bc).1).trans cbc0
      clear cbc0
      have cbc1 := cell_of_row V4 w.heap.size 1 _ _ _ bc
      simp only [List.getElem?_toArray, List.getElem?_cons_zero, List.getElem?_cons_succ] at cbc1
      have ybc1 := fun x : Ext V4.heap.size V4 => (x.ok.cell (p := ⟨w.heap.size, 1, none⟩) (Array.getElem?_eq_some_iff.1 bc).1).trans cbc1
      clear cbc1
      have HK1 := Lib.hid (fun (W : World) (h : RdV W W.heap.size A n c vs) => check_any A n c vs W h)
      have HK2 := Lib.hid (fun (W : World) (h : RdV W W.heap.size A n c vs) => rcheck_any A n c vs W h)
      generalize errB (checkB vs) = ec at *
      have dE : (E == E) = true := by simp
      have dec' : (ec == ec) = true := by simp
      refine wp_region_ext V4.heap.size (by kernel_rfl) (by kernel_rfl) ?_
      repeat (go_big_quiet_step (first
        | (go_at_call 15; (with_reducible refine ext_call (Nat.le_refl _) (msgs_same m0 m1 m2 m3 _ _ _ _ _ _ _ _ _ _ _ _ lw lm _ (q3.ext _) (q4.ext _) (r3.ext _) (r4.ext _))))
        | (go_at_call 15; (with_reducible refine ext_call (Nat.le_refl _) (msgs_same 3 to 0 cno _ _ _ _ _ _ _ _ _ _ _ _ [] [] _ (RdP.nil _ _) (RdP.nil _ _) (RdM.nil _ _) (RdM.nil _ _))))
        | (go_at_call 16; (with_reducible refine ext_call (Nat.le_refl _) (HK1.out _ (h.ext _))))
        | (go_at_call 17; (with_reducible refine ext_call (Nat.le_refl _) (HK2.out _ (h.ext _))))
        | (go_at_call 18; (with_reducible refine ext_call (Nat.le_refl _) (wish_any cno _ to _)))
        | (go_at_call 19; (with_reducible refine ext_call (Nat.le_refl _) (rwish_any cno _ to _)))))
      refine wpQuiet_nil ?_
      rintro _ ⟨⟨W, hW⟩, rfl⟩
      have hBB := hbt.trans (hW.mono hbt.size)
      clear ybm30 ybm31 ybm32 ybm33 ybm34 ybm35 ybm40 ybm41 ybm42 ybm43 ybm44 ybm45 ybc0 ybc1
      go_wp2
      go_ret
      exact ⟨rfl, hBB⟩
    · have d1 : decide ((70 : Int) < (n1' : Int)) = true := by simp; omega
      have cbc0 := cell_of_row w1 w.heap.size 0 _ _ _ bc
      simp only [List.getElem?_toArray, List.getElem?_cons_zero, List.getElem?_cons_succ] at cbc0
      have cbc1 := cell_of_row w1 w.heap.size 1 _ _ _ bc
      simp only [List.getElem?_toArray, List.getElem?_cons_zero, List.getElem?_cons_succ] at cbc1
      go_wp2_with fail
      clear cbc0 cbc1
      go_ret
      exact ⟨rfl, hbt⟩
end Go.Proofs.Ytmighpfjjaaknaa
