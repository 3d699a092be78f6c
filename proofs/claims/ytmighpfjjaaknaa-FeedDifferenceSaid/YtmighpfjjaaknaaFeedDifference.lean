/-
  FeedDifference, walked.
-/
import Derived.Test.YtmighpfjjaaknaaPlain
import Derived.Test.YtmighpfjjaaknaaArgs
namespace Go.Proofs.Ytmighpfjjaaknaa
open Go.RowKit
set_option linter.unusedVariables false
set_option linter.unusedSimpArgs false

theorem take_whole {vs : List Ver} {no to : Int} {l : List Pl} {m : Mg} (hm : IsReply vs 0 to m) (h0 : 0 ≤ no) (h1 : no < vs.length) (hn : (vs.length : Int) ≤ 1099511627776) :
    takeE ⟨no, l⟩ m = 0 ∧ takeC ⟨no, l⟩ m = ⟨vs.length, (lastV vs).week⟩ := by
  obtain ⟨e1, e2, hk⟩ := hm
  rcases hk with ⟨_, _, k3, _⟩ | ⟨k1, k2, k3, k4, k5⟩
  · omega
  · have hall : (m.kind = 1 ∨ m.kind = 2) ∧ (0 ≤ no ∧ no ≤ 1099511627776) ∧ (1 ≤ m.no ∧ m.no ≤ 1099511627776) ∧ no < m.no := ⟨.inl k1, ⟨h0, by omega⟩, ⟨by omega, by omega⟩, by omega⟩
    refine ⟨?_, ?_⟩
    · unfold takeE
      rw [if_pos ⟨hall.1, hall.2.1, hall.2.2.1⟩, if_neg (by dsimp only; omega), if_pos k1]
    · unfold takeC
      rw [if_pos hall, if_pos k1, e2, k3]
set_option maxRecDepth 20000 in
set_option maxHeartbeats 2000000 in
theorem feedDifference_any (A : Option Addr) (n c : Nat) (vs : List Ver) (x : Nat) (w : World) (h : RdV w w.heap.size A n c vs) (hx : x ≤ 255) :
    Calls Try.prog 8 #[.slice A n c, .int .u8 x] w fun e w' => e = .returned (.bool true) ∧ Below w.heap.size w w' := by
  have n1 := h.max
  have n2 := h.le
  have hl := Lib.hid h.len
  have hbt := Below.refl w.heap.size w
  go_enter Try.func8, Try.ntmps8
  go_wp2_with fail
  refine (live_any w).mono ?_
  rintro e w1 ⟨rfl, hb⟩
  replace h := (h.below hb).more hb.size
  replace hbt := hbt.trans (hb.mono hbt.size)
  clear hb
  go_wp2_with fail
  refine (few_any A n c vs w1 h).mono ?_
  rintro e w2 ⟨r, rfl, hfew, rfl⟩
  cases r
  · clear hfew
    go_wp2_with fail
    go_ret
    exact ⟨rfl, hbt⟩
  · obtain ⟨hv1, hv2⟩ := hfew rfl
    rw [hl.out] at hv1
    have HV2 := Lib.hid hv2
    have HOK := Lib.hid h.okWeeks
    have HM := fun (no to : Int) => replyM_ok (no := no) (to := to) h.okWeeks hv2
    replace HM := Lib.hid HM
    clear hv2 hfew
    go_wp2_with fail
    refine (check_any A n c vs w1 h).mono ?_
    rintro e w3 ⟨rfl, hb⟩
    replace h := (h.below hb).more hb.size
    replace hbt := hbt.trans (hb.mono hbt.size)
    clear hb
    by_cases hck : checkB vs = true
    · rw [show errB (checkB vs) = 0 by rw [hck]; rfl]
      have HC := Lib.hid hck
      clear hck
      by_cases h2 : 2 ≤ n
      · have d2 : decide ((n : Int) < 2) = false := by simp; omega
        obtain ⟨k, hq, hk2⟩ : ∃ k : Nat, wrap64 (1 + (x : Int) % ((n : Int) - 1)) = (k : Int) + 1 ∧ k + 1 < n := by
          have e1 := Int.emod_nonneg (x : Int) (show ((n : Int) - 1) ≠ 0 by omega)
          have e2 := Int.emod_lt_of_pos (x : Int) (show 0 < ((n : Int) - 1) by omega)
          exact ⟨((x : Int) % ((n : Int) - 1)).toNat, by rw [IntWalk.wrap64_in _ ⟨by omega, by omega⟩]; omega, by omega⟩
        have hkn : k < n := by omega
        have hkl : k < vs.length := by rw [hl.out]; exact hkn
        obtain ⟨ad, Aq, cq, rfl, hab, c1, c2, c3, c4, hp, _, _⟩ := h.at_ hkn hkl
        clear c1 c3 c4
        have HW : Hid (0 < (k : Int) + 1 → vs[k].week = (vs.getD (((k : Int) + 1).toNat - 1) zeroV).week) := fun _ => by rw [show ((k : Int) + 1).toNat - 1 = k by omega, List.getD_eq_getElem?_getD, List.getElem?_eq_getElem hkl]; rfl
        have hlk := HV2.out _ (List.getElem_mem hkl)
        generalize vs[k] = vk at *
        obtain ⟨vno, lk, vc, vb⟩ := vk
        dsimp only at *
        obtain ⟨nk, hnk⟩ : ∃ z, z = lk.length := ⟨_, rfl⟩
        rw [← hnk] at hp c2 hlk
        have HNK := Lib.hid hnk
        clear hnk
        have z1 := hp.le
        have z2 := hp.max
        have kx : (k : Int) < (n : Int) := by omega
        obtain ⟨V4, hV⟩ : ∃ V4, V4 = w3.alloc (.cells #[.slice Aq nk cq] 25) := ⟨_, rfl⟩
        have bf := blk_new hV
        have hb := below_new hV
        replace h := (h.below hb).more hb.size
        replace hp := (hp.below hb).more hb.size
        replace hbt := hbt.trans (hb.mono hbt.size)
        clear hb
        have HSV4 : Hid (V4.heap.size = w3.heap.size + 1) := by show V4.heap.size = _; rw [hV, World.size_alloc]
        have HVV4 := Lib.hid hV.symm
        clear hV
        go_wp2_with fail
        rw [HVV4.out]
        clear HVV4
        rw [hq]
        clear c2 hq
        have HEQ5 := Lib.hid (replyE_ok (vs := vs) (no := ((k : Int) + 1)) (to := 0) HC.out (by omega) (by rw [hl.out]; omega) (by omega) (by decide))
        have HIS5 := Lib.hid (replyM_is (vs := vs) (no := ((k : Int) + 1)) (to := 0) HC.out (by rw [hl.out]; omega) HEQ5.out)
        refine (reply_any _ n c vs ((k : Int) + 1) 0 V4 h (by omega) (fun v hv => Nat.le_trans (HV2.out v hv) (by omega))).mono ?_
        rintro e w5 ⟨v, u, rfl, ho, hp, hb⟩
        obtain ⟨ok1, ok2, ok3⟩ := HM.out (((k : Int) + 1)) (0)
        have HE5 : Hid (∃ x, x = replyE vs (((k : Int) + 1)) (0)) := ⟨_, rfl⟩
        obtain ⟨E5, hE5⟩ := HE5.out
        have HM5 : Hid (∃ x, x = replyM vs (((k : Int) + 1)) (0)) := ⟨_, rfl⟩
        obtain ⟨M5, hM5⟩ := HM5.out
        rw [← hM5] at ho hp ok1 ok2 ok3 ⊢
        rw [← hE5]
        clear HE5 HM5
        have HE5 := Lib.hid hE5
        have HM5 := Lib.hid hM5
        clear hE5 hM5
        obtain ⟨m05, m15, m25, m35, lw5, lm5⟩ := M5
        dsimp only at ho hp ok1 ok2 ok3 ⊢
        obtain ⟨A5, k5, rfl, q5⟩ := own_rdP ho ok1
        obtain ⟨P5, j5, rfl, r5⟩ := own_rdM hp ok2
        clear ho hp
        replace h := (h.below hb).more hb.size
        replace hp := (hp.below hb).more hb.size
        replace bf := blk_below bf hb
        replace hbt := hbt.trans (hb.mono hbt.size)
        clear hb
        have z15 := q5.le
        have z25 := q5.max
        have z35 := r5.le
        have z45 := r5.max
        obtain ⟨nw5, hx⟩ : ∃ x, x = lw5.length := ⟨_, rfl⟩
        rw [← hx] at q5 z15 ok3 ⊢
        have Hnw5 := Lib.hid hx
        clear hx
        obtain ⟨nm5, hx⟩ : ∃ x, x = lm5.length := ⟨_, rfl⟩
        rw [← hx] at r5 z35 ⊢
        have Hnm5 := Lib.hid hx
        clear hx
        clear ok1 ok2
        rw [← HE5.out] at HEQ5
        obtain rfl : E5 = 0 := HEQ5.out
        rw [← HM5.out] at HIS5
        clear HE5 HM5 HEQ5
        have ok35 := ok3
        clear ok3
        obtain ⟨V5, hV⟩ : ∃ V5, V5 = w5.alloc (.cells #[.int .i64 m05, .int .i64 m15, .int .i64 m25, .int .i64 m35, .slice A5 nw5 k5, .slice P5 nm5 j5] 32) := ⟨_, rfl⟩
        have bm5 := blk_new hV
        have hb := below_new hV
        replace h := (h.below hb).more hb.size
        replace hp := (hp.below hb).more hb.size
        replace bf := blk_below bf hb
        replace q5 := (q5.below hb).more hb.size
        replace r5 := (r5.below hb).more hb.size
        replace hbt := hbt.trans (hb.mono hbt.size)
        clear hb
        have HSV5 : Hid (V5.heap.size = w5.heap.size + 1) := by show V5.heap.size = _; rw [hV, World.size_alloc]
        have HVV5 := Lib.hid hV.symm
        clear hV
        go_wp2_with fail
        rw [HVV5.out]
        clear HVV5
        have HEQ6 := Lib.hid (replyE_ok (vs := vs) (no := 0) (to := 0) HC.out (by omega) (by rw [hl.out]; omega) (by omega) (by decide))
        have HIS6 := Lib.hid (replyM_is (vs := vs) (no := 0) (to := 0) HC.out (by rw [hl.out]; omega) HEQ6.out)
        refine (reply_any _ n c vs 0 0 V5 h (by omega) (fun v hv => Nat.le_trans (HV2.out v hv) (by omega))).mono ?_
        rintro e w6 ⟨v, u, rfl, ho, hp, hb⟩
        obtain ⟨ok1, ok2, ok3⟩ := HM.out (0) (0)
        have HE6 : Hid (∃ x, x = replyE vs (0) (0)) := ⟨_, rfl⟩
        obtain ⟨E6, hE6⟩ := HE6.out
        have HM6 : Hid (∃ x, x = replyM vs (0) (0)) := ⟨_, rfl⟩
        obtain ⟨M6, hM6⟩ := HM6.out
        rw [← hM6] at ho hp ok1 ok2 ok3 ⊢
        rw [← hE6]
        clear HE6 HM6
        have HE6 := Lib.hid hE6
        have HM6 := Lib.hid hM6
        clear hE6 hM6
        obtain ⟨m06, m16, m26, m36, lw6, lm6⟩ := M6
        dsimp only at ho hp ok1 ok2 ok3 ⊢
        obtain ⟨A6, k6, rfl, q6⟩ := own_rdP ho ok1
        obtain ⟨P6, j6, rfl, r6⟩ := own_rdM hp ok2
        clear ho hp
        replace h := (h.below hb).more hb.size
        replace hp := (hp.below hb).more hb.size
        replace bf := blk_below bf hb
        replace q5 := (q5.below hb).more hb.size
        replace r5 := (r5.below hb).more hb.size
        replace bm5 := blk_below bm5 hb
        replace hbt := hbt.trans (hb.mono hbt.size)
        clear hb
        have z16 := q6.le
        have z26 := q6.max
        have z36 := r6.le
        have z46 := r6.max
        obtain ⟨nw6, hx⟩ : ∃ x, x = lw6.length := ⟨_, rfl⟩
        rw [← hx] at q6 z16 ok3 ⊢
        have Hnw6 := Lib.hid hx
        clear hx
        obtain ⟨nm6, hx⟩ : ∃ x, x = lm6.length := ⟨_, rfl⟩
        rw [← hx] at r6 z36 ⊢
        have Hnm6 := Lib.hid hx
        clear hx
        clear ok1 ok2
        rw [← HE6.out] at HEQ6
        obtain rfl : E6 = 0 := HEQ6.out
        rw [← HM6.out] at HIS6
        clear HE6 HM6 HEQ6
        have ok36 := ok3
        clear ok3
        obtain ⟨V6, hV⟩ : ∃ V6, V6 = w6.alloc (.cells #[.int .i64 m06, .int .i64 m16, .int .i64 m26, .int .i64 m36, .slice A6 nw6 k6, .slice P6 nm6 j6] 32) := ⟨_, rfl⟩
        have bm6 := blk_new hV
        have hb := below_new hV
        replace h := (h.below hb).more hb.size
        replace hp := (hp.below hb).more hb.size
        replace bf := blk_below bf hb
        replace q5 := (q5.below hb).more hb.size
        replace r5 := (r5.below hb).more hb.size
        replace bm5 := blk_below bm5 hb
        replace q6 := (q6.below hb).more hb.size
        replace r6 := (r6.below hb).more hb.size
        replace hbt := hbt.trans (hb.mono hbt.size)
        clear hb
        have HSV6 : Hid (V6.heap.size = w6.heap.size + 1) := by show V6.heap.size = _; rw [hV, World.size_alloc]
        have HVV6 := Lib.hid hV.symm
        clear hV
        clear HM HC
        have cbf0 := cell_of_row V6 w3.heap.size 0 _ _ _ bf
        simp only [List.getElem?_toArray, List.getElem?_cons_zero, List.getElem?_cons_succ] at cbf0
        have cbm50 := cell_of_row V6 w5.heap.size 0 _ _ _ bm5
        simp only [List.getElem?_toArray, List.getElem?_cons_zero, List.getElem?_cons_succ] at cbm50
        have cbm51 := cell_of_row V6 w5.heap.size 1 _ _ _ bm5
        simp only [List.getElem?_toArray, List.getElem?_cons_zero, List.getElem?_cons_succ] at cbm51
        have cbm52 := cell_of_row V6 w5.heap.size 2 _ _ _ bm5
        simp only [List.getElem?_toArray, List.getElem?_cons_zero, List.getElem?_cons_succ] at cbm52
        have cbm53 := cell_of_row V6 w5.heap.size 3 _ _ _ bm5
        simp only [List.getElem?_toArray, List.getElem?_cons_zero, List.getElem?_cons_succ] at cbm53
        have cbm54 := cell_of_row V6 w5.heap.size 4 _ _ _ bm5
        simp only [List.getElem?_toArray, List.getElem?_cons_zero, List.getElem?_cons_succ] at cbm54
        have cbm55 := cell_of_row V6 w5.heap.size 5 _ _ _ bm5
        simp only [List.getElem?_toArray, List.getElem?_cons_zero, List.getElem?_cons_succ] at cbm55
        rw [← HVV6.out] at cbf0 cbm50 cbm51 cbm52 cbm53 cbm54 cbm55
        go_wp2_with fail
        rw [HVV6.out]
        clear HVV6
        clear cbf0 cbm50 cbm51 cbm52 cbm53 cbm54 cbm55
        have HTR := Lib.hid (take_reply (l := lk) HIS5.out (by omega) (by rw [hl.out]; omega) (by rw [hl.out]; omega) HW.out)
        refine (take_any m05 m15 m25 m35 ((k : Int) + 1) _ _ _ _ _ _ _ _ _ lk lw5 lm5 V6 hp q5 r5 (by omega) (by omega)).mono ?_
        rintro e w7 ⟨v, rfl, ho, hb⟩
        have ok1 := takeC_ok (c := ⟨((k : Int) + 1), lk⟩) (m := ⟨m05, m15, m25, m35, lw5, lm5⟩) (hp).2 (q5).2 (r5).2
        have HF7 : Hid (∃ x, x = takeE ⟨((k : Int) + 1), lk⟩ ⟨m05, m15, m25, m35, lw5, lm5⟩) := ⟨_, rfl⟩
        obtain ⟨F7, hF7⟩ := HF7.out
        have HX7 : Hid (∃ x, x = takeC ⟨((k : Int) + 1), lk⟩ ⟨m05, m15, m25, m35, lw5, lm5⟩) := ⟨_, rfl⟩
        obtain ⟨X7, hX7⟩ := HX7.out
        rw [← hX7] at ho ok1 ⊢
        rw [← hF7]
        clear HF7 HX7
        have HF7 := Lib.hid hF7
        have HX7 := Lib.hid hX7
        clear hF7 hX7
        obtain ⟨xn7, lx7⟩ := X7
        dsimp only at ho ok1 ⊢
        obtain ⟨A7, k7, rfl, q7⟩ := own_rdP ho ok1
        clear ho
        replace h := (h.below hb).more hb.size
        replace hp := (hp.below hb).more hb.size
        replace bf := blk_below bf hb
        replace q5 := (q5.below hb).more hb.size
        replace r5 := (r5.below hb).more hb.size
        replace bm5 := blk_below bm5 hb
        replace q6 := (q6.below hb).more hb.size
        replace r6 := (r6.below hb).more hb.size
        replace bm6 := blk_below bm6 hb
        replace hbt := hbt.trans (hb.mono hbt.size)
        clear hb
        have z17 := q7.le
        have z27 := q7.max
        obtain ⟨nx7, hx⟩ : ∃ x, x = lx7.length := ⟨_, rfl⟩
        rw [← hx] at q7 z17 ⊢
        have Hnx7 := Lib.hid hx
        clear hx ok1
        rw [← HF7.out, ← HX7.out] at HTR
        obtain rfl : F7 = 0 := HTR.out.1
        have hx8 := HTR.out.2
        clear HF7 HX7 HTR
        rw [hl.out] at hx8
        obtain rfl : xn7 = (n : Int) := congrArg Cl.no hx8
        have hlx : lx7 = (lastV vs).week := congrArg Cl.week hx8
        clear hx8
        have HLX7 := Lib.hid hlx
        clear hlx
        obtain ⟨V7, hV⟩ : ∃ V7, V7 = w7.alloc (.cells #[.int .i64 (n : Int), .slice A7 nx7 k7] 27) := ⟨_, rfl⟩
        have bx7 := blk_new hV
        have hb := below_new hV
        replace h := (h.below hb).more hb.size
        replace hp := (hp.below hb).more hb.size
        replace bf := blk_below bf hb
        replace q5 := (q5.below hb).more hb.size
        replace r5 := (r5.below hb).more hb.size
        replace bm5 := blk_below bm5 hb
        replace q6 := (q6.below hb).more hb.size
        replace r6 := (r6.below hb).more hb.size
        replace bm6 := blk_below bm6 hb
        replace q7 := (q7.below hb).more hb.size
        replace hbt := hbt.trans (hb.mono hbt.size)
        clear hb
        have HSV7 : Hid (V7.heap.size = w7.heap.size + 1) := by show V7.heap.size = _; rw [hV, World.size_alloc]
        have HVV7 := Lib.hid hV.symm
        clear hV
        have cbf0 := cell_of_row V7 w3.heap.size 0 _ _ _ bf
        simp only [List.getElem?_toArray, List.getElem?_cons_zero, List.getElem?_cons_succ] at cbf0
        have cbm60 := cell_of_row V7 w6.heap.size 0 _ _ _ bm6
        simp only [List.getElem?_toArray, List.getElem?_cons_zero, List.getElem?_cons_succ] at cbm60
        have cbm61 := cell_of_row V7 w6.heap.size 1 _ _ _ bm6
        simp only [List.getElem?_toArray, List.getElem?_cons_zero, List.getElem?_cons_succ] at cbm61
        have cbm62 := cell_of_row V7 w6.heap.size 2 _ _ _ bm6
        simp only [List.getElem?_toArray, List.getElem?_cons_zero, List.getElem?_cons_succ] at cbm62
        have cbm63 := cell_of_row V7 w6.heap.size 3 _ _ _ bm6
        simp only [List.getElem?_toArray, List.getElem?_cons_zero, List.getElem?_cons_succ] at cbm63
        have cbm64 := cell_of_row V7 w6.heap.size 4 _ _ _ bm6
        simp only [List.getElem?_toArray, List.getElem?_cons_zero, List.getElem?_cons_succ] at cbm64
        have cbm65 := cell_of_row V7 w6.heap.size 5 _ _ _ bm6
        simp only [List.getElem?_toArray, List.getElem?_cons_zero, List.getElem?_cons_succ] at cbm65
        rw [← HVV7.out] at cbf0 cbm60 cbm61 cbm62 cbm63 cbm64 cbm65
        go_wp2_with fail
        rw [HVV7.out]
        clear HVV7
        clear cbf0 cbm60 cbm61 cbm62 cbm63 cbm64 cbm65
        have HTR := Lib.hid (take_whole (no := ((k : Int) + 1)) (l := lk) HIS6.out (by omega) (by rw [hl.out]; omega) (by rw [hl.out]; omega))
        refine (take_any m06 m16 m26 m36 ((k : Int) + 1) _ _ _ _ _ _ _ _ _ lk lw6 lm6 V7 hp q6 r6 (by omega) (by omega)).mono ?_
        rintro e w8 ⟨v, rfl, ho, hb⟩
        have ok1 := takeC_ok (c := ⟨((k : Int) + 1), lk⟩) (m := ⟨m06, m16, m26, m36, lw6, lm6⟩) (hp).2 (q6).2 (r6).2
        have HF8 : Hid (∃ x, x = takeE ⟨((k : Int) + 1), lk⟩ ⟨m06, m16, m26, m36, lw6, lm6⟩) := ⟨_, rfl⟩
        obtain ⟨F8, hF8⟩ := HF8.out
        have HX8 : Hid (∃ x, x = takeC ⟨((k : Int) + 1), lk⟩ ⟨m06, m16, m26, m36, lw6, lm6⟩) := ⟨_, rfl⟩
        obtain ⟨X8, hX8⟩ := HX8.out
        rw [← hX8] at ho ok1 ⊢
        rw [← hF8]
        clear HF8 HX8
        have HF8 := Lib.hid hF8
        have HX8 := Lib.hid hX8
        clear hF8 hX8
        obtain ⟨xn8, lx8⟩ := X8
        dsimp only at ho ok1 ⊢
        obtain ⟨A8, k8, rfl, q8⟩ := own_rdP ho ok1
        clear ho
        replace h := (h.below hb).more hb.size
        replace hp := (hp.below hb).more hb.size
        replace bf := blk_below bf hb
        replace q5 := (q5.below hb).more hb.size
        replace r5 := (r5.below hb).more hb.size
        replace bm5 := blk_below bm5 hb
        replace q6 := (q6.below hb).more hb.size
        replace r6 := (r6.below hb).more hb.size
        replace bm6 := blk_below bm6 hb
        replace q7 := (q7.below hb).more hb.size
        replace bx7 := blk_below bx7 hb
        replace hbt := hbt.trans (hb.mono hbt.size)
        clear hb
        have z18 := q8.le
        have z28 := q8.max
        obtain ⟨nx8, hx⟩ : ∃ x, x = lx8.length := ⟨_, rfl⟩
        rw [← hx] at q8 z18 ⊢
        have Hnx8 := Lib.hid hx
        clear hx ok1
        rw [← HF8.out, ← HX8.out] at HTR
        obtain rfl : F8 = 0 := HTR.out.1
        have hx8 := HTR.out.2
        clear HF8 HX8 HTR
        rw [hl.out] at hx8
        obtain rfl : xn8 = (n : Int) := congrArg Cl.no hx8
        have hlx : lx8 = (lastV vs).week := congrArg Cl.week hx8
        clear hx8
        have HLX8 := Lib.hid hlx
        clear hlx
        obtain ⟨V8, hV⟩ : ∃ V8, V8 = w8.alloc (.cells #[.int .i64 (n : Int), .slice A8 nx8 k8] 27) := ⟨_, rfl⟩
        have bx8 := blk_new hV
        have hb := below_new hV
        replace h := (h.below hb).more hb.size
        replace hp := (hp.below hb).more hb.size
        replace bf := blk_below bf hb
        replace q5 := (q5.below hb).more hb.size
        replace r5 := (r5.below hb).more hb.size
        replace bm5 := blk_below bm5 hb
        replace q6 := (q6.below hb).more hb.size
        replace r6 := (r6.below hb).more hb.size
        replace bm6 := blk_below bm6 hb
        replace q7 := (q7.below hb).more hb.size
        replace bx7 := blk_below bx7 hb
        replace q8 := (q8.below hb).more hb.size
        replace hbt := hbt.trans (hb.mono hbt.size)
        clear hb
        have HSV8 : Hid (V8.heap.size = w8.heap.size + 1) := by show V8.heap.size = _; rw [hV, World.size_alloc]
        have HVV8 := Lib.hid hV.symm
        clear hV
        have cbx70 := cell_of_row V8 w7.heap.size 0 _ _ _ bx7
        simp only [List.getElem?_toArray, List.getElem?_cons_zero, List.getElem?_cons_succ] at cbx70
        have cbx71 := cell_of_row V8 w7.heap.size 1 _ _ _ bx7
        simp only [List.getElem?_toArray, List.getElem?_cons_zero, List.getElem?_cons_succ] at cbx71
        have cbx80 := cell_of_row V8 w8.heap.size 0 _ _ _ bx8
        simp only [List.getElem?_toArray, List.getElem?_cons_zero, List.getElem?_cons_succ] at cbx80
        have cbx81 := cell_of_row V8 w8.heap.size 1 _ _ _ bx8
        simp only [List.getElem?_toArray, List.getElem?_cons_zero, List.getElem?_cons_succ] at cbx81
        rw [← HVV8.out] at cbx70 cbx71 cbx80 cbx81
        go_wp2_with fail
        rw [HVV8.out]
        clear HVV8
        clear cbx70 cbx71 cbx80 cbx81
        refine (clients_any _ _ _ _ _ _ _ _ lx7 lx8 V8 q7 q8).mono ?_
        rintro e w9 ⟨rfl, hb⟩
        rw [decide_eq_true (show _ ∧ _ from ⟨rfl, HLX7.out.trans HLX8.out.symm⟩)]
        replace h := (h.below hb).more hb.size
        replace hp := (hp.below hb).more hb.size
        replace bf := blk_below bf hb
        replace q5 := (q5.below hb).more hb.size
        replace r5 := (r5.below hb).more hb.size
        replace bm5 := blk_below bm5 hb
        replace q6 := (q6.below hb).more hb.size
        replace r6 := (r6.below hb).more hb.size
        replace bm6 := blk_below bm6 hb
        replace q7 := (q7.below hb).more hb.size
        replace bx7 := blk_below bx7 hb
        replace q8 := (q8.below hb).more hb.size
        replace bx8 := blk_below bx8 hb
        replace hbt := hbt.trans (hb.mono hbt.size)
        clear hb
        obtain ⟨t, ht⟩ : ∃ t, t + 1 = n := ⟨n - 1, by omega⟩
        have htn : t < n := by omega
        have htl : t < vs.length := by rw [hl.out]; omega
        obtain ⟨ad2, At, ct, hAt, hab2, e1, e2, e3, e4, hpt, _, _⟩ := h.at_ htn htl
        injection hAt with hAt
        subst hAt
        have HLT : Hid ((lastV vs).week = vs[t].week) := by show (lastV vs).week = _; rw [lastV_eq (by omega)]; simp only [hl.out, show n - 1 = t by omega]
        clear e1 e3 e4
        have hlt := HV2.out _ (List.getElem_mem htl)
        generalize vs[t] = vt at *
        obtain ⟨tno, lt, tc, tb⟩ := vt
        dsimp only at *
        obtain ⟨nt, hnt⟩ : ∃ z, z = lt.length := ⟨_, rfl⟩
        rw [← hnt] at hpt e2 hlt
        have HNT := Lib.hid hnt
        clear hnt
        have z3 := hpt.le
        have z4 := hpt.max
        have HT := Lib.hid ht
        clear ht
        have kt : (n : Int) - 1 = (t : Int) := by have := HT.out; omega
        have kt2 : (t : Int) < (n : Int) := by omega
        obtain ⟨V9, hV⟩ : ∃ V9, V9 = w9.alloc (.cells #[.slice At nt ct] 25) := ⟨_, rfl⟩
        have bl := blk_new hV
        have hb := below_new hV
        replace h := (h.below hb).more hb.size
        replace hp := (hp.below hb).more hb.size
        replace bf := blk_below bf hb
        replace q5 := (q5.below hb).more hb.size
        replace r5 := (r5.below hb).more hb.size
        replace bm5 := blk_below bm5 hb
        replace q6 := (q6.below hb).more hb.size
        replace r6 := (r6.below hb).more hb.size
        replace bm6 := blk_below bm6 hb
        replace q7 := (q7.below hb).more hb.size
        replace bx7 := blk_below bx7 hb
        replace q8 := (q8.below hb).more hb.size
        replace bx8 := blk_below bx8 hb
        replace hpt := (hpt.below hb).more hb.size
        replace hbt := hbt.trans (hb.mono hbt.size)
        clear hb
        have HSV9 : Hid (V9.heap.size = w9.heap.size + 1) := by show V9.heap.size = _; rw [hV, World.size_alloc]
        have HVV9 := Lib.hid hV.symm
        clear hV
        have HIW := HIS5.out
        unfold IsReply at HIW
        dsimp only at HIW
        obtain ⟨_, _, hkind⟩ := HIW
        rw [← HW.out (by omega), HLT.out, ← HNK.out, ← HNT.out] at hkind
        clear HIS5 HIS6 HW
        by_cases hs : nk = nt
        · subst hs
          obtain ⟨rfl, hf, hmv⟩ : m05 = 2 ∧ m25 = (k : Int) + 1 ∧ lm5 = diffL lk lt := by
            rcases hkind with hkk | hkk
            · exact ⟨hkk.1, hkk.2.1, hkk.2.2.2.2.2⟩
            · exact absurd rfl (hkk.2.2.2.2 (by omega))
          subst hf
          have HMV := Lib.hid hmv
          clear hmv hkind
          have ds : ((nk : Int) != (nk : Int)) = false := by simp
          have cbf0 := cell_of_row V9 w3.heap.size 0 _ _ _ bf
          simp only [List.getElem?_toArray, List.getElem?_cons_zero, List.getElem?_cons_succ] at cbf0
          have cbl0 := cell_of_row V9 w9.heap.size 0 _ _ _ bl
          simp only [List.getElem?_toArray, List.getElem?_cons_zero, List.getElem?_cons_succ] at cbl0
          rw [← HVV9.out] at cbf0 cbl0
          go_wp2_with fail
          rw [HVV9.out]
          clear HVV9
          clear cbf0 cbl0
          clear e2
          refine (diff_any _ _ _ _ _ _ lk lt V9 hp hpt (by omega)).mono ?_
          rintro e w10 ⟨v, rfl, ho, hb⟩
          have hde : diffE lk lt = 0 := diffE_zero.2 (by rw [← HNK.out, ← HNT.out])
          rw [hde]
          clear hde
          have okd := okMs_diffL (a := lk) hpt.2 (by rw [← HNT.out]; omega)
          obtain ⟨A10, k10, rfl, q10⟩ := own_rdM ho okd
          clear ho okd
          replace h := (h.below hb).more hb.size
          replace hp := (hp.below hb).more hb.size
          replace bf := blk_below bf hb
          replace q5 := (q5.below hb).more hb.size
          replace r5 := (r5.below hb).more hb.size
          replace bm5 := blk_below bm5 hb
          replace q6 := (q6.below hb).more hb.size
          replace r6 := (r6.below hb).more hb.size
          replace bm6 := blk_below bm6 hb
          replace q7 := (q7.below hb).more hb.size
          replace bx7 := blk_below bx7 hb
          replace q8 := (q8.below hb).more hb.size
          replace bx8 := blk_below bx8 hb
          replace hpt := (hpt.below hb).more hb.size
          replace bl := blk_below bl hb
          replace hbt := hbt.trans (hb.mono hbt.size)
          clear hb
          generalize diffL lk lt = dl at *
          have cbm50 := cell_of_row w10 w5.heap.size 0 _ _ _ bm5
          simp only [List.getElem?_toArray, List.getElem?_cons_zero, List.getElem?_cons_succ] at cbm50
          have cbm51 := cell_of_row w10 w5.heap.size 1 _ _ _ bm5
          simp only [List.getElem?_toArray, List.getElem?_cons_zero, List.getElem?_cons_succ] at cbm51
          have cbm52 := cell_of_row w10 w5.heap.size 2 _ _ _ bm5
          simp only [List.getElem?_toArray, List.getElem?_cons_zero, List.getElem?_cons_succ] at cbm52
          have cbm53 := cell_of_row w10 w5.heap.size 3 _ _ _ bm5
          simp only [List.getElem?_toArray, List.getElem?_cons_zero, List.getElem?_cons_succ] at cbm53
          have cbm54 := cell_of_row w10 w5.heap.size 4 _ _ _ bm5
          simp only [List.getElem?_toArray, List.getElem?_cons_zero, List.getElem?_cons_succ] at cbm54
          have cbm55 := cell_of_row w10 w5.heap.size 5 _ _ _ bm5
          simp only [List.getElem?_toArray, List.getElem?_cons_zero, List.getElem?_cons_succ] at cbm55
          go_wp2_with fail
          clear cbm50 cbm51 cbm52 cbm53 cbm54 cbm55
          refine (moves_any _ _ _ _ _ _ lm5 dl w10 r5 q10).mono ?_
          rintro e w11 ⟨rfl, q, rfl⟩
          rw [decide_eq_true HMV.out]
          go_wp2_with fail
          go_ret
          exact ⟨rfl, below_drewN' hbt _⟩
        · obtain rfl : m05 = 1 := by
            rcases hkind with hkk | hkk
            · exact absurd hkk.2.2.2.2.1 hs
            · exact hkk.1
          clear hkind
          have ds : ((nk : Int) != (nt : Int)) = true := by simp; omega
          have cbf0 := cell_of_row V9 w3.heap.size 0 _ _ _ bf
          simp only [List.getElem?_toArray, List.getElem?_cons_zero, List.getElem?_cons_succ] at cbf0
          have cbl0 := cell_of_row V9 w9.heap.size 0 _ _ _ bl
          simp only [List.getElem?_toArray, List.getElem?_cons_zero, List.getElem?_cons_succ] at cbl0
          have cbm50 := cell_of_row V9 w5.heap.size 0 _ _ _ bm5
          simp only [List.getElem?_toArray, List.getElem?_cons_zero, List.getElem?_cons_succ] at cbm50
          have cbm51 := cell_of_row V9 w5.heap.size 1 _ _ _ bm5
          simp only [List.getElem?_toArray, List.getElem?_cons_zero, List.getElem?_cons_succ] at cbm51
          have cbm52 := cell_of_row V9 w5.heap.size 2 _ _ _ bm5
          simp only [List.getElem?_toArray, List.getElem?_cons_zero, List.getElem?_cons_succ] at cbm52
          have cbm53 := cell_of_row V9 w5.heap.size 3 _ _ _ bm5
          simp only [List.getElem?_toArray, List.getElem?_cons_zero, List.getElem?_cons_succ] at cbm53
          have cbm54 := cell_of_row V9 w5.heap.size 4 _ _ _ bm5
          simp only [List.getElem?_toArray, List.getElem?_cons_zero, List.getElem?_cons_succ] at cbm54
          have cbm55 := cell_of_row V9 w5.heap.size 5 _ _ _ bm5
          simp only [List.getElem?_toArray, List.getElem?_cons_zero, List.getElem?_cons_succ] at cbm55
          rw [← HVV9.out] at cbf0 cbl0 cbm50 cbm51 cbm52 cbm53 cbm54 cbm55
          go_wp2_with fail
          rw [HVV9.out]
          clear HVV9
          clear cbf0 cbl0 cbm50 cbm51 cbm52 cbm53 cbm54 cbm55
          go_ret
          exact ⟨rfl, hbt⟩
      · have d2 : decide ((n : Int) < 2) = true := by simp; omega
        go_wp2_with fail
        go_ret
        exact ⟨rfl, hbt⟩
    · rw [show errB (checkB vs) = 1 by rw [Bool.not_eq_true] at hck; rw [hck]; rfl]
      go_wp2_with fail
      go_ret
      exact ⟨rfl, hbt⟩
end Go.Proofs.Ytmighpfjjaaknaa
