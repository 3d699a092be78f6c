/-
  FeedNewest, walked.
-/
import Derived.Test.YtmighpfjjaaknaaPlain
import Derived.Test.YtmighpfjjaaknaaArgs
namespace Go.Proofs.Ytmighpfjjaaknaa
open Go.RowKit
set_option linter.unusedVariables false
set_option linter.unusedSimpArgs false

set_option maxRecDepth 20000 in
set_option maxHeartbeats 2000000 in
theorem feedNewest_any (A : Option Addr) (n c : Nat) (vs : List Ver) (x y : Nat) (w : World) (h : RdV w w.heap.size A n c vs) (hx : x ≤ 255) (hy : y ≤ 255) :
    Calls Try.prog 6 #[.slice A n c, .int .u8 x, .int .u8 y] w fun e w' => e = .returned (.bool true) ∧ Below w.heap.size w w' := by
  have n1 := h.max
  have n2 := h.le
  have hl := Lib.hid h.len
  have hbt := Below.refl w.heap.size w
  go_enter Try.func6, Try.ntmps6
  go_wp2_with fail
  refine (live_any w).mono ?_
  rintro e w1 ⟨rfl, hb⟩
  replace h := (h.below hb).more hb.size
  replace hbt := hbt.trans (hb.mono hbt.size)
  clear hb
  go_wp2_with fail
  refine (few_any A n c vs w1 h).mono ?_
  rintro e w2 ⟨r, rfl, hfew, rfl⟩
  cases r
  · clear hfew
    go_wp2_with fail
    go_ret
    exact ⟨rfl, hbt⟩
  · obtain ⟨hv1, hv2⟩ := hfew rfl
    rw [hl.out] at hv1
    have HV2 := Lib.hid hv2
    have HOK := Lib.hid h.okWeeks
    have HM := fun (no to : Int) => replyM_ok (no := no) (to := to) h.okWeeks hv2
    replace HM := Lib.hid HM
    clear hv2 hfew
    go_wp2_with fail
    refine (check_any A n c vs w1 h).mono ?_
    rintro e w3 ⟨rfl, hb⟩
    replace h := (h.below hb).more hb.size
    replace hbt := hbt.trans (hb.mono hbt.size)
    clear hb
    by_cases hck : checkB vs = true
    · rw [show errB (checkB vs) = 0 by rw [hck]; rfl]
      have HC := Lib.hid hck
      clear hck
      obtain ⟨q, hq, hq1, hq2⟩ : ∃ q : Int, (x : Int) % ((n : Int) + 1) = q ∧ 0 ≤ q ∧ q ≤ n := by
        have e1 := Int.emod_nonneg (x : Int) (show ((n : Int) + 1) ≠ 0 by omega)
        have e2 := Int.emod_lt_of_pos (x : Int) (show 0 < ((n : Int) + 1) by omega)
        exact ⟨_, rfl, e1, by omega⟩
      by_cases hpos : 0 < q
      · obtain ⟨k, rfl⟩ : ∃ k : Nat, q = (k : Int) + 1 := ⟨(q - 1).toNat, by omega⟩
        have hkn : k < n := by omega
        have hkl : k < vs.length := by rw [hl.out]; exact hkn
        obtain ⟨ad, Aq, cq, rfl, hab, c1, c2, c3, c4, hp, _, _⟩ := h.at_ hkn hkl
        clear c1 c3 c4
        have HW : Hid (0 < (k : Int) + 1 → vs[k].week = (vs.getD (((k : Int) + 1).toNat - 1) zeroV).week) := fun _ => by rw [show ((k : Int) + 1).toNat - 1 = k by omega, List.getD_eq_getElem?_getD, List.getElem?_eq_getElem hkl]; rfl
        have hlk := HV2.out _ (List.getElem_mem hkl)
        generalize vs[k] = vk at *
        obtain ⟨vno, lk, vc, vb⟩ := vk
        dsimp only at *
        obtain ⟨nk, hnk⟩ : ∃ z, z = lk.length := ⟨_, rfl⟩
        rw [← hnk] at hp c2 hlk
        clear hnk
        have z1 := hp.le
        have z2 := hp.max
        have dp : decide ((0 : Int) < (k : Int) + 1) = true := decide_eq_true (by omega)
        have c2' := (World.cell?_alloc_lt w3 (.cells #[.int .i64 ((k : Int) + 1), .slice none 0 0] 27) ⟨(ad.add (k * 4)).block, (ad.add (k * 4)).off + 1, none⟩ (by first | (dsimp only; rw [add_block]; exact hab) | (rw [add_block]; exact hab))).trans c2
        clear c2
        obtain ⟨V5, hV⟩ : ∃ V5, V5 = w3.alloc (.cells #[.int .i64 ((k : Int) + 1), .slice Aq nk cq] 27) := ⟨_, rfl⟩
        have bc := blk_new hV
        have hb := below_new hV
        replace h := (h.below hb).more hb.size
        replace hp := (hp.below hb).more hb.size
        replace hbt := hbt.trans (hb.mono hbt.size)
        clear hb
        have HSV5 : Hid (V5.heap.size = w3.heap.size + 1) := by show V5.heap.size = _; rw [hV, World.size_alloc]
        have HVV5 := Lib.hid hV.symm
        clear hV
        have HY : Hid (∃ z : Int, (y : Int) % 8 = z ∧ 0 ≤ z ∧ z ≤ 7) := ⟨_, rfl, by omega, by omega⟩
        obtain ⟨z, hz, hz1, hz2⟩ := HY.out
        clear HY
        have cbc0 := cell_of_row V5 w3.heap.size 0 _ _ _ bc
        simp only [List.getElem?_toArray, List.getElem?_cons_zero, List.getElem?_cons_succ] at cbc0
        have cbc1 := cell_of_row V5 w3.heap.size 1 _ _ _ bc
        simp only [List.getElem?_toArray, List.getElem?_cons_zero, List.getElem?_cons_succ] at cbc1
        rw [← HVV5.out] at cbc0 cbc1
        go_wp2_with fail
        rw [HVV5.out]
        clear HVV5
        clear cbc0 cbc1
        first | rw [hz] | skip
        clear hz hq
        clear c2'
        refine (wish_any ((k : Int) + 1) _ z V5).mono ?_
        rintro e w6 ⟨rfl, hb⟩
        replace h := (h.below hb).more hb.size
        replace hp := (hp.below hb).more hb.size
        replace bc := blk_below bc hb
        replace hbt := hbt.trans (hb.mono hbt.size)
        clear hb
        obtain ⟨V6, hV⟩ : ∃ V6, V6 = w6.alloc (.cells #[.int .i64 3, .int .i64 z, .int .i64 0, .int .i64 (((k : Int) + 1)), .slice none 0 0, .slice none 0 0] 32) := ⟨_, rfl⟩
        have bw := blk_new hV
        have hb := below_new hV
        replace h := (h.below hb).more hb.size
        replace hp := (hp.below hb).more hb.size
        replace bc := blk_below bc hb
        replace hbt := hbt.trans (hb.mono hbt.size)
        clear hb
        have HSV6 : Hid (V6.heap.size = w6.heap.size + 1) := by show V6.heap.size = _; rw [hV, World.size_alloc]
        have HVV6 := Lib.hid hV.symm
        clear hV
        have cbw0 := cell_of_row V6 w6.heap.size 0 _ _ _ bw
        simp only [List.getElem?_toArray, List.getElem?_cons_zero, List.getElem?_cons_succ] at cbw0
        have cbw1 := cell_of_row V6 w6.heap.size 1 _ _ _ bw
        simp only [List.getElem?_toArray, List.getElem?_cons_zero, List.getElem?_cons_succ] at cbw1
        have cbw2 := cell_of_row V6 w6.heap.size 2 _ _ _ bw
        simp only [List.getElem?_toArray, List.getElem?_cons_zero, List.getElem?_cons_succ] at cbw2
        have cbw3 := cell_of_row V6 w6.heap.size 3 _ _ _ bw
        simp only [List.getElem?_toArray, List.getElem?_cons_zero, List.getElem?_cons_succ] at cbw3
        have cbw4 := cell_of_row V6 w6.heap.size 4 _ _ _ bw
        simp only [List.getElem?_toArray, List.getElem?_cons_zero, List.getElem?_cons_succ] at cbw4
        have cbw5 := cell_of_row V6 w6.heap.size 5 _ _ _ bw
        simp only [List.getElem?_toArray, List.getElem?_cons_zero, List.getElem?_cons_succ] at cbw5
        rw [← HVV6.out] at cbw0 cbw1 cbw2 cbw3 cbw4 cbw5
        go_wp2_with fail
        rw [HVV6.out]
        clear HVV6
        clear cbw0 cbw1 cbw2 cbw3 cbw4 cbw5
        by_cases hnew : ((k : Int) + 1) = (n : Int)
        · have HEQ := Lib.hid (replyE_old (vs := vs) (no := ((k : Int) + 1)) (to := z) HC.out (by omega) (by rw [hl.out]; omega) (by omega) ⟨hz1, hz2⟩)
          refine (reply_any _ n c vs ((k : Int) + 1) z V6 h (by omega) (fun v hv => Nat.le_trans (HV2.out v hv) (by omega))).mono ?_
          rintro e w7 ⟨v, u, rfl, ho, hp, hb⟩
          obtain ⟨ok1, ok2, ok3⟩ := HM.out (((k : Int) + 1)) (z)
          have HE7 : Hid (∃ x, x = replyE vs (((k : Int) + 1)) (z)) := ⟨_, rfl⟩
          obtain ⟨E, hE7⟩ := HE7.out
          have HM7 : Hid (∃ x, x = replyM vs (((k : Int) + 1)) (z)) := ⟨_, rfl⟩
          obtain ⟨M, hM7⟩ := HM7.out
          rw [← hM7] at ho hp ok1 ok2 ok3 ⊢
          rw [← hE7]
          clear HE7 HM7
          have HE7 := Lib.hid hE7
          have HM7 := Lib.hid hM7
          clear hE7 hM7
          obtain ⟨m07, m17, m27, m37, lw7, lm7⟩ := M
          dsimp only at ho hp ok1 ok2 ok3 ⊢
          obtain ⟨A7, k7, rfl, q7⟩ := own_rdP ho ok1
          obtain ⟨P7, j7, rfl, r7⟩ := own_rdM hp ok2
          clear ho hp
          replace h := (h.below hb).more hb.size
          replace hp := (hp.below hb).more hb.size
          replace bc := blk_below bc hb
          replace bw := blk_below bw hb
          replace hbt := hbt.trans (hb.mono hbt.size)
          clear hb
          have z17 := q7.le
          have z27 := q7.max
          have z37 := r7.le
          have z47 := r7.max
          obtain ⟨nw7, hx⟩ : ∃ x, x = lw7.length := ⟨_, rfl⟩
          rw [← hx] at q7 z17 ok3 ⊢
          have Hnw7 := Lib.hid hx
          clear hx
          obtain ⟨nm7, hx⟩ : ∃ x, x = lm7.length := ⟨_, rfl⟩
          rw [← hx] at r7 z37 ⊢
          have Hnm7 := Lib.hid hx
          clear hx
          clear ok1 ok2
          rw [← HE7.out] at HEQ
          obtain rfl : E = 341 := HEQ.out
          clear HE7 HM7 HEQ HM HC
          obtain ⟨V7, hV⟩ : ∃ V7, V7 = w7.alloc (.cells #[.int .i64 m07, .int .i64 m17, .int .i64 m27, .int .i64 m37, .slice A7 nw7 k7, .slice P7 nm7 j7] 32) := ⟨_, rfl⟩
          have bm := blk_new hV
          have hb := below_new hV
          replace h := (h.below hb).more hb.size
          replace hp := (hp.below hb).more hb.size
          replace bc := blk_below bc hb
          replace bw := blk_below bw hb
          replace q7 := (q7.below hb).more hb.size
          replace r7 := (r7.below hb).more hb.size
          replace hbt := hbt.trans (hb.mono hbt.size)
          clear hb
          have HSV7 : Hid (V7.heap.size = w7.heap.size + 1) := by show V7.heap.size = _; rw [hV, World.size_alloc]
          have HVV7 := Lib.hid hV.symm
          clear hV
          have d8 : ((((k : Int) + 1)) == (n : Int)) = true := by simp; omega
          have cbc0 := cell_of_row V7 w3.heap.size 0 _ _ _ bc
          simp only [List.getElem?_toArray, List.getElem?_cons_zero, List.getElem?_cons_succ] at cbc0
          have cbc1 := cell_of_row V7 w3.heap.size 1 _ _ _ bc
          simp only [List.getElem?_toArray, List.getElem?_cons_zero, List.getElem?_cons_succ] at cbc1
          rw [← HVV7.out] at cbc0 cbc1
          go_wp2_with fail
          rw [HVV7.out]
          clear HVV7
          clear cbc0 cbc1
          go_ret
          exact ⟨rfl, hbt⟩
        · have HEQ := Lib.hid (replyE_ok (vs := vs) (no := ((k : Int) + 1)) (to := z) HC.out (by omega) (by rw [hl.out]; omega) (by omega) ⟨hz1, hz2⟩)
          have HIS := Lib.hid (replyM_is (vs := vs) (no := ((k : Int) + 1)) (to := z) HC.out (by rw [hl.out]; omega) HEQ.out)
          refine (reply_any _ n c vs ((k : Int) + 1) z V6 h (by omega) (fun v hv => Nat.le_trans (HV2.out v hv) (by omega))).mono ?_
          rintro e w7 ⟨v, u, rfl, ho, hp, hb⟩
          obtain ⟨ok1, ok2, ok3⟩ := HM.out (((k : Int) + 1)) (z)
          have HE7 : Hid (∃ x, x = replyE vs (((k : Int) + 1)) (z)) := ⟨_, rfl⟩
          obtain ⟨E, hE7⟩ := HE7.out
          have HM7 : Hid (∃ x, x = replyM vs (((k : Int) + 1)) (z)) := ⟨_, rfl⟩
          obtain ⟨M, hM7⟩ := HM7.out
          rw [← hM7] at ho hp ok1 ok2 ok3 ⊢
          rw [← hE7]
          clear HE7 HM7
          have HE7 := Lib.hid hE7
          have HM7 := Lib.hid hM7
          clear hE7 hM7
          obtain ⟨m07, m17, m27, m37, lw7, lm7⟩ := M
          dsimp only at ho hp ok1 ok2 ok3 ⊢
          obtain ⟨A7, k7, rfl, q7⟩ := own_rdP ho ok1
          obtain ⟨P7, j7, rfl, r7⟩ := own_rdM hp ok2
          clear ho hp
          replace h := (h.below hb).more hb.size
          replace hp := (hp.below hb).more hb.size
          replace bc := blk_below bc hb
          replace bw := blk_below bw hb
          replace hbt := hbt.trans (hb.mono hbt.size)
          clear hb
          have z17 := q7.le
          have z27 := q7.max
          have z37 := r7.le
          have z47 := r7.max
          obtain ⟨nw7, hx⟩ : ∃ x, x = lw7.length := ⟨_, rfl⟩
          rw [← hx] at q7 z17 ok3 ⊢
          have Hnw7 := Lib.hid hx
          clear hx
          obtain ⟨nm7, hx⟩ : ∃ x, x = lm7.length := ⟨_, rfl⟩
          rw [← hx] at r7 z37 ⊢
          have Hnm7 := Lib.hid hx
          clear hx
          clear ok1 ok2
          rw [← HE7.out] at HEQ
          obtain rfl : E = 0 := HEQ.out
          rw [← HM7.out] at HIS
          clear HE7 HM7 HEQ HM HC
          have HTR := Lib.hid (take_reply (l := lk) HIS.out (by omega) (by rw [hl.out]; omega) (by rw [hl.out]; omega) (HW.out))
          obtain rfl : m17 = z := HIS.out.1
          clear HIS
          obtain ⟨V7, hV⟩ : ∃ V7, V7 = w7.alloc (.cells #[.int .i64 m07, .int .i64 m17, .int .i64 m27, .int .i64 m37, .slice A7 nw7 k7, .slice P7 nm7 j7] 32) := ⟨_, rfl⟩
          have bm := blk_new hV
          have hb := below_new hV
          replace h := (h.below hb).more hb.size
          replace hp := (hp.below hb).more hb.size
          replace bc := blk_below bc hb
          replace bw := blk_below bw hb
          replace q7 := (q7.below hb).more hb.size
          replace r7 := (r7.below hb).more hb.size
          replace hbt := hbt.trans (hb.mono hbt.size)
          clear hb
          have HSV7 : Hid (V7.heap.size = w7.heap.size + 1) := by show V7.heap.size = _; rw [hV, World.size_alloc]
          have HVV7 := Lib.hid hV.symm
          clear hV
          have d8 : ((((k : Int) + 1)) == (n : Int)) = false := by simp; omega
          have cbc0 := cell_of_row V7 w3.heap.size 0 _ _ _ bc
          simp only [List.getElem?_toArray, List.getElem?_cons_zero, List.getElem?_cons_succ] at cbc0
          have cbc1 := cell_of_row V7 w3.heap.size 1 _ _ _ bc
          simp only [List.getElem?_toArray, List.getElem?_cons_zero, List.getElem?_cons_succ] at cbc1
          have cbm0 := cell_of_row V7 w7.heap.size 0 _ _ _ bm
          simp only [List.getElem?_toArray, List.getElem?_cons_zero, List.getElem?_cons_succ] at cbm0
          have cbm1 := cell_of_row V7 w7.heap.size 1 _ _ _ bm
          simp only [List.getElem?_toArray, List.getElem?_cons_zero, List.getElem?_cons_succ] at cbm1
          have cbm2 := cell_of_row V7 w7.heap.size 2 _ _ _ bm
          simp only [List.getElem?_toArray, List.getElem?_cons_zero, List.getElem?_cons_succ] at cbm2
          have cbm3 := cell_of_row V7 w7.heap.size 3 _ _ _ bm
          simp only [List.getElem?_toArray, List.getElem?_cons_zero, List.getElem?_cons_succ] at cbm3
          have cbm4 := cell_of_row V7 w7.heap.size 4 _ _ _ bm
          simp only [List.getElem?_toArray, List.getElem?_cons_zero, List.getElem?_cons_succ] at cbm4
          have cbm5 := cell_of_row V7 w7.heap.size 5 _ _ _ bm
          simp only [List.getElem?_toArray, List.getElem?_cons_zero, List.getElem?_cons_succ] at cbm5
          rw [← HVV7.out] at cbc0 cbc1 cbm0 cbm1 cbm2 cbm3 cbm4 cbm5
          go_wp2_with fail
          rw [HVV7.out]
          clear HVV7
          clear cbc0 cbc1 cbm0 cbm1 cbm2 cbm3 cbm4 cbm5
          refine (take_any m07 m17 m27 m37 ((k : Int) + 1) _ _ _ _ _ _ _ _ _ lk lw7 lm7 V7 hp q7 r7 (by omega) (by omega)).mono ?_
          rintro e w8 ⟨v, rfl, ho, hb⟩
          have ok1 := takeC_ok (c := ⟨((k : Int) + 1), lk⟩) (m := ⟨m07, m17, m27, m37, lw7, lm7⟩) (hp).2 (q7).2 (r7).2
          have HF8 : Hid (∃ x, x = takeE ⟨((k : Int) + 1), lk⟩ ⟨m07, m17, m27, m37, lw7, lm7⟩) := ⟨_, rfl⟩
          obtain ⟨F8, hF8⟩ := HF8.out
          have HX8 : Hid (∃ x, x = takeC ⟨((k : Int) + 1), lk⟩ ⟨m07, m17, m27, m37, lw7, lm7⟩) := ⟨_, rfl⟩
          obtain ⟨X8, hX8⟩ := HX8.out
          rw [← hX8] at ho ok1 ⊢
          rw [← hF8]
          clear HF8 HX8
          have HF8 := Lib.hid hF8
          have HX8 := Lib.hid hX8
          clear hF8 hX8
          obtain ⟨xn8, lx8⟩ := X8
          dsimp only at ho ok1 ⊢
          obtain ⟨A8, k8, rfl, q8⟩ := own_rdP ho ok1
          clear ho
          replace h := (h.below hb).more hb.size
          replace hp := (hp.below hb).more hb.size
          replace bc := blk_below bc hb
          replace bw := blk_below bw hb
          replace q7 := (q7.below hb).more hb.size
          replace r7 := (r7.below hb).more hb.size
          replace bm := blk_below bm hb
          replace hbt := hbt.trans (hb.mono hbt.size)
          clear hb
          have z18 := q8.le
          have z28 := q8.max
          obtain ⟨nx8, hx⟩ : ∃ x, x = lx8.length := ⟨_, rfl⟩
          rw [← hx] at q8 z18 ⊢
          have Hnx8 := Lib.hid hx
          clear hx ok1
          rw [← HF8.out, ← HX8.out] at HTR
          obtain rfl : F8 = 0 := HTR.out.1
          have hx8 := HTR.out.2
          clear HF8 HX8 HTR
          rw [hl.out] at hx8
          obtain rfl : xn8 = (n : Int) := congrArg Cl.no hx8
          have hlx : lx8 = (lastV vs).week := congrArg Cl.week hx8
          clear hx8
          have HLX := Lib.hid hlx
          clear hlx
          obtain ⟨V8, hV⟩ : ∃ V8, V8 = w8.alloc (.cells #[.int .i64 (n : Int), .slice A8 nx8 k8] 27) := ⟨_, rfl⟩
          have bx := blk_new hV
          have hb := below_new hV
          replace h := (h.below hb).more hb.size
          replace hp := (hp.below hb).more hb.size
          replace bc := blk_below bc hb
          replace bw := blk_below bw hb
          replace q7 := (q7.below hb).more hb.size
          replace r7 := (r7.below hb).more hb.size
          replace bm := blk_below bm hb
          replace q8 := (q8.below hb).more hb.size
          replace hbt := hbt.trans (hb.mono hbt.size)
          clear hb
          have HSV8 : Hid (V8.heap.size = w8.heap.size + 1) := by show V8.heap.size = _; rw [hV, World.size_alloc]
          have HVV8 := Lib.hid hV.symm
          clear hV
          obtain ⟨t, ht⟩ : ∃ t, t + 1 = n := ⟨n - 1, by omega⟩
          have htn : t < n := by omega
          have htl : t < vs.length := by rw [hl.out]; omega
          obtain ⟨ad2, At, ct, hAt, hab2, e1, e2, e3, e4, hpt, _, _⟩ := h.at_ htn htl
          injection hAt with hAt
          subst hAt
          have HLT : Hid ((lastV vs).week = vs[t].week) := by show (lastV vs).week = _; rw [lastV_eq (by omega)]; simp only [hl.out, show n - 1 = t by omega]
          clear e1 e3 e4
          have x2 : ∀ x : Ext V8.heap.size V8, x.val.cell? ⟨(ad.add (t * 4)).block, (ad.add (t * 4)).off + 1, none⟩ = some (.slice At vs[t].week.length ct) := fun x => (x.ok.cell (p := ⟨(ad.add (t * 4)).block, (ad.add (t * 4)).off + 1, none⟩) (by dsimp only; rw [add_block]; exact hab2)).trans e2
          have cbx0 := cell_of_row V8 w8.heap.size 0 _ _ _ bx
          simp only [List.getElem?_toArray, List.getElem?_cons_zero, List.getElem?_cons_succ] at cbx0
          have ybx0 := fun x : Ext V8.heap.size V8 => (x.ok.cell (p := ⟨w8.heap.size, 0, none⟩) (Array.getElem?_eq_some_iff.1 bx).1).trans cbx0
          clear cbx0
          have cbx1 := cell_of_row V8 w8.heap.size 1 _ _ _ bx
          simp only [List.getElem?_toArray, List.getElem?_cons_zero, List.getElem?_cons_succ] at cbx1
          have ybx1 := fun x : Ext V8.heap.size V8 => (x.ok.cell (p := ⟨w8.heap.size, 1, none⟩) (Array.getElem?_eq_some_iff.1 bx).1).trans cbx1
          clear cbx1
          have cbm1 := cell_of_row V8 w7.heap.size 1 _ _ _ bm
          simp only [List.getElem?_toArray, List.getElem?_cons_zero, List.getElem?_cons_succ] at cbm1
          have ybm1 := fun x : Ext V8.heap.size V8 => (x.ok.cell (p := ⟨w7.heap.size, 1, none⟩) (Array.getElem?_eq_some_iff.1 bm).1).trans cbm1
          clear cbm1
          have cbw1 := cell_of_row V8 w6.heap.size 1 _ _ _ bw
          simp only [List.getElem?_toArray, List.getElem?_cons_zero, List.getElem?_cons_succ] at cbw1
          have ybw1 := fun x : Ext V8.heap.size V8 => (x.ok.cell (p := ⟨w6.heap.size, 1, none⟩) (Array.getElem?_eq_some_iff.1 bw).1).trans cbw1
          clear cbw1
          go_wp2_with fail
          rw [HVV8.out]
          clear HVV8
          have kw : IntKind.i64.wrap ((n : Int) - 1) = (t : Int) := (IntWalk.i64_in _ (by omega)).trans (by omega)
          have kw2 : (t : Int) < (n : Int) := by omega
          have kw3 : 0 ≤ (t : Int) := by omega
          have HT := Lib.hid ht
          clear ht
          generalize vs[t] = vt at *
          refine wp_region_ext V8.heap.size (by kernel_rfl) (by kernel_rfl) ?_
          repeat (go_big_quiet_step (first | (go_at_call 23; (with_reducible refine ext_call (Nat.le_refl _) (clients_any _ _ _ _ _ _ _ _ lx8 vt.week _ (q8.ext _) (hpt.ext _))))))
          refine wpQuiet_nil ?_
          rintro _ ⟨⟨W, hW⟩, rfl⟩
          have hBB := hbt.trans (hW.mono hbt.size)
          clear ybx0 ybx1 ybm1 ybw1 x2
          go_wp2
          go_ret
          refine ⟨ret_bool ?_, hBB⟩
          first | exact decide_eq_true (HLX.out.trans HLT.out) | exact decide_eq_true ⟨rfl, HLX.out.trans HLT.out⟩
      · obtain rfl : q = 0 := by omega
        have dp : decide ((0 : Int) < 0) = false := decide_eq_false (by omega)
        obtain ⟨V5, hV⟩ : ∃ V5, V5 = w3.alloc (.cells #[.int .i64 0, .slice none 0 0] 27) := ⟨_, rfl⟩
        have bc := blk_new hV
        have hb := below_new hV
        replace h := (h.below hb).more hb.size
        replace hbt := hbt.trans (hb.mono hbt.size)
        clear hb
        have HSV5 : Hid (V5.heap.size = w3.heap.size + 1) := by show V5.heap.size = _; rw [hV, World.size_alloc]
        have HVV5 := Lib.hid hV.symm
        clear hV
        have HY : Hid (∃ z : Int, (y : Int) % 8 = z ∧ 0 ≤ z ∧ z ≤ 7) := ⟨_, rfl, by omega, by omega⟩
        obtain ⟨z, hz, hz1, hz2⟩ := HY.out
        clear HY
        have cbc0 := cell_of_row V5 w3.heap.size 0 _ _ _ bc
        simp only [List.getElem?_toArray, List.getElem?_cons_zero, List.getElem?_cons_succ] at cbc0
        have cbc1 := cell_of_row V5 w3.heap.size 1 _ _ _ bc
        simp only [List.getElem?_toArray, List.getElem?_cons_zero, List.getElem?_cons_succ] at cbc1
        rw [← HVV5.out] at cbc0 cbc1
        go_wp2_with fail
        rw [HVV5.out]
        clear HVV5
        clear cbc0 cbc1
        first | rw [hz] | skip
        clear hz hq
        refine (wish_any 0 _ z V5).mono ?_
        rintro e w6 ⟨rfl, hb⟩
        replace h := (h.below hb).more hb.size
        replace bc := blk_below bc hb
        replace hbt := hbt.trans (hb.mono hbt.size)
        clear hb
        obtain ⟨V6, hV⟩ : ∃ V6, V6 = w6.alloc (.cells #[.int .i64 3, .int .i64 z, .int .i64 0, .int .i64 (0), .slice none 0 0, .slice none 0 0] 32) := ⟨_, rfl⟩
        have bw := blk_new hV
        have hb := below_new hV
        replace h := (h.below hb).more hb.size
        replace bc := blk_below bc hb
        replace hbt := hbt.trans (hb.mono hbt.size)
        clear hb
        have HSV6 : Hid (V6.heap.size = w6.heap.size + 1) := by show V6.heap.size = _; rw [hV, World.size_alloc]
        have HVV6 := Lib.hid hV.symm
        clear hV
        have cbw0 := cell_of_row V6 w6.heap.size 0 _ _ _ bw
        simp only [List.getElem?_toArray, List.getElem?_cons_zero, List.getElem?_cons_succ] at cbw0
        have cbw1 := cell_of_row V6 w6.heap.size 1 _ _ _ bw
        simp only [List.getElem?_toArray, List.getElem?_cons_zero, List.getElem?_cons_succ] at cbw1
        have cbw2 := cell_of_row V6 w6.heap.size 2 _ _ _ bw
        simp only [List.getElem?_toArray, List.getElem?_cons_zero, List.getElem?_cons_succ] at cbw2
        have cbw3 := cell_of_row V6 w6.heap.size 3 _ _ _ bw
        simp only [List.getElem?_toArray, List.getElem?_cons_zero, List.getElem?_cons_succ] at cbw3
        have cbw4 := cell_of_row V6 w6.heap.size 4 _ _ _ bw
        simp only [List.getElem?_toArray, List.getElem?_cons_zero, List.getElem?_cons_succ] at cbw4
        have cbw5 := cell_of_row V6 w6.heap.size 5 _ _ _ bw
        simp only [List.getElem?_toArray, List.getElem?_cons_zero, List.getElem?_cons_succ] at cbw5
        rw [← HVV6.out] at cbw0 cbw1 cbw2 cbw3 cbw4 cbw5
        go_wp2_with fail
        rw [HVV6.out]
        clear HVV6
        clear cbw0 cbw1 cbw2 cbw3 cbw4 cbw5
        by_cases hnew : 0 = (n : Int)
        · have HEQ := Lib.hid (replyE_old (vs := vs) (no := 0) (to := z) HC.out (by omega) (by rw [hl.out]; omega) (by omega) ⟨hz1, hz2⟩)
          refine (reply_any _ n c vs 0 z V6 h (by omega) (fun v hv => Nat.le_trans (HV2.out v hv) (by omega))).mono ?_
          rintro e w7 ⟨v, u, rfl, ho, hp, hb⟩
          obtain ⟨ok1, ok2, ok3⟩ := HM.out (0) (z)
          have HE7 : Hid (∃ x, x = replyE vs (0) (z)) := ⟨_, rfl⟩
          obtain ⟨E, hE7⟩ := HE7.out
          have HM7 : Hid (∃ x, x = replyM vs (0) (z)) := ⟨_, rfl⟩
          obtain ⟨M, hM7⟩ := HM7.out
          rw [← hM7] at ho hp ok1 ok2 ok3 ⊢
          rw [← hE7]
          clear HE7 HM7
          have HE7 := Lib.hid hE7
          have HM7 := Lib.hid hM7
          clear hE7 hM7
          obtain ⟨m07, m17, m27, m37, lw7, lm7⟩ := M
          dsimp only at ho hp ok1 ok2 ok3 ⊢
          obtain ⟨A7, k7, rfl, q7⟩ := own_rdP ho ok1
          obtain ⟨P7, j7, rfl, r7⟩ := own_rdM hp ok2
          clear ho hp
          replace h := (h.below hb).more hb.size
          replace bc := blk_below bc hb
          replace bw := blk_below bw hb
          replace hbt := hbt.trans (hb.mono hbt.size)
          clear hb
          have z17 := q7.le
          have z27 := q7.max
          have z37 := r7.le
          have z47 := r7.max
          obtain ⟨nw7, hx⟩ : ∃ x, x = lw7.length := ⟨_, rfl⟩
          rw [← hx] at q7 z17 ok3 ⊢
          have Hnw7 := Lib.hid hx
          clear hx
          obtain ⟨nm7, hx⟩ : ∃ x, x = lm7.length := ⟨_, rfl⟩
          rw [← hx] at r7 z37 ⊢
          have Hnm7 := Lib.hid hx
          clear hx
          clear ok1 ok2
          rw [← HE7.out] at HEQ
          obtain rfl : E = 341 := HEQ.out
          clear HE7 HM7 HEQ HM HC
          obtain ⟨V7, hV⟩ : ∃ V7, V7 = w7.alloc (.cells #[.int .i64 m07, .int .i64 m17, .int .i64 m27, .int .i64 m37, .slice A7 nw7 k7, .slice P7 nm7 j7] 32) := ⟨_, rfl⟩
          have bm := blk_new hV
          have hb := below_new hV
          replace h := (h.below hb).more hb.size
          replace bc := blk_below bc hb
          replace bw := blk_below bw hb
          replace q7 := (q7.below hb).more hb.size
          replace r7 := (r7.below hb).more hb.size
          replace hbt := hbt.trans (hb.mono hbt.size)
          clear hb
          have HSV7 : Hid (V7.heap.size = w7.heap.size + 1) := by show V7.heap.size = _; rw [hV, World.size_alloc]
          have HVV7 := Lib.hid hV.symm
          clear hV
          have d8 : ((0) == (n : Int)) = true := by simp; omega
          have cbc0 := cell_of_row V7 w3.heap.size 0 _ _ _ bc
          simp only [List.getElem?_toArray, List.getElem?_cons_zero, List.getElem?_cons_succ] at cbc0
          have cbc1 := cell_of_row V7 w3.heap.size 1 _ _ _ bc
          simp only [List.getElem?_toArray, List.getElem?_cons_zero, List.getElem?_cons_succ] at cbc1
          rw [← HVV7.out] at cbc0 cbc1
          go_wp2_with fail
          rw [HVV7.out]
          clear HVV7
          clear cbc0 cbc1
          go_ret
          exact ⟨rfl, hbt⟩
        · have HEQ := Lib.hid (replyE_ok (vs := vs) (no := 0) (to := z) HC.out (by omega) (by rw [hl.out]; omega) (by omega) ⟨hz1, hz2⟩)
          have HIS := Lib.hid (replyM_is (vs := vs) (no := 0) (to := z) HC.out (by rw [hl.out]; omega) HEQ.out)
          refine (reply_any _ n c vs 0 z V6 h (by omega) (fun v hv => Nat.le_trans (HV2.out v hv) (by omega))).mono ?_
          rintro e w7 ⟨v, u, rfl, ho, hp, hb⟩
          obtain ⟨ok1, ok2, ok3⟩ := HM.out (0) (z)
          have HE7 : Hid (∃ x, x = replyE vs (0) (z)) := ⟨_, rfl⟩
          obtain ⟨E, hE7⟩ := HE7.out
          have HM7 : Hid (∃ x, x = replyM vs (0) (z)) := ⟨_, rfl⟩
          obtain ⟨M, hM7⟩ := HM7.out
          rw [← hM7] at ho hp ok1 ok2 ok3 ⊢
          rw [← hE7]
          clear HE7 HM7
          have HE7 := Lib.hid hE7
          have HM7 := Lib.hid hM7
          clear hE7 hM7
          obtain ⟨m07, m17, m27, m37, lw7, lm7⟩ := M
          dsimp only at ho hp ok1 ok2 ok3 ⊢
          obtain ⟨A7, k7, rfl, q7⟩ := own_rdP ho ok1
          obtain ⟨P7, j7, rfl, r7⟩ := own_rdM hp ok2
          clear ho hp
          replace h := (h.below hb).more hb.size
          replace bc := blk_below bc hb
          replace bw := blk_below bw hb
          replace hbt := hbt.trans (hb.mono hbt.size)
          clear hb
          have z17 := q7.le
          have z27 := q7.max
          have z37 := r7.le
          have z47 := r7.max
          obtain ⟨nw7, hx⟩ : ∃ x, x = lw7.length := ⟨_, rfl⟩
          rw [← hx] at q7 z17 ok3 ⊢
          have Hnw7 := Lib.hid hx
          clear hx
          obtain ⟨nm7, hx⟩ : ∃ x, x = lm7.length := ⟨_, rfl⟩
          rw [← hx] at r7 z37 ⊢
          have Hnm7 := Lib.hid hx
          clear hx
          clear ok1 ok2
          rw [← HE7.out] at HEQ
          obtain rfl : E = 0 := HEQ.out
          rw [← HM7.out] at HIS
          clear HE7 HM7 HEQ HM HC
          have HTR := Lib.hid (take_reply (l := []) HIS.out (by omega) (by rw [hl.out]; omega) (by rw [hl.out]; omega) (fun h => absurd h (by omega)))
          obtain rfl : m17 = z := HIS.out.1
          clear HIS
          obtain ⟨V7, hV⟩ : ∃ V7, V7 = w7.alloc (.cells #[.int .i64 m07, .int .i64 m17, .int .i64 m27, .int .i64 m37, .slice A7 nw7 k7, .slice P7 nm7 j7] 32) := ⟨_, rfl⟩
          have bm := blk_new hV
          have hb := below_new hV
          replace h := (h.below hb).more hb.size
          replace bc := blk_below bc hb
          replace bw := blk_below bw hb
          replace q7 := (q7.below hb).more hb.size
          replace r7 := (r7.below hb).more hb.size
          replace hbt := hbt.trans (hb.mono hbt.size)
          clear hb
          have HSV7 : Hid (V7.heap.size = w7.heap.size + 1) := by show V7.heap.size = _; rw [hV, World.size_alloc]
          have HVV7 := Lib.hid hV.symm
          clear hV
          have d8 : ((0) == (n : Int)) = false := by simp; omega
          have cbc0 := cell_of_row V7 w3.heap.size 0 _ _ _ bc
          simp only [List.getElem?_toArray, List.getElem?_cons_zero, List.getElem?_cons_succ] at cbc0
          have cbc1 := cell_of_row V7 w3.heap.size 1 _ _ _ bc
          simp only [List.getElem?_toArray, List.getElem?_cons_zero, List.getElem?_cons_succ] at cbc1
          have cbm0 := cell_of_row V7 w7.heap.size 0 _ _ _ bm
          simp only [List.getElem?_toArray, List.getElem?_cons_zero, List.getElem?_cons_succ] at cbm0
          have cbm1 := cell_of_row V7 w7.heap.size 1 _ _ _ bm
          simp only [List.getElem?_toArray, List.getElem?_cons_zero, List.getElem?_cons_succ] at cbm1
          have cbm2 := cell_of_row V7 w7.heap.size 2 _ _ _ bm
          simp only [List.getElem?_toArray, List.getElem?_cons_zero, List.getElem?_cons_succ] at cbm2
          have cbm3 := cell_of_row V7 w7.heap.size 3 _ _ _ bm
          simp only [List.getElem?_toArray, List.getElem?_cons_zero, List.getElem?_cons_succ] at cbm3
          have cbm4 := cell_of_row V7 w7.heap.size 4 _ _ _ bm
          simp only [List.getElem?_toArray, List.getElem?_cons_zero, List.getElem?_cons_succ] at cbm4
          have cbm5 := cell_of_row V7 w7.heap.size 5 _ _ _ bm
          simp only [List.getElem?_toArray, List.getElem?_cons_zero, List.getElem?_cons_succ] at cbm5
          rw [← HVV7.out] at cbc0 cbc1 cbm0 cbm1 cbm2 cbm3 cbm4 cbm5
          go_wp2_with fail
          rw [HVV7.out]
          clear HVV7
          clear cbc0 cbc1 cbm0 cbm1 cbm2 cbm3 cbm4 cbm5
          refine (take_any m07 m17 m27 m37 0 _ _ _ _ _ _ _ _ _ [] lw7 lm7 V7 (RdP.nil V7 V7.heap.size) q7 r7 (by omega) (by omega)).mono ?_
          rintro e w8 ⟨v, rfl, ho, hb⟩
          have ok1 := takeC_ok (c := ⟨0, []⟩) (m := ⟨m07, m17, m27, m37, lw7, lm7⟩) ((RdP.nil V7 V7.heap.size)).2 (q7).2 (r7).2
          have HF8 : Hid (∃ x, x = takeE ⟨0, []⟩ ⟨m07, m17, m27, m37, lw7, lm7⟩) := ⟨_, rfl⟩
          obtain ⟨F8, hF8⟩ := HF8.out
          have HX8 : Hid (∃ x, x = takeC ⟨0, []⟩ ⟨m07, m17, m27, m37, lw7, lm7⟩) := ⟨_, rfl⟩
          obtain ⟨X8, hX8⟩ := HX8.out
          rw [← hX8] at ho ok1 ⊢
          rw [← hF8]
          clear HF8 HX8
          have HF8 := Lib.hid hF8
          have HX8 := Lib.hid hX8
          clear hF8 hX8
          obtain ⟨xn8, lx8⟩ := X8
          dsimp only at ho ok1 ⊢
          obtain ⟨A8, k8, rfl, q8⟩ := own_rdP ho ok1
          clear ho
          replace h := (h.below hb).more hb.size
          replace bc := blk_below bc hb
          replace bw := blk_below bw hb
          replace q7 := (q7.below hb).more hb.size
          replace r7 := (r7.below hb).more hb.size
          replace bm := blk_below bm hb
          replace hbt := hbt.trans (hb.mono hbt.size)
          clear hb
          have z18 := q8.le
          have z28 := q8.max
          obtain ⟨nx8, hx⟩ : ∃ x, x = lx8.length := ⟨_, rfl⟩
          rw [← hx] at q8 z18 ⊢
          have Hnx8 := Lib.hid hx
          clear hx ok1
          rw [← HF8.out, ← HX8.out] at HTR
          obtain rfl : F8 = 0 := HTR.out.1
          have hx8 := HTR.out.2
          clear HF8 HX8 HTR
          rw [hl.out] at hx8
          obtain rfl : xn8 = (n : Int) := congrArg Cl.no hx8
          have hlx : lx8 = (lastV vs).week := congrArg Cl.week hx8
          clear hx8
          have HLX := Lib.hid hlx
          clear hlx
          obtain ⟨V8, hV⟩ : ∃ V8, V8 = w8.alloc (.cells #[.int .i64 (n : Int), .slice A8 nx8 k8] 27) := ⟨_, rfl⟩
          have bx := blk_new hV
          have hb := below_new hV
          replace h := (h.below hb).more hb.size
          replace bc := blk_below bc hb
          replace bw := blk_below bw hb
          replace q7 := (q7.below hb).more hb.size
          replace r7 := (r7.below hb).more hb.size
          replace bm := blk_below bm hb
          replace q8 := (q8.below hb).more hb.size
          replace hbt := hbt.trans (hb.mono hbt.size)
          clear hb
          have HSV8 : Hid (V8.heap.size = w8.heap.size + 1) := by show V8.heap.size = _; rw [hV, World.size_alloc]
          have HVV8 := Lib.hid hV.symm
          clear hV
          obtain ⟨t, ht⟩ : ∃ t, t + 1 = n := ⟨n - 1, by omega⟩
          have htn : t < n := by omega
          have htl : t < vs.length := by rw [hl.out]; omega
          obtain ⟨ad2, At, ct, hAt, hab2, e1, e2, e3, e4, hpt, _, _⟩ := h.at_ htn htl
          subst hAt
          have HLT : Hid ((lastV vs).week = vs[t].week) := by show (lastV vs).week = _; rw [lastV_eq (by omega)]; simp only [hl.out, show n - 1 = t by omega]
          clear e1 e3 e4
          have x2 : ∀ x : Ext V8.heap.size V8, x.val.cell? ⟨(ad2.add (t * 4)).block, (ad2.add (t * 4)).off + 1, none⟩ = some (.slice At vs[t].week.length ct) := fun x => (x.ok.cell (p := ⟨(ad2.add (t * 4)).block, (ad2.add (t * 4)).off + 1, none⟩) (by dsimp only; rw [add_block]; exact hab2)).trans e2
          have cbx0 := cell_of_row V8 w8.heap.size 0 _ _ _ bx
          simp only [List.getElem?_toArray, List.getElem?_cons_zero, List.getElem?_cons_succ] at cbx0
          have ybx0 := fun x : Ext V8.heap.size V8 => (x.ok.cell (p := ⟨w8.heap.size, 0, none⟩) (Array.getElem?_eq_some_iff.1 bx).1).trans cbx0
          clear cbx0
          have cbx1 := cell_of_row V8 w8.heap.size 1 _ _ _ bx
          simp only [List.getElem?_toArray, List.getElem?_cons_zero, List.getElem?_cons_succ] at cbx1
          have ybx1 := fun x : Ext V8.heap.size V8 => (x.ok.cell (p := ⟨w8.heap.size, 1, none⟩) (Array.getElem?_eq_some_iff.1 bx).1).trans cbx1
          clear cbx1
          have cbm1 := cell_of_row V8 w7.heap.size 1 _ _ _ bm
          simp only [List.getElem?_toArray, List.getElem?_cons_zero, List.getElem?_cons_succ] at cbm1
          have ybm1 := fun x : Ext V8.heap.size V8 => (x.ok.cell (p := ⟨w7.heap.size, 1, none⟩) (Array.getElem?_eq_some_iff.1 bm).1).trans cbm1
          clear cbm1
          have cbw1 := cell_of_row V8 w6.heap.size 1 _ _ _ bw
          simp only [List.getElem?_toArray, List.getElem?_cons_zero, List.getElem?_cons_succ] at cbw1
          have ybw1 := fun x : Ext V8.heap.size V8 => (x.ok.cell (p := ⟨w6.heap.size, 1, none⟩) (Array.getElem?_eq_some_iff.1 bw).1).trans cbw1
          clear cbw1
          go_wp2_with fail
          rw [HVV8.out]
          clear HVV8
          have kw : IntKind.i64.wrap ((n : Int) - 1) = (t : Int) := (IntWalk.i64_in _ (by omega)).trans (by omega)
          have kw2 : (t : Int) < (n : Int) := by omega
          have kw3 : 0 ≤ (t : Int) := by omega
          have HT := Lib.hid ht
          clear ht
          generalize vs[t] = vt at *
          refine wp_region_ext V8.heap.size (by kernel_rfl) (by kernel_rfl) ?_
          repeat (go_big_quiet_step (first | (go_at_call 23; (with_reducible refine ext_call (Nat.le_refl _) (clients_any _ _ _ _ _ _ _ _ lx8 vt.week _ (q8.ext _) (hpt.ext _))))))
          refine wpQuiet_nil ?_
          rintro _ ⟨⟨W, hW⟩, rfl⟩
          have hBB := hbt.trans (hW.mono hbt.size)
          clear ybx0 ybx1 ybm1 ybw1 x2
          go_wp2
          go_ret
          refine ⟨ret_bool ?_, hBB⟩
          first | exact decide_eq_true (HLX.out.trans HLT.out) | exact decide_eq_true ⟨rfl, HLX.out.trans HLT.out⟩
    · rw [show errB (checkB vs) = 1 by rw [Bool.not_eq_true] at hck; rw [hck]; rfl]
      go_wp2_with fail
      go_ret
      exact ⟨rfl, hbt⟩
end Go.Proofs.Ytmighpfjjaaknaa
