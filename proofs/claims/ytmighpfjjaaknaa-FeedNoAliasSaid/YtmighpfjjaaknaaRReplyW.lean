/-
  The reference's Reply.
-/
import Derived.Test.YtmighpfjjaaknaaRCheckW
import Derived.Test.YtmighpfjjaaknaaRTakeX
namespace Go.Proofs.Ytmighpfjjaaknaa
open Go.RowKit
set_option linter.unusedVariables false
set_option linter.unusedSimpArgs false

set_option maxRecDepth 20000 in
set_option maxHeartbeats 4000000 in
theorem rreply_any (A : Option Addr) (n c : Nat) (vs : List Ver) (no to : Int) (w : World) (h : RdV w w.heap.size A n c vs) (hn : n ≤ 1073741824) (hw : ∀ v ∈ vs, v.week.length ≤ 1073741824) :
    Calls Try.prog 14 #[.slice A n c, .int .i64 no, .int .i64 to] w (MsgPost (replyM vs no to) (replyE vs no to) w) := by
  have n1 := h.max
  have n2 := h.le
  have hl := Lib.hid h.len
  have HW := Lib.hid hw
  clear hw
  obtain ⟨V1, hV⟩ : ∃ V1, V1 = w.alloc (.cells #[.int .i64 0, .int .i64 0, .int .i64 0, .int .i64 0, .slice none 0 0, .slice none 0 0] 32) := ⟨_, rfl⟩
  have br := blk_new hV
  have hb := below_new hV
  have hbt := hb
  clear hb
  have HSV1 : Hid (V1.heap.size = w.heap.size + 1) := by show V1.heap.size = _; rw [hV, World.size_alloc]
  have HVV1 := Lib.hid hV.symm
  clear hV
  replace h := (h.below hbt).more hbt.size
  have HZM := Lib.hid (fun (he : replyE vs no to ≠ 0) => replyM_zero he)
  go_enter Try.func14, Try.ntmps14
  go_wp2_with fail
  rw [HVV1.out]
  clear HVV1
  refine (rcheck_any A n c vs V1 h).mono ?_
  rintro e w2 ⟨rfl, hb⟩
  replace h := (h.below hb).more hb.size
  replace br := blk_below br hb
  replace hbt := hbt.trans (hb.mono hbt.size)
  clear hb
  have hsz2 : w.heap.size < w2.heap.size := (Array.getElem?_eq_some_iff.1 br).1
  have hne2 : ¬ w2.heap.size = w.heap.size := by omega
  have hne3 : ¬ w.heap.size = w2.heap.size := by omega
  by_cases hck : checkB vs = true
  · rw [show errB (checkB vs) = 0 by rw [hck]; rfl]
    have HC := Lib.hid hck
    clear hck
    by_cases h1 : no < 0
    · have d1 : decide (no < 0) = true := decide_eq_true h1
      have m0 := cell_of_row w2 w.heap.size 0 _ _ _ br
      simp only [List.getElem?_toArray, List.getElem?_cons_zero, List.getElem?_cons_succ] at m0
      have f0 := frozen_of_row w2 w.heap.size 0 _ _ br
      have m1 := cell_of_row w2 w.heap.size 1 _ _ _ br
      simp only [List.getElem?_toArray, List.getElem?_cons_zero, List.getElem?_cons_succ] at m1
      have f1 := frozen_of_row w2 w.heap.size 1 _ _ br
      have m2 := cell_of_row w2 w.heap.size 2 _ _ _ br
      simp only [List.getElem?_toArray, List.getElem?_cons_zero, List.getElem?_cons_succ] at m2
      have f2 := frozen_of_row w2 w.heap.size 2 _ _ br
      have m3 := cell_of_row w2 w.heap.size 3 _ _ _ br
      simp only [List.getElem?_toArray, List.getElem?_cons_zero, List.getElem?_cons_succ] at m3
      have f3 := frozen_of_row w2 w.heap.size 3 _ _ br
      have m4 := cell_of_row w2 w.heap.size 4 _ _ _ br
      simp only [List.getElem?_toArray, List.getElem?_cons_zero, List.getElem?_cons_succ] at m4
      have f4 := frozen_of_row w2 w.heap.size 4 _ _ br
      have m5 := cell_of_row w2 w.heap.size 5 _ _ _ br
      simp only [List.getElem?_toArray, List.getElem?_cons_zero, List.getElem?_cons_succ] at m5
      have f5 := frozen_of_row w2 w.heap.size 5 _ _ br
      go_wp2_with fail
      refine bodyPost_ret (results_cell_row2 rfl _ _ w.heap.size 32 _ (0, 0) _ rfl (heap_put6 br _ _ _ _ _ _) Try.underlying32 rfl infoMsg) rfl ?_
      have er : replyE vs no to = 1 := by unfold replyE; rw [if_neg (fun hh => by have h1 := hh.2.1; have h2 := hh.2.2; omega)]
      exact mzero (HZM.out (by rw [er]; decide)) er (below_put6 hbt (Nat.le_refl _) _ _ _ _ _ _)
    · have d1 : decide (no < 0) = false := decide_eq_false h1
      by_cases h2 : 1099511627776 < no
      · have d2 : decide (1099511627776 < no) = true := decide_eq_true h2
        have m0 := cell_of_row w2 w.heap.size 0 _ _ _ br
        simp only [List.getElem?_toArray, List.getElem?_cons_zero, List.getElem?_cons_succ] at m0
        have f0 := frozen_of_row w2 w.heap.size 0 _ _ br
        have m1 := cell_of_row w2 w.heap.size 1 _ _ _ br
        simp only [List.getElem?_toArray, List.getElem?_cons_zero, List.getElem?_cons_succ] at m1
        have f1 := frozen_of_row w2 w.heap.size 1 _ _ br
        have m2 := cell_of_row w2 w.heap.size 2 _ _ _ br
        simp only [List.getElem?_toArray, List.getElem?_cons_zero, List.getElem?_cons_succ] at m2
        have f2 := frozen_of_row w2 w.heap.size 2 _ _ br
        have m3 := cell_of_row w2 w.heap.size 3 _ _ _ br
        simp only [List.getElem?_toArray, List.getElem?_cons_zero, List.getElem?_cons_succ] at m3
        have f3 := frozen_of_row w2 w.heap.size 3 _ _ br
        have m4 := cell_of_row w2 w.heap.size 4 _ _ _ br
        simp only [List.getElem?_toArray, List.getElem?_cons_zero, List.getElem?_cons_succ] at m4
        have f4 := frozen_of_row w2 w.heap.size 4 _ _ br
        have m5 := cell_of_row w2 w.heap.size 5 _ _ _ br
        simp only [List.getElem?_toArray, List.getElem?_cons_zero, List.getElem?_cons_succ] at m5
        have f5 := frozen_of_row w2 w.heap.size 5 _ _ br
        go_wp2_with fail
        refine bodyPost_ret (results_cell_row2 rfl _ _ w.heap.size 32 _ (0, 0) _ rfl (heap_put6 br _ _ _ _ _ _) Try.underlying32 rfl infoMsg) rfl ?_
        have er : replyE vs no to = 1 := by unfold replyE; rw [if_neg (fun hh => by have h1 := hh.2.1; have h2 := hh.2.2; omega)]
        exact mzero (HZM.out (by rw [er]; decide)) er (below_put6 hbt (Nat.le_refl _) _ _ _ _ _ _)
      · have d2 : decide (1099511627776 < no) = false := decide_eq_false h2
        by_cases h3 : to < 0
        · have d3 : decide (to < 0) = true := decide_eq_true h3
          have m0 := cell_of_row w2 w.heap.size 0 _ _ _ br
          simp only [List.getElem?_toArray, List.getElem?_cons_zero, List.getElem?_cons_succ] at m0
          have f0 := frozen_of_row w2 w.heap.size 0 _ _ br
          have m1 := cell_of_row w2 w.heap.size 1 _ _ _ br
          simp only [List.getElem?_toArray, List.getElem?_cons_zero, List.getElem?_cons_succ] at m1
          have f1 := frozen_of_row w2 w.heap.size 1 _ _ br
          have m2 := cell_of_row w2 w.heap.size 2 _ _ _ br
          simp only [List.getElem?_toArray, List.getElem?_cons_zero, List.getElem?_cons_succ] at m2
          have f2 := frozen_of_row w2 w.heap.size 2 _ _ br
          have m3 := cell_of_row w2 w.heap.size 3 _ _ _ br
          simp only [List.getElem?_toArray, List.getElem?_cons_zero, List.getElem?_cons_succ] at m3
          have f3 := frozen_of_row w2 w.heap.size 3 _ _ br
          have m4 := cell_of_row w2 w.heap.size 4 _ _ _ br
          simp only [List.getElem?_toArray, List.getElem?_cons_zero, List.getElem?_cons_succ] at m4
          have f4 := frozen_of_row w2 w.heap.size 4 _ _ br
          have m5 := cell_of_row w2 w.heap.size 5 _ _ _ br
          simp only [List.getElem?_toArray, List.getElem?_cons_zero, List.getElem?_cons_succ] at m5
          have f5 := frozen_of_row w2 w.heap.size 5 _ _ br
          go_wp2_with fail
          refine bodyPost_ret (results_cell_row2 rfl _ _ w.heap.size 32 _ (0, 0) _ rfl (heap_put6 br _ _ _ _ _ _) Try.underlying32 rfl infoMsg) rfl ?_
          have er : replyE vs no to = 1 := by unfold replyE; rw [if_neg (fun hh => by have h1 := hh.2.1; have h2 := hh.2.2; omega)]
          exact mzero (HZM.out (by rw [er]; decide)) er (below_put6 hbt (Nat.le_refl _) _ _ _ _ _ _)
        · have d3 : decide (to < 0) = false := decide_eq_false h3
          by_cases h4 : 8 ≤ to
          · have d4 : decide (8 ≤ to) = true := decide_eq_true h4
            have m0 := cell_of_row w2 w.heap.size 0 _ _ _ br
            simp only [List.getElem?_toArray, List.getElem?_cons_zero, List.getElem?_cons_succ] at m0
            have f0 := frozen_of_row w2 w.heap.size 0 _ _ br
            have m1 := cell_of_row w2 w.heap.size 1 _ _ _ br
            simp only [List.getElem?_toArray, List.getElem?_cons_zero, List.getElem?_cons_succ] at m1
            have f1 := frozen_of_row w2 w.heap.size 1 _ _ br
            have m2 := cell_of_row w2 w.heap.size 2 _ _ _ br
            simp only [List.getElem?_toArray, List.getElem?_cons_zero, List.getElem?_cons_succ] at m2
            have f2 := frozen_of_row w2 w.heap.size 2 _ _ br
            have m3 := cell_of_row w2 w.heap.size 3 _ _ _ br
            simp only [List.getElem?_toArray, List.getElem?_cons_zero, List.getElem?_cons_succ] at m3
            have f3 := frozen_of_row w2 w.heap.size 3 _ _ br
            have m4 := cell_of_row w2 w.heap.size 4 _ _ _ br
            simp only [List.getElem?_toArray, List.getElem?_cons_zero, List.getElem?_cons_succ] at m4
            have f4 := frozen_of_row w2 w.heap.size 4 _ _ br
            have m5 := cell_of_row w2 w.heap.size 5 _ _ _ br
            simp only [List.getElem?_toArray, List.getElem?_cons_zero, List.getElem?_cons_succ] at m5
            have f5 := frozen_of_row w2 w.heap.size 5 _ _ br
            go_wp2_with fail
            refine bodyPost_ret (results_cell_row2 rfl _ _ w.heap.size 32 _ (0, 0) _ rfl (heap_put6 br _ _ _ _ _ _) Try.underlying32 rfl infoMsg) rfl ?_
            have er : replyE vs no to = 1 := by unfold replyE; rw [if_neg (fun hh => by have h1 := hh.2.1; have h2 := hh.2.2; omega)]
            exact mzero (HZM.out (by rw [er]; decide)) er (below_put6 hbt (Nat.le_refl _) _ _ _ _ _ _)
          · have d4 : decide (8 ≤ to) = false := decide_eq_false h4
            have HE : Hid (replyE vs no to = if (n : Int) ≤ no then 341 else 0) := by show replyE vs no to = _; unfold replyE; rw [if_pos ⟨HC.out, ⟨by omega, by omega⟩, ⟨by omega, by omega⟩⟩, hl.out]
            by_cases h5 : (n : Int) ≤ no
            · have d5 : decide ((n : Int) ≤ no) = true := decide_eq_true h5
              have m0 := cell_of_row w2 w.heap.size 0 _ _ _ br
              simp only [List.getElem?_toArray, List.getElem?_cons_zero, List.getElem?_cons_succ] at m0
              have f0 := frozen_of_row w2 w.heap.size 0 _ _ br
              have m1 := cell_of_row w2 w.heap.size 1 _ _ _ br
              simp only [List.getElem?_toArray, List.getElem?_cons_zero, List.getElem?_cons_succ] at m1
              have f1 := frozen_of_row w2 w.heap.size 1 _ _ br
              have m2 := cell_of_row w2 w.heap.size 2 _ _ _ br
              simp only [List.getElem?_toArray, List.getElem?_cons_zero, List.getElem?_cons_succ] at m2
              have f2 := frozen_of_row w2 w.heap.size 2 _ _ br
              have m3 := cell_of_row w2 w.heap.size 3 _ _ _ br
              simp only [List.getElem?_toArray, List.getElem?_cons_zero, List.getElem?_cons_succ] at m3
              have f3 := frozen_of_row w2 w.heap.size 3 _ _ br
              have m4 := cell_of_row w2 w.heap.size 4 _ _ _ br
              simp only [List.getElem?_toArray, List.getElem?_cons_zero, List.getElem?_cons_succ] at m4
              have f4 := frozen_of_row w2 w.heap.size 4 _ _ br
              have m5 := cell_of_row w2 w.heap.size 5 _ _ _ br
              simp only [List.getElem?_toArray, List.getElem?_cons_zero, List.getElem?_cons_succ] at m5
              have f5 := frozen_of_row w2 w.heap.size 5 _ _ br
              go_wp2_with fail
              refine bodyPost_ret (results_cell_row2 rfl _ _ w.heap.size 32 _ (0, 0) _ rfl (heap_put6 br _ _ _ _ _ _) Try.underlying32 rfl infoMsg) rfl ?_
              have er : replyE vs no to = 341 := by rw [HE.out, if_pos h5]
              exact mzero (HZM.out (by rw [er]; decide)) er (below_put6 hbt (Nat.le_refl _) _ _ _ _ _ _)
            · have d5 : decide ((n : Int) ≤ no) = false := decide_eq_false h5
              have HE0 : Hid (replyE vs no to = 0) := by show replyE vs no to = _; rw [HE.out, if_neg h5]
              have HMM : Hid (replyM vs no to = if 0 < no ∧ diffE (vs.getD (no.toNat - 1) zeroV).week (lastV vs).week = 0 then ⟨2, to, no, (lastV vs).no, [], diffL (vs.getD (no.toNat - 1) zeroV).week (lastV vs).week⟩ else ⟨1, to, 0, (lastV vs).no, (lastV vs).week, []⟩) := by show replyM vs no to = _; unfold replyM; rw [if_pos HE0.out]
              clear HE HC HZM
              obtain ⟨t, ht⟩ : ∃ t, t + 1 = n := ⟨n - 1, by omega⟩
              have htn : t < n := by omega
              have htl : t < vs.length := by rw [hl.out]; omega
              obtain ⟨ad, At, ct, rfl, hab, e1, e2, e3, e4, hpt, _, _⟩ := h.at_ htn htl
              have HLT : Hid (lastV vs = vs[t]) := by show lastV vs = _; rw [lastV_eq (by omega)]; simp only [hl.out, show n - 1 = t by omega]
              have hwt := HW.out _ (List.getElem_mem htl)
              rw [HLT.out] at HMM
              clear HLT
              generalize vs[t] = vt at *
              obtain ⟨tno, lt, tc, tb⟩ := vt
              dsimp only at *
              have HT := Lib.hid ht
              clear ht
              have kt : (n : Int) - 1 = (t : Int) := by have := HT.out; omega
              have kt2 : (t : Int) < (n : Int) := by omega
              have z3 := hpt.le
              have z4 := hpt.max
              obtain ⟨nt, hnt⟩ : ∃ z, z = lt.length := ⟨_, rfl⟩
              rw [← hnt] at hpt e2 hwt z3
              have HNT := Lib.hid hnt
              clear hnt
              obtain ⟨V3, hV⟩ : ∃ V3, V3 = w2.alloc (.cells #[.int .i64 tno, .slice At nt ct, .int .i64 tc, .bool tb] 52) := ⟨_, rfl⟩
              have bl := blk_new hV
              have hb := below_new hV
              replace h := (h.below hb).more hb.size
              replace br := blk_below br hb
              replace hpt := (hpt.below hb).more hb.size
              replace hbt := hbt.trans (hb.mono hbt.size)
              clear hb
              have HSV3 : Hid (V3.heap.size = w2.heap.size + 1) := by show V3.heap.size = _; rw [hV, World.size_alloc]
              have HVV3 := Lib.hid hV.symm
              clear hV
              go_wp2_with fail
              rw [HVV3.out]
              clear HVV3
              clear e1 e2 e3 e4 kt
              by_cases h6 : 0 < no
              · obtain ⟨q, rfl⟩ : ∃ q : Nat, no = (q : Int) + 1 := ⟨(no - 1).toNat, by omega⟩
                have d6 : decide ((0 : Int) < (q : Int) + 1) = true := decide_eq_true h6
                have hqn : q < n := by omega
                have hql : q < vs.length := by rw [hl.out]; exact hqn
                have HQ : Hid (vs.getD (((q : Int) + 1).toNat - 1) zeroV = vs[q]) := by show vs.getD _ _ = _; rw [show ((q : Int) + 1).toNat - 1 = q by omega, List.getD_eq_getElem?_getD, List.getElem?_eq_getElem hql]; rfl
                rw [HQ.out] at HMM
                clear HQ
                obtain ⟨ad', Aq, cq, he, hab', c1, c2, c3, c4, hpq, _, _⟩ := h.at_ hqn hql
                injection he with he
                subst he
                clear c1 c3 c4
                have hwq := HW.out _ (List.getElem_mem hql)
                generalize vs[q] = vq at *
                obtain ⟨qno, lq, qc, qb⟩ := vq
                dsimp only at *
                have y3 := hpq.le
                have y4 := hpq.max
                obtain ⟨nq', hnq⟩ : ∃ z, z = lq.length := ⟨_, rfl⟩
                rw [← hnq] at hpq c2 hwq y3
                have HNQ := Lib.hid hnq
                clear hnq
                have e0 : V3.cell? ⟨w2.heap.size, 1, none⟩ = some (.slice At nt ct) := cell_of_row V3 _ 1 _ _ _ bl
                have kw2 : IntKind.i64.wrap (q : Int) = (q : Int) := IntWalk.i64_in _ (by omega)
                have i0 : (0 : Int) ≤ (q : Int) := by omega
                have i1 : (q : Int) < (n : Int) := by omega
                have HDE : Hid (diffE lq lt = 0 ↔ nq' = nt) := by show diffE lq lt = 0 ↔ _; rw [diffE_zero, HNQ.out, HNT.out]
                by_cases hs : nq' = nt
                · have hee := HDE.out.2 hs
                  have HMd : Hid (replyM vs ((q : Int) + 1) to = ⟨2, to, (q : Int) + 1, tno, [], diffL lq lt⟩) := by show replyM vs _ to = _; rw [HMM.out, if_pos ⟨by omega, hee⟩]
                  clear HMM HDE hee
                  subst hs
                  have ds : ((nq' : Int) == (nq' : Int)) = true := by simp
                  go_quiet (fail)
                  have c24 : (V3.drewN nq).cell? ⟨(ad.add (q * 4)).block, (ad.add (q * 4)).off + 1, none⟩ = some (.slice Aq nq' cq) := c2
                  have hab4 : ad.block < (V3.drewN nq).heap.size := hab'
                  clear c2 e0
                  obtain ⟨V4, hV⟩ : ∃ V4, V4 = V3.drewN nq := ⟨_, rfl⟩
                  have hb : Below V3.heap.size V3 V4 := by rw [hV]; exact below_drewN' (Below.refl _ _) _
                  rw [← hV]
                  (try rw [← hV] at c24 hab4)
                  clear hV
                  replace h := (h.below hb).more hb.size
                  replace br := blk_below br hb
                  replace hpt := (hpt.below hb).more hb.size
                  replace bl := blk_below bl hb
                  replace hpq := (hpq.below hb).more hb.size
                  replace hbt := hbt.trans (hb.mono hbt.size)
                  clear hb
                  go_wp2_with fail
                  have hkp : ∀ w5 : World, Below V4.heap.size V4 w5 → w5.cell? ⟨(ad.add (q * 4)).block, (ad.add (q * 4)).off + 1, none⟩ = some (.slice Aq nq' cq) ∧ w5.cell? ⟨w2.heap.size, 1, none⟩ = some (.slice At nq' ct) := fun w5 hb5 => ⟨(hb5.cell (p := ⟨(ad.add (q * 4)).block, (ad.add (q * 4)).off + 1, none⟩) (by dsimp only; rw [add_block]; exact hab4)).trans c24, cell_of_row w5 _ 1 _ _ _ (blk_below bl hb5)⟩
                  obtain ⟨x1, x2⟩ := hkp V4 (Below.refl _ _)
                  have HKP := Lib.hid hkp
                  clear hkp
                  go_region_held3 (fun w' => w'.cell? ⟨(ad.add (q * 4)).block, (ad.add (q * 4)).off + 1, none⟩ = some (.slice Aq nq' cq) ∧ w'.cell? ⟨w2.heap.size, 1, none⟩ = some (.slice At nq' ct))
                    (first | go_keep | exact HKP.out _ (below_undrew hb5)) ((go_at_call 30; refine (rdiff_any Aq At nq' cq nq' ct lq lt _ (by exact hpq) (by exact hpt) (by omega)).mono ?_; rintro e w5 ⟨v5, rfl, hown5, hb5⟩))
                  have hb6 : Below V4.heap.size V4 w5 := below_undrew hb5
                  clear hb5 HKP x1 x2 c24
                  have hde : diffE lq lt = 0 := diffE_zero.2 (by rw [← HNQ.out, ← HNT.out])
                  rw [hde]
                  clear hde
                  obtain ⟨A5, c5, rfl, rv5⟩ := own_rdK hown5
                  have hsz4 : w.heap.size < V4.heap.size := (Array.getElem?_eq_some_iff.1 br).1
                  have hne5 : ∀ g, (Value.slice A5 (diffL lq lt).length c5).ownBlock = some g → w.heap.size ≠ g := fun g hg => by have := (hown5.lt g hg).1; simp only [World.drew] at this; omega
                  have hown6 : w5.ownsRow w.heap.size 64 3 (.slice A5 (diffL lq lt).length c5) (diffL lq lt).length (mv (diffL lq lt)) := own_mono hown5 (by simp only [World.drew]; omega)
                  clear hown5 rv5
                  replace h := (h.below hb6).more hb6.size
                  replace br := blk_below br hb6
                  replace hpt := (hpt.below hb6).more hb6.size
                  replace bl := blk_below bl hb6
                  replace hpq := (hpq.below hb6).more hb6.size
                  replace hbt := hbt.trans (hb6.mono hbt.size)
                  clear hb6
                  generalize diffL lq lt = dl at *
                  have m0 := cell_of_row w5 w.heap.size 0 _ _ _ br
                  simp only [List.getElem?_toArray, List.getElem?_cons_zero, List.getElem?_cons_succ] at m0
                  have f0 := frozen_of_row w5 w.heap.size 0 _ _ br
                  have m1 := cell_of_row w5 w.heap.size 1 _ _ _ br
                  simp only [List.getElem?_toArray, List.getElem?_cons_zero, List.getElem?_cons_succ] at m1
                  have f1 := frozen_of_row w5 w.heap.size 1 _ _ br
                  have m2 := cell_of_row w5 w.heap.size 2 _ _ _ br
                  simp only [List.getElem?_toArray, List.getElem?_cons_zero, List.getElem?_cons_succ] at m2
                  have f2 := frozen_of_row w5 w.heap.size 2 _ _ br
                  have m3 := cell_of_row w5 w.heap.size 3 _ _ _ br
                  simp only [List.getElem?_toArray, List.getElem?_cons_zero, List.getElem?_cons_succ] at m3
                  have f3 := frozen_of_row w5 w.heap.size 3 _ _ br
                  have m4 := cell_of_row w5 w.heap.size 4 _ _ _ br
                  simp only [List.getElem?_toArray, List.getElem?_cons_zero, List.getElem?_cons_succ] at m4
                  have f4 := frozen_of_row w5 w.heap.size 4 _ _ br
                  have m5 := cell_of_row w5 w.heap.size 5 _ _ _ br
                  simp only [List.getElem?_toArray, List.getElem?_cons_zero, List.getElem?_cons_succ] at m5
                  have f5 := frozen_of_row w5 w.heap.size 5 _ _ br
                  have x0 : w5.cell? ⟨w2.heap.size, 0, none⟩ = some (.int .i64 tno) := cell_of_row w5 _ 0 _ _ _ bl
                  go_wp2_with fail
                  refine bodyPost_ret (results_cell_row2 rfl _ _ w.heap.size 32 _ (0, 0) _ rfl (heap_put6 br _ _ _ _ _ _) Try.underlying32 rfl infoMsg) rfl ?_
                  rw [HMd.out, HE0.out]
                  exact ⟨.slice none 0 0, _, rfl, World.ownsRow_nil _ _ _ _, own_put6 hown6 hne5 _ _ _ _ _ _, below_put6 hbt (Nat.le_refl _) _ _ _ _ _ _⟩
                · have HMw : Hid (replyM vs ((q : Int) + 1) to = ⟨1, to, 0, tno, lt, []⟩) := by show replyM vs _ to = _; rw [HMM.out, if_neg (fun hh => hs (HDE.out.1 hh.2))]
                  clear HMM HDE
                  have ds : ((nq' : Int) == (nt : Int)) = false := by simp; omega
                  go_quiet (fail)
                  clear c2 e0
                  obtain ⟨V4, hV⟩ : ∃ V4, V4 = V3.drewN nq := ⟨_, rfl⟩
                  have hb : Below V3.heap.size V3 V4 := by rw [hV]; exact below_drewN' (Below.refl _ _) _
                  rw [← hV]
                  (try rw [← hV] at c24 hab4)
                  clear hV
                  replace h := (h.below hb).more hb.size
                  replace br := blk_below br hb
                  replace hpt := (hpt.below hb).more hb.size
                  replace bl := blk_below bl hb
                  replace hpq := (hpq.below hb).more hb.size
                  replace hbt := hbt.trans (hb.mono hbt.size)
                  clear hb
                  go_wp2_with fail
                  have ho : (V4.alloc (.cells #[] 60)).ownsRow V4.heap.size 60 2 (.slice (some ⟨V4.heap.size, 0, none⟩) 0 0) 0 [] := World.ownsRow_lit V4 #[] 0 (Nat.le_refl _) (by unfold maxLen; omega) rfl
                  have ha := hpt.1.below ((Below.refl _ V4).alloc (Nat.le_refl _) (.cells #[] 60))
                  have hkeep : Hid (∀ w' : World, Below V4.heap.size V4 w' → w'.cell? ⟨w2.heap.size, 0, none⟩ = some (.int .i64 tno) ∧ w'.cell? ⟨w2.heap.size, 1, none⟩ = some (.slice At nt ct)) := fun w' hW => ⟨cell_of_row w' _ 0 _ _ _ (blk_below bl hW), cell_of_row w' _ 1 _ _ _ (blk_below bl hW)⟩
                  obtain ⟨k1, k2⟩ := hkeep.out V4 (Below.refl _ _)
                  have HRB : Hid (∀ w5, ((V4.alloc (.cells #[] 60)).drew).grownBy w5 (Value.slice (some ⟨V4.heap.size, 0, none⟩) 0 0).ownBlock → Below V4.heap.size V4 w5) := fun w5 hg => (((Below.refl _ V4).alloc (Nat.le_refl _) _).drew).grown hg (by simp) (fun g hg => by cases hg; exact Nat.le_refl _)
                  go_region_held3 (fun w' => w'.cell? ⟨w2.heap.size, 0, none⟩ = some (.int .i64 tno) ∧ w'.cell? ⟨w2.heap.size, 1, none⟩ = some (.slice At nt ct))
                    (first | go_keep | exact hkeep.out _ (HRB.out w5 hg5)) ((refine step_appK (v := .slice (some ⟨V4.heap.size, 0, none⟩) 0 0) _ _ elP (by rfl) (by rfl) (by rfl) (by rfl) (by exact own_drew ho) (by exact RdK.drewN ha 1) (pv_one lt) (by omega) (by omega) (by simp) ?_; intro v5 w5 hown5 hg5 hat5; simp only [Nat.zero_add, List.nil_append] at hown5; obtain ⟨A5, c5, rfl, rv5⟩ := own_rdK hown5; have br' := blk_below br (HRB.out w5 hg5); have m0 := cell_of_row w5 w.heap.size 0 _ _ _ br'; have f0 := frozen_of_row w5 w.heap.size 0 _ _ br'; have m1 := cell_of_row w5 w.heap.size 1 _ _ _ br'; have f1 := frozen_of_row w5 w.heap.size 1 _ _ br'; have m2 := cell_of_row w5 w.heap.size 2 _ _ _ br'; have f2 := frozen_of_row w5 w.heap.size 2 _ _ br'; have m3 := cell_of_row w5 w.heap.size 3 _ _ _ br'; have f3 := frozen_of_row w5 w.heap.size 3 _ _ br'; have m4 := cell_of_row w5 w.heap.size 4 _ _ _ br'; have f4 := frozen_of_row w5 w.heap.size 4 _ _ br'; have m5 := cell_of_row w5 w.heap.size 5 _ _ _ br'; have f5 := frozen_of_row w5 w.heap.size 5 _ _ br'; simp only [List.getElem?_toArray, List.getElem?_cons_zero, List.getElem?_cons_succ] at m0 m1 m2 m3 m4 m5))
                  have br' := blk_below br (HRB.out w5 hg5)
                  have hb5 := HRB.out w5 hg5
                  clear k1 k2 hkeep HRB
                  go_wp2_with fail
                  refine bodyPost_ret (results_cell_row2 rfl _ _ w.heap.size 32 _ (0, 0) _ rfl (heap_put6 br' _ _ _ _ _ _) Try.underlying32 rfl infoMsg) rfl ?_
                  rw [HMw.out, HE0.out]
                  have hlt3 : w.heap.size < V4.heap.size := (Array.getElem?_eq_some_iff.1 br).1
                  have hne : ∀ g, (Value.slice A5 nt c5).ownBlock = some g → w.heap.size ≠ g := fun g hg => by have := (hown5.lt g hg).1; omega
                  refine ⟨.slice A5 nt c5, .slice none 0 0, rfl, ?_, World.ownsRow_nil _ _ _ _, below_put6 (hbt.trans (hb5.mono hbt.size)) (Nat.le_refl _) _ _ _ _ _ _⟩
                  show World.ownsRow _ _ _ _ _ lt.length (pv lt)
                  rw [← HNT.out]
                  exact own_put6 (own_mono hown5 (by omega)) hne _ _ _ _ _ _
              · have d6 : decide (0 < no) = false := decide_eq_false h6
                have HMw : Hid (replyM vs no to = ⟨1, to, 0, tno, lt, []⟩) := by show replyM vs no to = _; rw [HMM.out, if_neg (fun hh => h6 hh.1)]
                clear HMM
                go_quiet (fail)
                obtain ⟨V4, hV⟩ : ∃ V4, V4 = V3.drewN nq := ⟨_, rfl⟩
                have hb : Below V3.heap.size V3 V4 := by rw [hV]; exact below_drewN' (Below.refl _ _) _
                rw [← hV]
                (try rw [← hV] at c24 hab4)
                clear hV
                replace h := (h.below hb).more hb.size
                replace br := blk_below br hb
                replace hpt := (hpt.below hb).more hb.size
                replace bl := blk_below bl hb
                replace hbt := hbt.trans (hb.mono hbt.size)
                clear hb
                go_wp2_with fail
                have ho : (V4.alloc (.cells #[] 60)).ownsRow V4.heap.size 60 2 (.slice (some ⟨V4.heap.size, 0, none⟩) 0 0) 0 [] := World.ownsRow_lit V4 #[] 0 (Nat.le_refl _) (by unfold maxLen; omega) rfl
                have ha := hpt.1.below ((Below.refl _ V4).alloc (Nat.le_refl _) (.cells #[] 60))
                have hkeep : Hid (∀ w' : World, Below V4.heap.size V4 w' → w'.cell? ⟨w2.heap.size, 0, none⟩ = some (.int .i64 tno) ∧ w'.cell? ⟨w2.heap.size, 1, none⟩ = some (.slice At nt ct)) := fun w' hW => ⟨cell_of_row w' _ 0 _ _ _ (blk_below bl hW), cell_of_row w' _ 1 _ _ _ (blk_below bl hW)⟩
                obtain ⟨k1, k2⟩ := hkeep.out V4 (Below.refl _ _)
                have HRB : Hid (∀ w5, ((V4.alloc (.cells #[] 60)).drew).grownBy w5 (Value.slice (some ⟨V4.heap.size, 0, none⟩) 0 0).ownBlock → Below V4.heap.size V4 w5) := fun w5 hg => (((Below.refl _ V4).alloc (Nat.le_refl _) _).drew).grown hg (by simp) (fun g hg => by cases hg; exact Nat.le_refl _)
                go_region_held3 (fun w' => w'.cell? ⟨w2.heap.size, 0, none⟩ = some (.int .i64 tno) ∧ w'.cell? ⟨w2.heap.size, 1, none⟩ = some (.slice At nt ct))
                  (first | go_keep | exact hkeep.out _ (HRB.out w5 hg5)) ((refine step_appK (v := .slice (some ⟨V4.heap.size, 0, none⟩) 0 0) _ _ elP (by rfl) (by rfl) (by rfl) (by rfl) (by exact own_drew ho) (by exact RdK.drewN ha 1) (pv_one lt) (by omega) (by omega) (by simp) ?_; intro v5 w5 hown5 hg5 hat5; simp only [Nat.zero_add, List.nil_append] at hown5; obtain ⟨A5, c5, rfl, rv5⟩ := own_rdK hown5; have br' := blk_below br (HRB.out w5 hg5); have m0 := cell_of_row w5 w.heap.size 0 _ _ _ br'; have f0 := frozen_of_row w5 w.heap.size 0 _ _ br'; have m1 := cell_of_row w5 w.heap.size 1 _ _ _ br'; have f1 := frozen_of_row w5 w.heap.size 1 _ _ br'; have m2 := cell_of_row w5 w.heap.size 2 _ _ _ br'; have f2 := frozen_of_row w5 w.heap.size 2 _ _ br'; have m3 := cell_of_row w5 w.heap.size 3 _ _ _ br'; have f3 := frozen_of_row w5 w.heap.size 3 _ _ br'; have m4 := cell_of_row w5 w.heap.size 4 _ _ _ br'; have f4 := frozen_of_row w5 w.heap.size 4 _ _ br'; have m5 := cell_of_row w5 w.heap.size 5 _ _ _ br'; have f5 := frozen_of_row w5 w.heap.size 5 _ _ br'; simp only [List.getElem?_toArray, List.getElem?_cons_zero, List.getElem?_cons_succ] at m0 m1 m2 m3 m4 m5))
                have br' := blk_below br (HRB.out w5 hg5)
                have hb5 := HRB.out w5 hg5
                clear k1 k2 hkeep HRB
                go_wp2_with fail
                refine bodyPost_ret (results_cell_row2 rfl _ _ w.heap.size 32 _ (0, 0) _ rfl (heap_put6 br' _ _ _ _ _ _) Try.underlying32 rfl infoMsg) rfl ?_
                rw [HMw.out, HE0.out]
                have hlt3 : w.heap.size < V4.heap.size := (Array.getElem?_eq_some_iff.1 br).1
                have hne : ∀ g, (Value.slice A5 nt c5).ownBlock = some g → w.heap.size ≠ g := fun g hg => by have := (hown5.lt g hg).1; omega
                refine ⟨.slice A5 nt c5, .slice none 0 0, rfl, ?_, World.ownsRow_nil _ _ _ _, below_put6 (hbt.trans (hb5.mono hbt.size)) (Nat.le_refl _) _ _ _ _ _ _⟩
                show World.ownsRow _ _ _ _ _ lt.length (pv lt)
                rw [← HNT.out]
                exact own_put6 (own_mono hown5 (by omega)) hne _ _ _ _ _ _
  · rw [show errB (checkB vs) = 1 by rw [Bool.not_eq_true] at hck; rw [hck]; rfl]
    have m0 := cell_of_row w2 w.heap.size 0 _ _ _ br
    simp only [List.getElem?_toArray, List.getElem?_cons_zero, List.getElem?_cons_succ] at m0
    have f0 := frozen_of_row w2 w.heap.size 0 _ _ br
    have m1 := cell_of_row w2 w.heap.size 1 _ _ _ br
    simp only [List.getElem?_toArray, List.getElem?_cons_zero, List.getElem?_cons_succ] at m1
    have f1 := frozen_of_row w2 w.heap.size 1 _ _ br
    have m2 := cell_of_row w2 w.heap.size 2 _ _ _ br
    simp only [List.getElem?_toArray, List.getElem?_cons_zero, List.getElem?_cons_succ] at m2
    have f2 := frozen_of_row w2 w.heap.size 2 _ _ br
    have m3 := cell_of_row w2 w.heap.size 3 _ _ _ br
    simp only [List.getElem?_toArray, List.getElem?_cons_zero, List.getElem?_cons_succ] at m3
    have f3 := frozen_of_row w2 w.heap.size 3 _ _ br
    have m4 := cell_of_row w2 w.heap.size 4 _ _ _ br
    simp only [List.getElem?_toArray, List.getElem?_cons_zero, List.getElem?_cons_succ] at m4
    have f4 := frozen_of_row w2 w.heap.size 4 _ _ br
    have m5 := cell_of_row w2 w.heap.size 5 _ _ _ br
    simp only [List.getElem?_toArray, List.getElem?_cons_zero, List.getElem?_cons_succ] at m5
    have f5 := frozen_of_row w2 w.heap.size 5 _ _ br
    go_wp2_with fail
    refine bodyPost_ret (results_cell_row2 rfl _ _ w.heap.size 32 _ (0, 0) _ rfl (heap_put6 br _ _ _ _ _ _) Try.underlying32 rfl infoMsg) rfl ?_
    have er : replyE vs no to = 1 := by unfold replyE; rw [if_neg (fun hh => hck hh.1)]
    exact mzero (HZM.out (by rw [er]; decide)) er (below_put6 hbt (Nat.le_refl _) _ _ _ _ _ _)
end Go.Proofs.Ytmighpfjjaaknaa
