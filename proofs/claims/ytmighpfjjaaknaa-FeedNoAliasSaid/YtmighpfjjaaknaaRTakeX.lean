/-
  The reference's Take.
-/
import Derived.Test.YtmighpfjjaaknaaRTakeW
namespace Go.Proofs.Ytmighpfjjaaknaa
open Go.RowKit
set_option linter.unusedVariables false
set_option linter.unusedSimpArgs false

set_option maxRecDepth 20000 in
set_option maxHeartbeats 2000000 in
theorem rtake_any (kind to f no cno : Int) (A Am A' : Option Addr) (n c nm cm m c' : Nat) (l lm : List Pl) (ms : List Mv) (w : World) (h : RdP w w.heap.size A n c l) (hm : RdP w w.heap.size Am nm cm lm) (h' : RdM w w.heap.size A' m c' ms) (hn : n ≤ 1073741824) (hnm : nm ≤ 1073741824) :
    Calls Try.prog 22 #[.agg #[.int .i64 cno, .slice A n c], .agg #[.int .i64 kind, .int .i64 to, .int .i64 f, .int .i64 no, .slice Am nm cm, .slice A' m c']] w
      (ClientPost (takeC ⟨cno, l⟩ ⟨kind, to, f, no, lm, ms⟩) (takeE ⟨cno, l⟩ ⟨kind, to, f, no, lm, ms⟩) w) := by
  have n1 := h.max
  have n2 := h.le
  have n3 := hm.max
  have n4 := hm.le
  have n5 := h'.max
  have n6 := h'.le
  have hl := Lib.hid h.len
  have hlm := Lib.hid hm.len
  obtain ⟨V1, hV⟩ : ∃ V1, V1 = w.alloc (.cells #[.int .i64 cno, .slice A n c] 27) := ⟨_, rfl⟩
  have bc := blk_new hV
  have hb := below_new hV
  have hbt := hb
  clear hb
  have HSV1 : Hid (V1.heap.size = w.heap.size + 1) := by show V1.heap.size = _; rw [hV, World.size_alloc]
  have HVV1 := Lib.hid hV.symm
  clear hV
  replace h := (h.below hbt).more hbt.size
  replace hm := (hm.below hbt).more hbt.size
  replace h' := (h'.below hbt).more hbt.size
  obtain ⟨V2, hV⟩ : ∃ V2, V2 = V1.alloc (.cells #[.int .i64 kind, .int .i64 to, .int .i64 f, .int .i64 no, .slice Am nm cm, .slice A' m c'] 32) := ⟨_, rfl⟩
  have bm := blk_new hV
  rw [HSV1.out] at bm
  have hb := below_new hV
  replace h := (h.below hb).more hb.size
  replace hm := (hm.below hb).more hb.size
  replace h' := (h'.below hb).more hb.size
  replace bc := blk_below bc hb
  replace hbt := hbt.trans (hb.mono hbt.size)
  clear hb
  have HSV2 : Hid (V2.heap.size = V1.heap.size + 1) := by show V2.heap.size = _; rw [hV, World.size_alloc]
  have HVV2 := Lib.hid hV.symm
  clear hV
  have HSV : Hid (V2.heap.size = w.heap.size + 1 + 1) := by show V2.heap.size = _; rw [HSV2.out, HSV1.out]
  obtain ⟨V3, hV⟩ : ∃ V3, V3 = V2.alloc (.cells #[.int .i64 0, .slice none 0 0] 27) := ⟨_, rfl⟩
  have br := blk_new hV
  rw [HSV.out] at br
  have hb := below_new hV
  replace h := (h.below hb).more hb.size
  replace hm := (hm.below hb).more hb.size
  replace h' := (h'.below hb).more hb.size
  replace bc := blk_below bc hb
  replace bm := blk_below bm hb
  replace hbt := hbt.trans (hb.mono hbt.size)
  clear hb
  have HSV3 : Hid (V3.heap.size = V2.heap.size + 1) := by show V3.heap.size = _; rw [hV, World.size_alloc]
  have HVV3 := Lib.hid hV.symm
  clear hV
  have HZE := Lib.hid (takeC_zero (c := ⟨cno, l⟩) (m := ⟨kind, to, f, no, lm, ms⟩))
  have HZ : ∀ er : Int, takeE ⟨cno, l⟩ ⟨kind, to, f, no, lm, ms⟩ = er → er ≠ 0 → ∀ wz, Below w.heap.size w wz → ClientPost (takeC ⟨cno, l⟩ ⟨kind, to, f, no, lm, ms⟩) (takeE ⟨cno, l⟩ ⟨kind, to, f, no, lm, ms⟩) w (.returned (.tuple #[.agg #[.int .i64 0, .slice none 0 0], .int .i64 er])) wz := fun er he hne wz hb => hzero (HZE.out (by rw [he]; exact hne)) he hb
  replace HZ := Lib.hid HZ
  clear HZE
  go_enter Try.func22, Try.ntmps22
  by_cases h1 : cno < 0
  · have d1 : decide (cno < 0) = true := decide_eq_true h1
    have cbc0 := cell_of_row V3 w.heap.size 0 _ _ _ bc
    simp only [List.getElem?_toArray, List.getElem?_cons_zero, List.getElem?_cons_succ] at cbc0
    have cbc1 := cell_of_row V3 w.heap.size 1 _ _ _ bc
    simp only [List.getElem?_toArray, List.getElem?_cons_zero, List.getElem?_cons_succ] at cbc1
    have cbm0 := cell_of_row V3 (w.heap.size + 1) 0 _ _ _ bm
    simp only [List.getElem?_toArray, List.getElem?_cons_zero, List.getElem?_cons_succ] at cbm0
    have cbm1 := cell_of_row V3 (w.heap.size + 1) 1 _ _ _ bm
    simp only [List.getElem?_toArray, List.getElem?_cons_zero, List.getElem?_cons_succ] at cbm1
    have cbm2 := cell_of_row V3 (w.heap.size + 1) 2 _ _ _ bm
    simp only [List.getElem?_toArray, List.getElem?_cons_zero, List.getElem?_cons_succ] at cbm2
    have cbm3 := cell_of_row V3 (w.heap.size + 1) 3 _ _ _ bm
    simp only [List.getElem?_toArray, List.getElem?_cons_zero, List.getElem?_cons_succ] at cbm3
    have cbm4 := cell_of_row V3 (w.heap.size + 1) 4 _ _ _ bm
    simp only [List.getElem?_toArray, List.getElem?_cons_zero, List.getElem?_cons_succ] at cbm4
    have cbm5 := cell_of_row V3 (w.heap.size + 1) 5 _ _ _ bm
    simp only [List.getElem?_toArray, List.getElem?_cons_zero, List.getElem?_cons_succ] at cbm5
    have cbr0 := cell_of_row V3 (w.heap.size + 1 + 1) 0 _ _ _ br
    simp only [List.getElem?_toArray, List.getElem?_cons_zero, List.getElem?_cons_succ] at cbr0
    have cbr1 := cell_of_row V3 (w.heap.size + 1 + 1) 1 _ _ _ br
    simp only [List.getElem?_toArray, List.getElem?_cons_zero, List.getElem?_cons_succ] at cbr1
    rw [← HVV3.out] at cbc0 cbc1 cbm0 cbm1 cbm2 cbm3 cbm4 cbm5 cbr0 cbr1
    rw [← HVV2.out] at cbc0 cbc1 cbm0 cbm1 cbm2 cbm3 cbm4 cbm5 cbr0 cbr1
    rw [← HVV1.out] at cbc0 cbc1 cbm0 cbm1 cbm2 cbm3 cbm4 cbm5 cbr0 cbr1
    go_wp2_with fail
    rw [HVV1.out]
    clear HVV1
    rw [HVV2.out]
    clear HVV2
    rw [HVV3.out]
    clear HVV3
    clear cbc0 cbc1 cbm0 cbm1 cbm2 cbm3 cbm4 cbm5 cbr0 cbr1
    refine bodyPost_ret (results_cell_row2 rfl _ _ (w.heap.size + 1 + 1) 27 _ (0, 0) _ rfl br Try.underlying27 rfl infoClient) rfl ?_
    exact (HZ.out 1 (show takeE ⟨cno, l⟩ ⟨kind, to, f, no, lm, ms⟩ = 1 from by unfold takeE; rw [if_neg (fun hh => by dsimp only at hh; omega)]) (by decide) _ hbt)
  · have d1 : decide (cno < 0) = false := decide_eq_false h1
    by_cases h2 : 1099511627776 < cno
    · have d2 : decide (1099511627776 < cno) = true := decide_eq_true h2
      have cbc0 := cell_of_row V3 w.heap.size 0 _ _ _ bc
      simp only [List.getElem?_toArray, List.getElem?_cons_zero, List.getElem?_cons_succ] at cbc0
      have cbc1 := cell_of_row V3 w.heap.size 1 _ _ _ bc
      simp only [List.getElem?_toArray, List.getElem?_cons_zero, List.getElem?_cons_succ] at cbc1
      have cbm0 := cell_of_row V3 (w.heap.size + 1) 0 _ _ _ bm
      simp only [List.getElem?_toArray, List.getElem?_cons_zero, List.getElem?_cons_succ] at cbm0
      have cbm1 := cell_of_row V3 (w.heap.size + 1) 1 _ _ _ bm
      simp only [List.getElem?_toArray, List.getElem?_cons_zero, List.getElem?_cons_succ] at cbm1
      have cbm2 := cell_of_row V3 (w.heap.size + 1) 2 _ _ _ bm
      simp only [List.getElem?_toArray, List.getElem?_cons_zero, List.getElem?_cons_succ] at cbm2
      have cbm3 := cell_of_row V3 (w.heap.size + 1) 3 _ _ _ bm
      simp only [List.getElem?_toArray, List.getElem?_cons_zero, List.getElem?_cons_succ] at cbm3
      have cbm4 := cell_of_row V3 (w.heap.size + 1) 4 _ _ _ bm
      simp only [List.getElem?_toArray, List.getElem?_cons_zero, List.getElem?_cons_succ] at cbm4
      have cbm5 := cell_of_row V3 (w.heap.size + 1) 5 _ _ _ bm
      simp only [List.getElem?_toArray, List.getElem?_cons_zero, List.getElem?_cons_succ] at cbm5
      have cbr0 := cell_of_row V3 (w.heap.size + 1 + 1) 0 _ _ _ br
      simp only [List.getElem?_toArray, List.getElem?_cons_zero, List.getElem?_cons_succ] at cbr0
      have cbr1 := cell_of_row V3 (w.heap.size + 1 + 1) 1 _ _ _ br
      simp only [List.getElem?_toArray, List.getElem?_cons_zero, List.getElem?_cons_succ] at cbr1
      rw [← HVV3.out] at cbc0 cbc1 cbm0 cbm1 cbm2 cbm3 cbm4 cbm5 cbr0 cbr1
      rw [← HVV2.out] at cbc0 cbc1 cbm0 cbm1 cbm2 cbm3 cbm4 cbm5 cbr0 cbr1
      rw [← HVV1.out] at cbc0 cbc1 cbm0 cbm1 cbm2 cbm3 cbm4 cbm5 cbr0 cbr1
      go_wp2_with fail
      rw [HVV1.out]
      clear HVV1
      rw [HVV2.out]
      clear HVV2
      rw [HVV3.out]
      clear HVV3
      clear cbc0 cbc1 cbm0 cbm1 cbm2 cbm3 cbm4 cbm5 cbr0 cbr1
      refine bodyPost_ret (results_cell_row2 rfl _ _ (w.heap.size + 1 + 1) 27 _ (0, 0) _ rfl br Try.underlying27 rfl infoClient) rfl ?_
      exact (HZ.out 1 (show takeE ⟨cno, l⟩ ⟨kind, to, f, no, lm, ms⟩ = 1 from by unfold takeE; rw [if_neg (fun hh => by dsimp only at hh; omega)]) (by decide) _ hbt)
    · have d2 : decide (1099511627776 < cno) = false := decide_eq_false h2
      by_cases h3 : no < 1
      · have d3 : decide (no < 1) = true := decide_eq_true h3
        have cbc0 := cell_of_row V3 w.heap.size 0 _ _ _ bc
        simp only [List.getElem?_toArray, List.getElem?_cons_zero, List.getElem?_cons_succ] at cbc0
        have cbc1 := cell_of_row V3 w.heap.size 1 _ _ _ bc
        simp only [List.getElem?_toArray, List.getElem?_cons_zero, List.getElem?_cons_succ] at cbc1
        have cbm0 := cell_of_row V3 (w.heap.size + 1) 0 _ _ _ bm
        simp only [List.getElem?_toArray, List.getElem?_cons_zero, List.getElem?_cons_succ] at cbm0
        have cbm1 := cell_of_row V3 (w.heap.size + 1) 1 _ _ _ bm
        simp only [List.getElem?_toArray, List.getElem?_cons_zero, List.getElem?_cons_succ] at cbm1
        have cbm2 := cell_of_row V3 (w.heap.size + 1) 2 _ _ _ bm
        simp only [List.getElem?_toArray, List.getElem?_cons_zero, List.getElem?_cons_succ] at cbm2
        have cbm3 := cell_of_row V3 (w.heap.size + 1) 3 _ _ _ bm
        simp only [List.getElem?_toArray, List.getElem?_cons_zero, List.getElem?_cons_succ] at cbm3
        have cbm4 := cell_of_row V3 (w.heap.size + 1) 4 _ _ _ bm
        simp only [List.getElem?_toArray, List.getElem?_cons_zero, List.getElem?_cons_succ] at cbm4
        have cbm5 := cell_of_row V3 (w.heap.size + 1) 5 _ _ _ bm
        simp only [List.getElem?_toArray, List.getElem?_cons_zero, List.getElem?_cons_succ] at cbm5
        have cbr0 := cell_of_row V3 (w.heap.size + 1 + 1) 0 _ _ _ br
        simp only [List.getElem?_toArray, List.getElem?_cons_zero, List.getElem?_cons_succ] at cbr0
        have cbr1 := cell_of_row V3 (w.heap.size + 1 + 1) 1 _ _ _ br
        simp only [List.getElem?_toArray, List.getElem?_cons_zero, List.getElem?_cons_succ] at cbr1
        rw [← HVV3.out] at cbc0 cbc1 cbm0 cbm1 cbm2 cbm3 cbm4 cbm5 cbr0 cbr1
        rw [← HVV2.out] at cbc0 cbc1 cbm0 cbm1 cbm2 cbm3 cbm4 cbm5 cbr0 cbr1
        rw [← HVV1.out] at cbc0 cbc1 cbm0 cbm1 cbm2 cbm3 cbm4 cbm5 cbr0 cbr1
        go_wp2_with fail
        rw [HVV1.out]
        clear HVV1
        rw [HVV2.out]
        clear HVV2
        rw [HVV3.out]
        clear HVV3
        clear cbc0 cbc1 cbm0 cbm1 cbm2 cbm3 cbm4 cbm5 cbr0 cbr1
        refine bodyPost_ret (results_cell_row2 rfl _ _ (w.heap.size + 1 + 1) 27 _ (0, 0) _ rfl br Try.underlying27 rfl infoClient) rfl ?_
        exact (HZ.out 1 (show takeE ⟨cno, l⟩ ⟨kind, to, f, no, lm, ms⟩ = 1 from by unfold takeE; rw [if_neg (fun hh => by dsimp only at hh; omega)]) (by decide) _ hbt)
      · have d3 : decide (no < 1) = false := decide_eq_false h3
        by_cases h4 : 1099511627776 < no
        · have d4 : decide (1099511627776 < no) = true := decide_eq_true h4
          have cbc0 := cell_of_row V3 w.heap.size 0 _ _ _ bc
          simp only [List.getElem?_toArray, List.getElem?_cons_zero, List.getElem?_cons_succ] at cbc0
          have cbc1 := cell_of_row V3 w.heap.size 1 _ _ _ bc
          simp only [List.getElem?_toArray, List.getElem?_cons_zero, List.getElem?_cons_succ] at cbc1
          have cbm0 := cell_of_row V3 (w.heap.size + 1) 0 _ _ _ bm
          simp only [List.getElem?_toArray, List.getElem?_cons_zero, List.getElem?_cons_succ] at cbm0
          have cbm1 := cell_of_row V3 (w.heap.size + 1) 1 _ _ _ bm
          simp only [List.getElem?_toArray, List.getElem?_cons_zero, List.getElem?_cons_succ] at cbm1
          have cbm2 := cell_of_row V3 (w.heap.size + 1) 2 _ _ _ bm
          simp only [List.getElem?_toArray, List.getElem?_cons_zero, List.getElem?_cons_succ] at cbm2
          have cbm3 := cell_of_row V3 (w.heap.size + 1) 3 _ _ _ bm
          simp only [List.getElem?_toArray, List.getElem?_cons_zero, List.getElem?_cons_succ] at cbm3
          have cbm4 := cell_of_row V3 (w.heap.size + 1) 4 _ _ _ bm
          simp only [List.getElem?_toArray, List.getElem?_cons_zero, List.getElem?_cons_succ] at cbm4
          have cbm5 := cell_of_row V3 (w.heap.size + 1) 5 _ _ _ bm
          simp only [List.getElem?_toArray, List.getElem?_cons_zero, List.getElem?_cons_succ] at cbm5
          have cbr0 := cell_of_row V3 (w.heap.size + 1 + 1) 0 _ _ _ br
          simp only [List.getElem?_toArray, List.getElem?_cons_zero, List.getElem?_cons_succ] at cbr0
          have cbr1 := cell_of_row V3 (w.heap.size + 1 + 1) 1 _ _ _ br
          simp only [List.getElem?_toArray, List.getElem?_cons_zero, List.getElem?_cons_succ] at cbr1
          rw [← HVV3.out] at cbc0 cbc1 cbm0 cbm1 cbm2 cbm3 cbm4 cbm5 cbr0 cbr1
          rw [← HVV2.out] at cbc0 cbc1 cbm0 cbm1 cbm2 cbm3 cbm4 cbm5 cbr0 cbr1
          rw [← HVV1.out] at cbc0 cbc1 cbm0 cbm1 cbm2 cbm3 cbm4 cbm5 cbr0 cbr1
          go_wp2_with fail
          rw [HVV1.out]
          clear HVV1
          rw [HVV2.out]
          clear HVV2
          rw [HVV3.out]
          clear HVV3
          clear cbc0 cbc1 cbm0 cbm1 cbm2 cbm3 cbm4 cbm5 cbr0 cbr1
          refine bodyPost_ret (results_cell_row2 rfl _ _ (w.heap.size + 1 + 1) 27 _ (0, 0) _ rfl br Try.underlying27 rfl infoClient) rfl ?_
          exact (HZ.out 1 (show takeE ⟨cno, l⟩ ⟨kind, to, f, no, lm, ms⟩ = 1 from by unfold takeE; rw [if_neg (fun hh => by dsimp only at hh; omega)]) (by decide) _ hbt)
        · have d4 : decide (1099511627776 < no) = false := decide_eq_false h4
          by_cases h5 : kind = 1 ∨ kind = 2
          · have HTE : Hid (takeE ⟨cno, l⟩ ⟨kind, to, f, no, lm, ms⟩ = if no ≤ cno then 341 else if kind = 1 then 0 else t2E ⟨cno, l⟩ f ms) := by show takeE ⟨cno, l⟩ ⟨kind, to, f, no, lm, ms⟩ = _; unfold takeE; rw [if_pos ⟨h5, ⟨by dsimp only; omega, by dsimp only; omega⟩, ⟨by dsimp only; omega, by dsimp only; omega⟩⟩]
            have HTC : Hid (cno < no → takeC ⟨cno, l⟩ ⟨kind, to, f, no, lm, ms⟩ = if kind = 1 then ⟨no, lm⟩ else if t2E ⟨cno, l⟩ f ms = 0 then ⟨no, t2L ⟨cno, l⟩ f ms⟩ else zeroC) := fun hlt => by unfold takeC; rw [if_pos ⟨h5, ⟨by dsimp only; omega, by dsimp only; omega⟩, ⟨by dsimp only; omega, by dsimp only; omega⟩, hlt⟩]
            rcases h5 with rfl | rfl
            · have d5 : ((1 : Int) != 1) = false := by simp
              by_cases h7 : no ≤ cno
              · have d7 : decide (no ≤ cno) = true := decide_eq_true h7
                have cbc0 := cell_of_row V3 w.heap.size 0 _ _ _ bc
                simp only [List.getElem?_toArray, List.getElem?_cons_zero, List.getElem?_cons_succ] at cbc0
                have cbc1 := cell_of_row V3 w.heap.size 1 _ _ _ bc
                simp only [List.getElem?_toArray, List.getElem?_cons_zero, List.getElem?_cons_succ] at cbc1
                have cbm0 := cell_of_row V3 (w.heap.size + 1) 0 _ _ _ bm
                simp only [List.getElem?_toArray, List.getElem?_cons_zero, List.getElem?_cons_succ] at cbm0
                have cbm1 := cell_of_row V3 (w.heap.size + 1) 1 _ _ _ bm
                simp only [List.getElem?_toArray, List.getElem?_cons_zero, List.getElem?_cons_succ] at cbm1
                have cbm2 := cell_of_row V3 (w.heap.size + 1) 2 _ _ _ bm
                simp only [List.getElem?_toArray, List.getElem?_cons_zero, List.getElem?_cons_succ] at cbm2
                have cbm3 := cell_of_row V3 (w.heap.size + 1) 3 _ _ _ bm
                simp only [List.getElem?_toArray, List.getElem?_cons_zero, List.getElem?_cons_succ] at cbm3
                have cbm4 := cell_of_row V3 (w.heap.size + 1) 4 _ _ _ bm
                simp only [List.getElem?_toArray, List.getElem?_cons_zero, List.getElem?_cons_succ] at cbm4
                have cbm5 := cell_of_row V3 (w.heap.size + 1) 5 _ _ _ bm
                simp only [List.getElem?_toArray, List.getElem?_cons_zero, List.getElem?_cons_succ] at cbm5
                have cbr0 := cell_of_row V3 (w.heap.size + 1 + 1) 0 _ _ _ br
                simp only [List.getElem?_toArray, List.getElem?_cons_zero, List.getElem?_cons_succ] at cbr0
                have cbr1 := cell_of_row V3 (w.heap.size + 1 + 1) 1 _ _ _ br
                simp only [List.getElem?_toArray, List.getElem?_cons_zero, List.getElem?_cons_succ] at cbr1
                rw [← HVV3.out] at cbc0 cbc1 cbm0 cbm1 cbm2 cbm3 cbm4 cbm5 cbr0 cbr1
                rw [← HVV2.out] at cbc0 cbc1 cbm0 cbm1 cbm2 cbm3 cbm4 cbm5 cbr0 cbr1
                rw [← HVV1.out] at cbc0 cbc1 cbm0 cbm1 cbm2 cbm3 cbm4 cbm5 cbr0 cbr1
                go_wp2_with fail
                rw [HVV1.out]
                clear HVV1
                rw [HVV2.out]
                clear HVV2
                rw [HVV3.out]
                clear HVV3
                clear cbc0 cbc1 cbm0 cbm1 cbm2 cbm3 cbm4 cbm5 cbr0 cbr1
                refine bodyPost_ret (results_cell_row2 rfl _ _ (w.heap.size + 1 + 1) 27 _ (0, 0) _ rfl br Try.underlying27 rfl infoClient) rfl ?_
                exact (HZ.out 341 (by rw [HTE.out, if_pos h7]) (by decide) _ hbt)
              · have d7 : decide (no ≤ cno) = false := decide_eq_false h7
                have HE : Hid (takeE ⟨cno, l⟩ ⟨1, to, f, no, lm, ms⟩ = 0) := by show takeE _ _ = _; rw [HTE.out, if_neg h7, if_pos rfl]
                have HC : Hid (takeC ⟨cno, l⟩ ⟨1, to, f, no, lm, ms⟩ = ⟨no, lm⟩) := by show takeC _ _ = _; rw [HTC.out (by omega), if_pos rfl]
                clear HTE HTC HZ
                have cbc0 := cell_of_row V3 w.heap.size 0 _ _ _ bc
                simp only [List.getElem?_toArray, List.getElem?_cons_zero, List.getElem?_cons_succ] at cbc0
                have cbc1 := cell_of_row V3 w.heap.size 1 _ _ _ bc
                simp only [List.getElem?_toArray, List.getElem?_cons_zero, List.getElem?_cons_succ] at cbc1
                have cbm0 := cell_of_row V3 (w.heap.size + 1) 0 _ _ _ bm
                simp only [List.getElem?_toArray, List.getElem?_cons_zero, List.getElem?_cons_succ] at cbm0
                have cbm1 := cell_of_row V3 (w.heap.size + 1) 1 _ _ _ bm
                simp only [List.getElem?_toArray, List.getElem?_cons_zero, List.getElem?_cons_succ] at cbm1
                have cbm2 := cell_of_row V3 (w.heap.size + 1) 2 _ _ _ bm
                simp only [List.getElem?_toArray, List.getElem?_cons_zero, List.getElem?_cons_succ] at cbm2
                have cbm3 := cell_of_row V3 (w.heap.size + 1) 3 _ _ _ bm
                simp only [List.getElem?_toArray, List.getElem?_cons_zero, List.getElem?_cons_succ] at cbm3
                have cbm4 := cell_of_row V3 (w.heap.size + 1) 4 _ _ _ bm
                simp only [List.getElem?_toArray, List.getElem?_cons_zero, List.getElem?_cons_succ] at cbm4
                have cbm5 := cell_of_row V3 (w.heap.size + 1) 5 _ _ _ bm
                simp only [List.getElem?_toArray, List.getElem?_cons_zero, List.getElem?_cons_succ] at cbm5
                have cbr0 := cell_of_row V3 (w.heap.size + 1 + 1) 0 _ _ _ br
                simp only [List.getElem?_toArray, List.getElem?_cons_zero, List.getElem?_cons_succ] at cbr0
                have cbr1 := cell_of_row V3 (w.heap.size + 1 + 1) 1 _ _ _ br
                simp only [List.getElem?_toArray, List.getElem?_cons_zero, List.getElem?_cons_succ] at cbr1
                rw [← HVV3.out] at cbc0 cbc1 cbm0 cbm1 cbm2 cbm3 cbm4 cbm5 cbr0 cbr1
                rw [← HVV2.out] at cbc0 cbc1 cbm0 cbm1 cbm2 cbm3 cbm4 cbm5 cbr0 cbr1
                rw [← HVV1.out] at cbc0 cbc1 cbm0 cbm1 cbm2 cbm3 cbm4 cbm5 cbr0 cbr1
                go_wp2_with fail
                rw [HVV1.out]
                clear HVV1
                rw [HVV2.out]
                clear HVV2
                rw [HVV3.out]
                clear HVV3
                clear cbc0 cbc1 cbm0 cbm1 cbm2 cbm3 cbm4 cbm5 cbr0 cbr1
                have ho : (V3.alloc (.cells #[] 60)).ownsRow V3.heap.size 60 2 (.slice (some ⟨V3.heap.size, 0, none⟩) 0 0) 0 [] := World.ownsRow_lit V3 #[] 0 (Nat.le_refl _) (by unfold maxLen; omega) rfl
                have ha := hm.1.below ((Below.refl _ V3).alloc (Nat.le_refl _) (.cells #[] 60))
                have hkeep : Hid (∀ W : World, Below V3.heap.size V3 W → W.cell? ⟨(w.heap.size + 1), 3, none⟩ = some (.int .i64 no) ∧ W.cell? ⟨(w.heap.size + 1), 4, none⟩ = some (.slice Am nm cm) ∧ W.cell? ⟨(w.heap.size + 1 + 1), 0, none⟩ = some (.int .i64 0) ∧ W.cell? ⟨(w.heap.size + 1 + 1), 1, none⟩ = some (.slice none 0 0) ∧ W.frozen? ⟨(w.heap.size + 1 + 1), 0, none⟩ = false ∧ W.frozen? ⟨(w.heap.size + 1 + 1), 1, none⟩ = false) := fun W hW => by
                  have bm' := blk_below bm hW
                  have br' := blk_below br hW
                  exact ⟨cell_of_row W _ 3 _ _ _ bm', cell_of_row W _ 4 _ _ _ bm', cell_of_row W _ 0 _ _ _ br', cell_of_row W _ 1 _ _ _ br', frozen_of_row W _ 0 _ _ br', frozen_of_row W _ 1 _ _ br'⟩
                obtain ⟨k1, k2, k3, k4, k5, k6⟩ := hkeep.out V3 (Below.refl _ _)
                have HRB : Hid (∀ w5, ((V3.alloc (.cells #[] 60)).drew).grownBy w5 (Value.slice (some ⟨V3.heap.size, 0, none⟩) 0 0).ownBlock → Below V3.heap.size V3 w5) := fun w5 hg => (((Below.refl _ V3).alloc (Nat.le_refl _) _).drew).grown hg (by simp) (fun g hg => by cases hg; exact Nat.le_refl _)
                have hkeep2 : Hid (∀ w' : World, Below V3.heap.size V3 w' → w'.cell? ⟨(w.heap.size + 1), 3, none⟩ = some (.int .i64 no) ∧ w'.cell? ⟨(w.heap.size + 1), 4, none⟩ = some (.slice Am nm cm)) := fun W hW => ⟨(hkeep.out W hW).1, (hkeep.out W hW).2.1⟩
                go_region_held3 (fun w' => w'.cell? ⟨(w.heap.size + 1), 3, none⟩ = some (.int .i64 no) ∧ w'.cell? ⟨(w.heap.size + 1), 4, none⟩ = some (.slice Am nm cm))
                  (first | go_keep | exact hkeep2.out _ (HRB.out w5 hg5)) ((refine step_appK (v := .slice (some ⟨V3.heap.size, 0, none⟩) 0 0) _ _ elP (by rfl) (by rfl) (by rfl) (by rfl) (by exact own_drew ho) (by exact RdK.drewN ha 1) (pv_one lm) (by omega) (by omega) (by simp) ?_; intro v5 w5 hown5 hg5 hat5; simp only [Nat.zero_add, List.nil_append] at hown5; obtain ⟨A5, c5, rfl, rv5⟩ := own_rdK hown5; obtain ⟨k1', k2', k3', k4', k5', k6'⟩ := hkeep.out _ (HRB.out w5 hg5)))
                have br' := blk_below br (HRB.out w5 hg5)
                have hb5 := HRB.out w5 hg5
                clear k1 k2 k3 k4 k5 k6 k1' k2' k3' k4' k5' k6' hkeep hkeep2 HRB
                go_wp2
                refine bodyPost_ret (results_cell_row2 rfl _ _ (w.heap.size + 1 + 1) 27 _ (0, 0) _ rfl (heap_setCell_same _ _ 1 _ _ _ (heap_setCell_same w5 _ 0 _ _ _ br')) Try.underlying27 rfl infoClient) rfl ?_
                rw [HE.out, HC.out]
                have hlt3 : w.heap.size + 1 + 1 < V3.heap.size := (Array.getElem?_eq_some_iff.1 br).1
                have hne : ∀ g, (Value.slice A5 nm c5).ownBlock = some g → w.heap.size + 1 + 1 ≠ g := fun g hg => by have := (hown5.lt g hg).1; omega
                refine ⟨.slice A5 nm c5, rfl, ?_, (((hbt.trans (hb5.mono hbt.size))).setCell (p := ⟨w.heap.size + 1 + 1, 0, none⟩) (by simp only []; omega) _).setCell (p := ⟨w.heap.size + 1 + 1, 1, none⟩) (by simp only []; omega) _⟩
                show World.ownsRow _ _ _ _ _ (lm).length (pv (lm))
                rw [hlm.out]
                exact own_set (own_set (own_mono hown5 (by omega)) hne) hne
            · have d5 : ((2 : Int) != 1) = true := by simp
              have d6 : ((2 : Int) != 2) = false := by simp
              by_cases h7 : no ≤ cno
              · have d7 : decide (no ≤ cno) = true := decide_eq_true h7
                have cbc0 := cell_of_row V3 w.heap.size 0 _ _ _ bc
                simp only [List.getElem?_toArray, List.getElem?_cons_zero, List.getElem?_cons_succ] at cbc0
                have cbc1 := cell_of_row V3 w.heap.size 1 _ _ _ bc
                simp only [List.getElem?_toArray, List.getElem?_cons_zero, List.getElem?_cons_succ] at cbc1
                have cbm0 := cell_of_row V3 (w.heap.size + 1) 0 _ _ _ bm
                simp only [List.getElem?_toArray, List.getElem?_cons_zero, List.getElem?_cons_succ] at cbm0
                have cbm1 := cell_of_row V3 (w.heap.size + 1) 1 _ _ _ bm
                simp only [List.getElem?_toArray, List.getElem?_cons_zero, List.getElem?_cons_succ] at cbm1
                have cbm2 := cell_of_row V3 (w.heap.size + 1) 2 _ _ _ bm
                simp only [List.getElem?_toArray, List.getElem?_cons_zero, List.getElem?_cons_succ] at cbm2
                have cbm3 := cell_of_row V3 (w.heap.size + 1) 3 _ _ _ bm
                simp only [List.getElem?_toArray, List.getElem?_cons_zero, List.getElem?_cons_succ] at cbm3
                have cbm4 := cell_of_row V3 (w.heap.size + 1) 4 _ _ _ bm
                simp only [List.getElem?_toArray, List.getElem?_cons_zero, List.getElem?_cons_succ] at cbm4
                have cbm5 := cell_of_row V3 (w.heap.size + 1) 5 _ _ _ bm
                simp only [List.getElem?_toArray, List.getElem?_cons_zero, List.getElem?_cons_succ] at cbm5
                have cbr0 := cell_of_row V3 (w.heap.size + 1 + 1) 0 _ _ _ br
                simp only [List.getElem?_toArray, List.getElem?_cons_zero, List.getElem?_cons_succ] at cbr0
                have cbr1 := cell_of_row V3 (w.heap.size + 1 + 1) 1 _ _ _ br
                simp only [List.getElem?_toArray, List.getElem?_cons_zero, List.getElem?_cons_succ] at cbr1
                rw [← HVV3.out] at cbc0 cbc1 cbm0 cbm1 cbm2 cbm3 cbm4 cbm5 cbr0 cbr1
                rw [← HVV2.out] at cbc0 cbc1 cbm0 cbm1 cbm2 cbm3 cbm4 cbm5 cbr0 cbr1
                rw [← HVV1.out] at cbc0 cbc1 cbm0 cbm1 cbm2 cbm3 cbm4 cbm5 cbr0 cbr1
                go_wp2_with fail
                rw [HVV1.out]
                clear HVV1
                rw [HVV2.out]
                clear HVV2
                rw [HVV3.out]
                clear HVV3
                clear cbc0 cbc1 cbm0 cbm1 cbm2 cbm3 cbm4 cbm5 cbr0 cbr1
                refine bodyPost_ret (results_cell_row2 rfl _ _ (w.heap.size + 1 + 1) 27 _ (0, 0) _ rfl br Try.underlying27 rfl infoClient) rfl ?_
                exact (HZ.out 341 (by rw [HTE.out, if_pos h7]) (by decide) _ hbt)
              · have d7 : decide (no ≤ cno) = false := decide_eq_false h7
                have HE : Hid (takeE ⟨cno, l⟩ ⟨2, to, f, no, lm, ms⟩ = t2E ⟨cno, l⟩ f ms) := by show takeE _ _ = _; rw [HTE.out, if_neg h7, if_neg (by decide)]
                have HC : Hid (takeC ⟨cno, l⟩ ⟨2, to, f, no, lm, ms⟩ = if t2E ⟨cno, l⟩ f ms = 0 then ⟨no, t2L ⟨cno, l⟩ f ms⟩ else zeroC) := by show takeC _ _ = _; rw [HTC.out (by omega), if_neg (by decide)]
                clear HTE HTC
                by_cases h8 : f = cno
                · subst h8
                  have d8 : (f != f) = false := by simp
                  have HT : Hid (t2E ⟨f, l⟩ f ms = appE l ms ∧ t2L ⟨f, l⟩ f ms = appL l ms) := by refine ⟨?_, ?_⟩ <;> simp [t2E, t2L]
                  rw [HT.out.1] at HE
                  rw [HT.out.1, HT.out.2] at HC
                  clear HT
                  have cbc0 := cell_of_row V3 w.heap.size 0 _ _ _ bc
                  simp only [List.getElem?_toArray, List.getElem?_cons_zero, List.getElem?_cons_succ] at cbc0
                  have cbc1 := cell_of_row V3 w.heap.size 1 _ _ _ bc
                  simp only [List.getElem?_toArray, List.getElem?_cons_zero, List.getElem?_cons_succ] at cbc1
                  have cbm0 := cell_of_row V3 (w.heap.size + 1) 0 _ _ _ bm
                  simp only [List.getElem?_toArray, List.getElem?_cons_zero, List.getElem?_cons_succ] at cbm0
                  have cbm1 := cell_of_row V3 (w.heap.size + 1) 1 _ _ _ bm
                  simp only [List.getElem?_toArray, List.getElem?_cons_zero, List.getElem?_cons_succ] at cbm1
                  have cbm2 := cell_of_row V3 (w.heap.size + 1) 2 _ _ _ bm
                  simp only [List.getElem?_toArray, List.getElem?_cons_zero, List.getElem?_cons_succ] at cbm2
                  have cbm3 := cell_of_row V3 (w.heap.size + 1) 3 _ _ _ bm
                  simp only [List.getElem?_toArray, List.getElem?_cons_zero, List.getElem?_cons_succ] at cbm3
                  have cbm4 := cell_of_row V3 (w.heap.size + 1) 4 _ _ _ bm
                  simp only [List.getElem?_toArray, List.getElem?_cons_zero, List.getElem?_cons_succ] at cbm4
                  have cbm5 := cell_of_row V3 (w.heap.size + 1) 5 _ _ _ bm
                  simp only [List.getElem?_toArray, List.getElem?_cons_zero, List.getElem?_cons_succ] at cbm5
                  have cbr0 := cell_of_row V3 (w.heap.size + 1 + 1) 0 _ _ _ br
                  simp only [List.getElem?_toArray, List.getElem?_cons_zero, List.getElem?_cons_succ] at cbr0
                  have cbr1 := cell_of_row V3 (w.heap.size + 1 + 1) 1 _ _ _ br
                  simp only [List.getElem?_toArray, List.getElem?_cons_zero, List.getElem?_cons_succ] at cbr1
                  rw [← HVV3.out] at cbc0 cbc1 cbm0 cbm1 cbm2 cbm3 cbm4 cbm5 cbr0 cbr1
                  rw [← HVV2.out] at cbc0 cbc1 cbm0 cbm1 cbm2 cbm3 cbm4 cbm5 cbr0 cbr1
                  rw [← HVV1.out] at cbc0 cbc1 cbm0 cbm1 cbm2 cbm3 cbm4 cbm5 cbr0 cbr1
                  go_wp2_with fail
                  rw [HVV1.out]
                  clear HVV1
                  rw [HVV2.out]
                  clear HVV2
                  rw [HVV3.out]
                  clear HVV3
                  clear cbc0 cbc1 cbm0 cbm1 cbm2 cbm3 cbm4 cbm5 cbr0 cbr1
                  refine (rapply_any A A' n c m c' l ms V3 h h' hn).mono ?_
                  rintro e w5 ⟨v, rfl, ho, hb⟩
                  have hlx : (appL l ms).length ≤ 1073741824 := Nat.le_trans (okPs_appL2 h.2 h'.2).2 (by rw [hl.out]; exact hn)
                  generalize appE l ms = E at *
                  generalize appL l ms = al at *
                  obtain ⟨A5, c5, rfl, rv5⟩ := own_rdK ho
                  have y1 := rv5.le
                  have y2 := rv5.max
                  obtain ⟨n5, hn5⟩ : ∃ x, x = al.length := ⟨_, rfl⟩
                  rw [← hn5] at ho rv5 y1 hlx ⊢
                  have HN5 := Lib.hid hn5
                  clear hn5
                  replace h := (h.below hb).more hb.size
                  replace hm := (hm.below hb).more hb.size
                  replace h' := (h'.below hb).more hb.size
                  replace bc := blk_below bc hb
                  replace bm := blk_below bm hb
                  replace br := blk_below br hb
                  replace hbt := hbt.trans (hb.mono hbt.size)
                  clear hb
                  replace ho := own_mono ho (show w.heap.size + 1 + 1 + 1 ≤ V3.heap.size by have := HSV3.out; have := HSV.out; omega)
                  have ho6 := ho.alloc (.cells #[.slice A5 n5 c5] 25)
                  obtain ⟨V5, hV⟩ : ∃ V5, V5 = w5.alloc (.cells #[.slice A5 n5 c5] 25) := ⟨_, rfl⟩
                  have bw := blk_new hV
                  have hb := below_new hV
                  replace h := (h.below hb).more hb.size
                  replace hm := (hm.below hb).more hb.size
                  replace h' := (h'.below hb).more hb.size
                  replace bc := blk_below bc hb
                  replace bm := blk_below bm hb
                  replace br := blk_below br hb
                  replace hbt := hbt.trans (hb.mono hbt.size)
                  clear hb
                  have HSV5 : Hid (V5.heap.size = w5.heap.size + 1) := by show V5.heap.size = _; rw [hV, World.size_alloc]
                  have HVV5 := Lib.hid hV.symm
                  clear hV
                  rw [HVV5.out] at ho6
                  clear ho
                  by_cases h9 : E = 0
                  · subst h9
                    rw [if_pos rfl] at HC
                    have fr0 := frozen_of_row V5 (w.heap.size + 1 + 1) 0 _ _ br
                    have fr1 := frozen_of_row V5 (w.heap.size + 1 + 1) 1 _ _ br
                    rw [← HVV5.out] at fr0 fr1
                    have cbc0 := cell_of_row V5 w.heap.size 0 _ _ _ bc
                    simp only [List.getElem?_toArray, List.getElem?_cons_zero, List.getElem?_cons_succ] at cbc0
                    have cbc1 := cell_of_row V5 w.heap.size 1 _ _ _ bc
                    simp only [List.getElem?_toArray, List.getElem?_cons_zero, List.getElem?_cons_succ] at cbc1
                    have cbm0 := cell_of_row V5 (w.heap.size + 1) 0 _ _ _ bm
                    simp only [List.getElem?_toArray, List.getElem?_cons_zero, List.getElem?_cons_succ] at cbm0
                    have cbm1 := cell_of_row V5 (w.heap.size + 1) 1 _ _ _ bm
                    simp only [List.getElem?_toArray, List.getElem?_cons_zero, List.getElem?_cons_succ] at cbm1
                    have cbm2 := cell_of_row V5 (w.heap.size + 1) 2 _ _ _ bm
                    simp only [List.getElem?_toArray, List.getElem?_cons_zero, List.getElem?_cons_succ] at cbm2
                    have cbm3 := cell_of_row V5 (w.heap.size + 1) 3 _ _ _ bm
                    simp only [List.getElem?_toArray, List.getElem?_cons_zero, List.getElem?_cons_succ] at cbm3
                    have cbm4 := cell_of_row V5 (w.heap.size + 1) 4 _ _ _ bm
                    simp only [List.getElem?_toArray, List.getElem?_cons_zero, List.getElem?_cons_succ] at cbm4
                    have cbm5 := cell_of_row V5 (w.heap.size + 1) 5 _ _ _ bm
                    simp only [List.getElem?_toArray, List.getElem?_cons_zero, List.getElem?_cons_succ] at cbm5
                    have cbr0 := cell_of_row V5 (w.heap.size + 1 + 1) 0 _ _ _ br
                    simp only [List.getElem?_toArray, List.getElem?_cons_zero, List.getElem?_cons_succ] at cbr0
                    have cbr1 := cell_of_row V5 (w.heap.size + 1 + 1) 1 _ _ _ br
                    simp only [List.getElem?_toArray, List.getElem?_cons_zero, List.getElem?_cons_succ] at cbr1
                    have cbw0 := cell_of_row V5 w5.heap.size 0 _ _ _ bw
                    simp only [List.getElem?_toArray, List.getElem?_cons_zero, List.getElem?_cons_succ] at cbw0
                    rw [← HVV5.out] at cbc0 cbc1 cbm0 cbm1 cbm2 cbm3 cbm4 cbm5 cbr0 cbr1 cbw0
                    go_wp2_with fail
                    rw [HVV5.out]
                    clear HVV5
                    clear cbc0 cbc1 cbm0 cbm1 cbm2 cbm3 cbm4 cbm5 cbr0 cbr1 cbw0
                    clear fr0 fr1
                    refine bodyPost_ret (results_cell_row2 rfl _ _ (w.heap.size + 1 + 1) 27 _ (0, 0) _ rfl (heap_setCell_same _ _ 1 _ _ _ (heap_setCell_same V5 _ 0 _ _ _ br)) Try.underlying27 rfl infoClient) rfl ?_
                    rw [HE.out, HC.out]
                    have hlt3 : w.heap.size + 1 + 1 < V5.heap.size := (Array.getElem?_eq_some_iff.1 br).1
                    have hne : ∀ g, (Value.slice A5 n5 c5).ownBlock = some g → w.heap.size + 1 + 1 ≠ g := fun g hg => by have := (ho6.lt g hg).1; omega
                    refine ⟨.slice A5 n5 c5, rfl, ?_, ((hbt).setCell (p := ⟨w.heap.size + 1 + 1, 0, none⟩) (by simp only []; omega) _).setCell (p := ⟨w.heap.size + 1 + 1, 1, none⟩) (by simp only []; omega) _⟩
                    show World.ownsRow _ _ _ _ _ (al).length (pv (al))
                    rw [← HN5.out]
                    exact own_set (own_set (own_mono ho6 (by omega)) hne) hne
                  · have d9 : (E != 0) = true := by simpa using h9
                    have fr0 := frozen_of_row V5 (w.heap.size + 1 + 1) 0 _ _ br
                    have fr1 := frozen_of_row V5 (w.heap.size + 1 + 1) 1 _ _ br
                    rw [← HVV5.out] at fr0 fr1
                    have cbc0 := cell_of_row V5 w.heap.size 0 _ _ _ bc
                    simp only [List.getElem?_toArray, List.getElem?_cons_zero, List.getElem?_cons_succ] at cbc0
                    have cbc1 := cell_of_row V5 w.heap.size 1 _ _ _ bc
                    simp only [List.getElem?_toArray, List.getElem?_cons_zero, List.getElem?_cons_succ] at cbc1
                    have cbm0 := cell_of_row V5 (w.heap.size + 1) 0 _ _ _ bm
                    simp only [List.getElem?_toArray, List.getElem?_cons_zero, List.getElem?_cons_succ] at cbm0
                    have cbm1 := cell_of_row V5 (w.heap.size + 1) 1 _ _ _ bm
                    simp only [List.getElem?_toArray, List.getElem?_cons_zero, List.getElem?_cons_succ] at cbm1
                    have cbm2 := cell_of_row V5 (w.heap.size + 1) 2 _ _ _ bm
                    simp only [List.getElem?_toArray, List.getElem?_cons_zero, List.getElem?_cons_succ] at cbm2
                    have cbm3 := cell_of_row V5 (w.heap.size + 1) 3 _ _ _ bm
                    simp only [List.getElem?_toArray, List.getElem?_cons_zero, List.getElem?_cons_succ] at cbm3
                    have cbm4 := cell_of_row V5 (w.heap.size + 1) 4 _ _ _ bm
                    simp only [List.getElem?_toArray, List.getElem?_cons_zero, List.getElem?_cons_succ] at cbm4
                    have cbm5 := cell_of_row V5 (w.heap.size + 1) 5 _ _ _ bm
                    simp only [List.getElem?_toArray, List.getElem?_cons_zero, List.getElem?_cons_succ] at cbm5
                    have cbr0 := cell_of_row V5 (w.heap.size + 1 + 1) 0 _ _ _ br
                    simp only [List.getElem?_toArray, List.getElem?_cons_zero, List.getElem?_cons_succ] at cbr0
                    have cbr1 := cell_of_row V5 (w.heap.size + 1 + 1) 1 _ _ _ br
                    simp only [List.getElem?_toArray, List.getElem?_cons_zero, List.getElem?_cons_succ] at cbr1
                    have cbw0 := cell_of_row V5 w5.heap.size 0 _ _ _ bw
                    simp only [List.getElem?_toArray, List.getElem?_cons_zero, List.getElem?_cons_succ] at cbw0
                    rw [← HVV5.out] at cbc0 cbc1 cbm0 cbm1 cbm2 cbm3 cbm4 cbm5 cbr0 cbr1 cbw0
                    go_wp2_with fail
                    rw [HVV5.out]
                    clear HVV5
                    clear cbc0 cbc1 cbm0 cbm1 cbm2 cbm3 cbm4 cbm5 cbr0 cbr1 cbw0
                    refine bodyPost_ret (results_cell_row2 rfl _ _ (w.heap.size + 1 + 1) 27 _ (0, 0) _ rfl (heap_setCell_same _ _ 1 _ _ _ (heap_setCell_same V5 _ 0 _ _ _ br)) Try.underlying27 rfl infoClient) rfl ?_
                    exact HZ.out E (by rw [HE.out]) h9 _ ((hbt.setCell (p := ⟨w.heap.size + 1 + 1, 0, none⟩) (by simp only []; omega) _).setCell (p := ⟨w.heap.size + 1 + 1, 1, none⟩) (by simp only []; omega) _)
                · have d8 : (f != cno) = true := by simpa using h8
                  have cbc0 := cell_of_row V3 w.heap.size 0 _ _ _ bc
                  simp only [List.getElem?_toArray, List.getElem?_cons_zero, List.getElem?_cons_succ] at cbc0
                  have cbc1 := cell_of_row V3 w.heap.size 1 _ _ _ bc
                  simp only [List.getElem?_toArray, List.getElem?_cons_zero, List.getElem?_cons_succ] at cbc1
                  have cbm0 := cell_of_row V3 (w.heap.size + 1) 0 _ _ _ bm
                  simp only [List.getElem?_toArray, List.getElem?_cons_zero, List.getElem?_cons_succ] at cbm0
                  have cbm1 := cell_of_row V3 (w.heap.size + 1) 1 _ _ _ bm
                  simp only [List.getElem?_toArray, List.getElem?_cons_zero, List.getElem?_cons_succ] at cbm1
                  have cbm2 := cell_of_row V3 (w.heap.size + 1) 2 _ _ _ bm
                  simp only [List.getElem?_toArray, List.getElem?_cons_zero, List.getElem?_cons_succ] at cbm2
                  have cbm3 := cell_of_row V3 (w.heap.size + 1) 3 _ _ _ bm
                  simp only [List.getElem?_toArray, List.getElem?_cons_zero, List.getElem?_cons_succ] at cbm3
                  have cbm4 := cell_of_row V3 (w.heap.size + 1) 4 _ _ _ bm
                  simp only [List.getElem?_toArray, List.getElem?_cons_zero, List.getElem?_cons_succ] at cbm4
                  have cbm5 := cell_of_row V3 (w.heap.size + 1) 5 _ _ _ bm
                  simp only [List.getElem?_toArray, List.getElem?_cons_zero, List.getElem?_cons_succ] at cbm5
                  have cbr0 := cell_of_row V3 (w.heap.size + 1 + 1) 0 _ _ _ br
                  simp only [List.getElem?_toArray, List.getElem?_cons_zero, List.getElem?_cons_succ] at cbr0
                  have cbr1 := cell_of_row V3 (w.heap.size + 1 + 1) 1 _ _ _ br
                  simp only [List.getElem?_toArray, List.getElem?_cons_zero, List.getElem?_cons_succ] at cbr1
                  rw [← HVV3.out] at cbc0 cbc1 cbm0 cbm1 cbm2 cbm3 cbm4 cbm5 cbr0 cbr1
                  rw [← HVV2.out] at cbc0 cbc1 cbm0 cbm1 cbm2 cbm3 cbm4 cbm5 cbr0 cbr1
                  rw [← HVV1.out] at cbc0 cbc1 cbm0 cbm1 cbm2 cbm3 cbm4 cbm5 cbr0 cbr1
                  go_wp2_with fail
                  rw [HVV1.out]
                  clear HVV1
                  rw [HVV2.out]
                  clear HVV2
                  rw [HVV3.out]
                  clear HVV3
                  clear cbc0 cbc1 cbm0 cbm1 cbm2 cbm3 cbm4 cbm5 cbr0 cbr1
                  refine bodyPost_ret (results_cell_row2 rfl _ _ (w.heap.size + 1 + 1) 27 _ (0, 0) _ rfl br Try.underlying27 rfl infoClient) rfl ?_
                  exact (HZ.out 350 (by rw [HE.out]; unfold t2E; rw [if_neg h8]) (by decide) _ hbt)
          · have d5 : (kind != 1) = true := by simp; omega
            have d6 : (kind != 2) = true := by simp; omega
            have cbc0 := cell_of_row V3 w.heap.size 0 _ _ _ bc
            simp only [List.getElem?_toArray, List.getElem?_cons_zero, List.getElem?_cons_succ] at cbc0
            have cbc1 := cell_of_row V3 w.heap.size 1 _ _ _ bc
            simp only [List.getElem?_toArray, List.getElem?_cons_zero, List.getElem?_cons_succ] at cbc1
            have cbm0 := cell_of_row V3 (w.heap.size + 1) 0 _ _ _ bm
            simp only [List.getElem?_toArray, List.getElem?_cons_zero, List.getElem?_cons_succ] at cbm0
            have cbm1 := cell_of_row V3 (w.heap.size + 1) 1 _ _ _ bm
            simp only [List.getElem?_toArray, List.getElem?_cons_zero, List.getElem?_cons_succ] at cbm1
            have cbm2 := cell_of_row V3 (w.heap.size + 1) 2 _ _ _ bm
            simp only [List.getElem?_toArray, List.getElem?_cons_zero, List.getElem?_cons_succ] at cbm2
            have cbm3 := cell_of_row V3 (w.heap.size + 1) 3 _ _ _ bm
            simp only [List.getElem?_toArray, List.getElem?_cons_zero, List.getElem?_cons_succ] at cbm3
            have cbm4 := cell_of_row V3 (w.heap.size + 1) 4 _ _ _ bm
            simp only [List.getElem?_toArray, List.getElem?_cons_zero, List.getElem?_cons_succ] at cbm4
            have cbm5 := cell_of_row V3 (w.heap.size + 1) 5 _ _ _ bm
            simp only [List.getElem?_toArray, List.getElem?_cons_zero, List.getElem?_cons_succ] at cbm5
            have cbr0 := cell_of_row V3 (w.heap.size + 1 + 1) 0 _ _ _ br
            simp only [List.getElem?_toArray, List.getElem?_cons_zero, List.getElem?_cons_succ] at cbr0
            have cbr1 := cell_of_row V3 (w.heap.size + 1 + 1) 1 _ _ _ br
            simp only [List.getElem?_toArray, List.getElem?_cons_zero, List.getElem?_cons_succ] at cbr1
            rw [← HVV3.out] at cbc0 cbc1 cbm0 cbm1 cbm2 cbm3 cbm4 cbm5 cbr0 cbr1
            rw [← HVV2.out] at cbc0 cbc1 cbm0 cbm1 cbm2 cbm3 cbm4 cbm5 cbr0 cbr1
            rw [← HVV1.out] at cbc0 cbc1 cbm0 cbm1 cbm2 cbm3 cbm4 cbm5 cbr0 cbr1
            go_wp2_with fail
            rw [HVV1.out]
            clear HVV1
            rw [HVV2.out]
            clear HVV2
            rw [HVV3.out]
            clear HVV3
            clear cbc0 cbc1 cbm0 cbm1 cbm2 cbm3 cbm4 cbm5 cbr0 cbr1
            refine bodyPost_ret (results_cell_row2 rfl _ _ (w.heap.size + 1 + 1) 27 _ (0, 0) _ rfl br Try.underlying27 rfl infoClient) rfl ?_
            exact (HZ.out 1 (show takeE ⟨cno, l⟩ ⟨kind, to, f, no, lm, ms⟩ = 1 from by unfold takeE; rw [if_neg (fun hh => by dsimp only at hh; omega)]) (by decide) _ hbt)
end Go.Proofs.Ytmighpfjjaaknaa
