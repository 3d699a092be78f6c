/-
  FeedTakes, walked.
-/
import Derived.Test.YtmighpfjjaaknaaPlain
import Derived.Test.YtmighpfjjaaknaaArgs
import Derived.Test.YtmighpfjjaaknaaRTakeX
namespace Go.Proofs.Ytmighpfjjaaknaa
open Go.RowKit
set_option linter.unusedVariables false
set_option linter.unusedSimpArgs false

set_option maxRecDepth 20000 in
set_option maxHeartbeats 2000000 in
theorem feedTakes_any (kind to f no cno : Int) (A Am A' : Option Addr) (n c nm cm m c' : Nat) (l lm : List Pl) (ms : List Mv) (w : World) (h : RdP w w.heap.size A n c l) (hm : RdP w w.heap.size Am nm cm lm) (h' : RdM w w.heap.size A' m c' ms) :
    Calls Try.prog 4 #[.agg #[.int .i64 cno, .slice A n c], .agg #[.int .i64 kind, .int .i64 to, .int .i64 f, .int .i64 no, .slice Am nm cm, .slice A' m c']] w fun e w' => e = .returned (.bool true) ∧ Below w.heap.size w w' := by
  have n1 := h.max
  have n2 := h.le
  have n3 := hm.max
  have n4 := hm.le
  have n5 := h'.max
  have n6 := h'.le
  have hl := Lib.hid h.len
  have hlm := Lib.hid hm.len
  obtain ⟨V1, hV⟩ : ∃ V1, V1 = w.alloc (.cells #[.int .i64 cno, .slice A n c] 27) := ⟨_, rfl⟩
  have bc := blk_new hV
  have hb := below_new hV
  have hbt := hb
  clear hb
  have HSV1 : Hid (V1.heap.size = w.heap.size + 1) := by show V1.heap.size = _; rw [hV, World.size_alloc]
  have HVV1 := Lib.hid hV.symm
  clear hV
  replace h := (h.below hbt).more hbt.size
  replace hm := (hm.below hbt).more hbt.size
  replace h' := (h'.below hbt).more hbt.size
  obtain ⟨V2, hV⟩ : ∃ V2, V2 = V1.alloc (.cells #[.int .i64 kind, .int .i64 to, .int .i64 f, .int .i64 no, .slice Am nm cm, .slice A' m c'] 32) := ⟨_, rfl⟩
  have bm := blk_new hV
  rw [HSV1.out] at bm
  have hb := below_new hV
  replace h := (h.below hb).more hb.size
  replace hm := (hm.below hb).more hb.size
  replace h' := (h'.below hb).more hb.size
  replace bc := blk_below bc hb
  replace hbt := hbt.trans (hb.mono hbt.size)
  clear hb
  have HSV2 : Hid (V2.heap.size = V1.heap.size + 1) := by show V2.heap.size = _; rw [hV, World.size_alloc]
  have HVV2 := Lib.hid hV.symm
  clear hV
  go_enter Try.func4, Try.ntmps4
  go_wp2_with fail
  rw [HVV1.out]
  clear HVV1
  rw [HVV2.out]
  clear HVV2
  refine (live_any V2).mono ?_
  rintro e w1 ⟨rfl, hb⟩
  replace h := (h.below hb).more hb.size
  replace hm := (hm.below hb).more hb.size
  replace h' := (h'.below hb).more hb.size
  replace bc := blk_below bc hb
  replace bm := blk_below bm hb
  replace hbt := hbt.trans (hb.mono hbt.size)
  clear hb
  by_cases h70 : n ≤ 70
  · have d1 : decide ((70 : Int) < (n : Int)) = false := by simp; omega
    have cbc0 := cell_of_row w1 w.heap.size 0 _ _ _ bc
    simp only [List.getElem?_toArray, List.getElem?_cons_zero, List.getElem?_cons_succ] at cbc0
    have cbc1 := cell_of_row w1 w.heap.size 1 _ _ _ bc
    simp only [List.getElem?_toArray, List.getElem?_cons_zero, List.getElem?_cons_succ] at cbc1
    have cbm0 := cell_of_row w1 (w.heap.size + 1) 0 _ _ _ bm
    simp only [List.getElem?_toArray, List.getElem?_cons_zero, List.getElem?_cons_succ] at cbm0
    have cbm1 := cell_of_row w1 (w.heap.size + 1) 1 _ _ _ bm
    simp only [List.getElem?_toArray, List.getElem?_cons_zero, List.getElem?_cons_succ] at cbm1
    have cbm2 := cell_of_row w1 (w.heap.size + 1) 2 _ _ _ bm
    simp only [List.getElem?_toArray, List.getElem?_cons_zero, List.getElem?_cons_succ] at cbm2
    have cbm3 := cell_of_row w1 (w.heap.size + 1) 3 _ _ _ bm
    simp only [List.getElem?_toArray, List.getElem?_cons_zero, List.getElem?_cons_succ] at cbm3
    have cbm4 := cell_of_row w1 (w.heap.size + 1) 4 _ _ _ bm
    simp only [List.getElem?_toArray, List.getElem?_cons_zero, List.getElem?_cons_succ] at cbm4
    have cbm5 := cell_of_row w1 (w.heap.size + 1) 5 _ _ _ bm
    simp only [List.getElem?_toArray, List.getElem?_cons_zero, List.getElem?_cons_succ] at cbm5
    go_wp2_with fail
    clear cbc0 cbc1 cbm0 cbm1 cbm2 cbm3 cbm4 cbm5
    refine (fewMsg_any _ _ _ _ _ _ _ _ _ _ w1 (by omega) (by omega)).mono ?_
    rintro e w2 ⟨rfl, hb⟩
    replace h := (h.below hb).more hb.size
    replace hm := (hm.below hb).more hb.size
    replace h' := (h'.below hb).more hb.size
    replace bc := blk_below bc hb
    replace bm := blk_below bm hb
    replace hbt := hbt.trans (hb.mono hbt.size)
    clear hb
    by_cases hfew : nm ≤ 70 ∧ m ≤ 70
    · rw [decide_eq_true hfew]
      have hn1 := hfew.1
      have hn2 := hfew.2
      clear hfew
      have cbc0 := cell_of_row w2 w.heap.size 0 _ _ _ bc
      simp only [List.getElem?_toArray, List.getElem?_cons_zero, List.getElem?_cons_succ] at cbc0
      have cbc1 := cell_of_row w2 w.heap.size 1 _ _ _ bc
      simp only [List.getElem?_toArray, List.getElem?_cons_zero, List.getElem?_cons_succ] at cbc1
      have cbm0 := cell_of_row w2 (w.heap.size + 1) 0 _ _ _ bm
      simp only [List.getElem?_toArray, List.getElem?_cons_zero, List.getElem?_cons_succ] at cbm0
      have cbm1 := cell_of_row w2 (w.heap.size + 1) 1 _ _ _ bm
      simp only [List.getElem?_toArray, List.getElem?_cons_zero, List.getElem?_cons_succ] at cbm1
      have cbm2 := cell_of_row w2 (w.heap.size + 1) 2 _ _ _ bm
      simp only [List.getElem?_toArray, List.getElem?_cons_zero, List.getElem?_cons_succ] at cbm2
      have cbm3 := cell_of_row w2 (w.heap.size + 1) 3 _ _ _ bm
      simp only [List.getElem?_toArray, List.getElem?_cons_zero, List.getElem?_cons_succ] at cbm3
      have cbm4 := cell_of_row w2 (w.heap.size + 1) 4 _ _ _ bm
      simp only [List.getElem?_toArray, List.getElem?_cons_zero, List.getElem?_cons_succ] at cbm4
      have cbm5 := cell_of_row w2 (w.heap.size + 1) 5 _ _ _ bm
      simp only [List.getElem?_toArray, List.getElem?_cons_zero, List.getElem?_cons_succ] at cbm5
      go_wp2_with fail
      clear cbc0 cbc1 cbm0 cbm1 cbm2 cbm3 cbm4 cbm5
      have hok := takeC_ok (c := ⟨cno, l⟩) (m := ⟨kind, to, f, no, lm, ms⟩) h.2 hm.2 h'.2
      have HT := Lib.hid (take_any kind to f no cno _ _ _ _ _ _ _ _ _ l lm ms w2 h hm h' (by omega) (by omega))
      have HR := Lib.hid (fun (W : World) h hm h' => rtake_any kind to f no cno A Am A' n c nm cm m c' l lm ms W h hm h' (by omega) (by omega))
      generalize takeC ⟨cno, l⟩ ⟨kind, to, f, no, lm, ms⟩ = X at *
      generalize takeE ⟨cno, l⟩ ⟨kind, to, f, no, lm, ms⟩ = E at *
      obtain ⟨xno, lx⟩ := X
      dsimp only at hok
      refine HT.out.mono ?_
      rintro e w3 ⟨v, rfl, ho, hb⟩
      dsimp only at ho ⊢
      obtain ⟨A3, k3, rfl, q3⟩ := own_rdP ho hok
      clear ho
      replace h := (h.below hb).more hb.size
      replace hm := (hm.below hb).more hb.size
      replace h' := (h'.below hb).more hb.size
      replace bc := blk_below bc hb
      replace bm := blk_below bm hb
      replace hbt := hbt.trans (hb.mono hbt.size)
      clear hb
      obtain ⟨V3, hV⟩ : ∃ V3, V3 = w3.alloc (.cells #[.int .i64 xno, .slice A3 lx.length k3] 27) := ⟨_, rfl⟩
      have bx3 := blk_new hV
      have hb := below_new hV
      replace h := (h.below hb).more hb.size
      replace hm := (hm.below hb).more hb.size
      replace h' := (h'.below hb).more hb.size
      replace bc := blk_below bc hb
      replace bm := blk_below bm hb
      replace q3 := (q3.below hb).more hb.size
      replace hbt := hbt.trans (hb.mono hbt.size)
      clear hb
      have HSV3 : Hid (V3.heap.size = w3.heap.size + 1) := by show V3.heap.size = _; rw [hV, World.size_alloc]
      have HVV3 := Lib.hid hV.symm
      clear hV
      have cbc0 := cell_of_row V3 w.heap.size 0 _ _ _ bc
      simp only [List.getElem?_toArray, List.getElem?_cons_zero, List.getElem?_cons_succ] at cbc0
      have cbc1 := cell_of_row V3 w.heap.size 1 _ _ _ bc
      simp only [List.getElem?_toArray, List.getElem?_cons_zero, List.getElem?_cons_succ] at cbc1
      have cbm0 := cell_of_row V3 (w.heap.size + 1) 0 _ _ _ bm
      simp only [List.getElem?_toArray, List.getElem?_cons_zero, List.getElem?_cons_succ] at cbm0
      have cbm1 := cell_of_row V3 (w.heap.size + 1) 1 _ _ _ bm
      simp only [List.getElem?_toArray, List.getElem?_cons_zero, List.getElem?_cons_succ] at cbm1
      have cbm2 := cell_of_row V3 (w.heap.size + 1) 2 _ _ _ bm
      simp only [List.getElem?_toArray, List.getElem?_cons_zero, List.getElem?_cons_succ] at cbm2
      have cbm3 := cell_of_row V3 (w.heap.size + 1) 3 _ _ _ bm
      simp only [List.getElem?_toArray, List.getElem?_cons_zero, List.getElem?_cons_succ] at cbm3
      have cbm4 := cell_of_row V3 (w.heap.size + 1) 4 _ _ _ bm
      simp only [List.getElem?_toArray, List.getElem?_cons_zero, List.getElem?_cons_succ] at cbm4
      have cbm5 := cell_of_row V3 (w.heap.size + 1) 5 _ _ _ bm
      simp only [List.getElem?_toArray, List.getElem?_cons_zero, List.getElem?_cons_succ] at cbm5
      rw [← HVV3.out] at cbc0 cbc1 cbm0 cbm1 cbm2 cbm3 cbm4 cbm5
      go_wp2_with fail
      rw [HVV3.out]
      clear HVV3
      clear cbc0 cbc1 cbm0 cbm1 cbm2 cbm3 cbm4 cbm5
      refine (HR.out V3 h hm h').mono ?_
      rintro e w4 ⟨v, rfl, ho, hb⟩
      dsimp only at ho ⊢
      obtain ⟨A4, k4, rfl, q4⟩ := own_rdP ho hok
      clear ho
      replace h := (h.below hb).more hb.size
      replace hm := (hm.below hb).more hb.size
      replace h' := (h'.below hb).more hb.size
      replace bc := blk_below bc hb
      replace bm := blk_below bm hb
      replace q3 := (q3.below hb).more hb.size
      replace bx3 := blk_below bx3 hb
      replace hbt := hbt.trans (hb.mono hbt.size)
      clear hb
      obtain ⟨V4, hV⟩ : ∃ V4, V4 = w4.alloc (.cells #[.int .i64 xno, .slice A4 lx.length k4] 27) := ⟨_, rfl⟩
      have bx4 := blk_new hV
      have hb := below_new hV
      replace h := (h.below hb).more hb.size
      replace hm := (hm.below hb).more hb.size
      replace h' := (h'.below hb).more hb.size
      replace bc := blk_below bc hb
      replace bm := blk_below bm hb
      replace q3 := (q3.below hb).more hb.size
      replace bx3 := blk_below bx3 hb
      replace q4 := (q4.below hb).more hb.size
      replace hbt := hbt.trans (hb.mono hbt.size)
      clear hb
      have HSV4 : Hid (V4.heap.size = w4.heap.size + 1) := by show V4.heap.size = _; rw [hV, World.size_alloc]
      have HVV4 := Lib.hid hV.symm
      clear hV
      have cbx30 := cell_of_row V4 w3.heap.size 0 _ _ _ bx3
      simp only [List.getElem?_toArray, List.getElem?_cons_zero, List.getElem?_cons_succ] at cbx30
      have cbx31 := cell_of_row V4 w3.heap.size 1 _ _ _ bx3
      simp only [List.getElem?_toArray, List.getElem?_cons_zero, List.getElem?_cons_succ] at cbx31
      have cbx40 := cell_of_row V4 w4.heap.size 0 _ _ _ bx4
      simp only [List.getElem?_toArray, List.getElem?_cons_zero, List.getElem?_cons_succ] at cbx40
      have cbx41 := cell_of_row V4 w4.heap.size 1 _ _ _ bx4
      simp only [List.getElem?_toArray, List.getElem?_cons_zero, List.getElem?_cons_succ] at cbx41
      rw [← HVV4.out] at cbx30 cbx31 cbx40 cbx41
      go_wp2_with fail
      rw [HVV4.out]
      clear HVV4
      clear cbx30 cbx31 cbx40 cbx41
      refine (clients_any _ _ _ _ _ _ _ _ lx lx V4 q3 q4).mono ?_
      rintro e w5 ⟨rfl, hb⟩
      rw [decide_eq_true (show _ ∧ _ from ⟨rfl, rfl⟩)]
      replace h := (h.below hb).more hb.size
      replace hm := (hm.below hb).more hb.size
      replace h' := (h'.below hb).more hb.size
      replace bc := blk_below bc hb
      replace bm := blk_below bm hb
      replace q3 := (q3.below hb).more hb.size
      replace bx3 := blk_below bx3 hb
      replace q4 := (q4.below hb).more hb.size
      replace bx4 := blk_below bx4 hb
      replace hbt := hbt.trans (hb.mono hbt.size)
      clear hb
      have dE : (E == E) = true := by simp
      go_wp2_with fail
      go_ret
      exact ⟨rfl, hbt⟩
    · rw [decide_eq_false hfew]
      go_wp2_with fail
      go_ret
      exact ⟨rfl, hbt⟩
  · have d1 : decide ((70 : Int) < (n : Int)) = true := by simp; omega
    have cbc0 := cell_of_row w1 w.heap.size 0 _ _ _ bc
    simp only [List.getElem?_toArray, List.getElem?_cons_zero, List.getElem?_cons_succ] at cbc0
    have cbc1 := cell_of_row w1 w.heap.size 1 _ _ _ bc
    simp only [List.getElem?_toArray, List.getElem?_cons_zero, List.getElem?_cons_succ] at cbc1
    go_wp2_with fail
    clear cbc0 cbc1
    go_ret
    exact ⟨rfl, hbt⟩
end Go.Proofs.Ytmighpfjjaaknaa
