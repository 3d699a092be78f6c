/-
  FeedRepeated, walked.
-/
import Derived.Test.YtmighpfjjaaknaaPlain
import Derived.Test.YtmighpfjjaaknaaArgs
namespace Go.Proofs.Ytmighpfjjaaknaa
open Go.RowKit
set_option linter.unusedVariables false
set_option linter.unusedSimpArgs false

theorem not_lt_of {n : Nat} (h : n ≤ 70) : decide ((70 : Int) < (n : Int)) = false := by simp; omega
set_option maxRecDepth 20000 in
set_option maxHeartbeats 2000000 in
theorem feedRepeated_any (kind to f no cno : Int) (A Am A' : Option Addr) (n c nm cm m c' : Nat) (l lm : List Pl) (ms : List Mv) (w : World) (h : RdP w w.heap.size A n c l) (hm : RdP w w.heap.size Am nm cm lm) (h' : RdM w w.heap.size A' m c' ms) :
    Calls Try.prog 7 #[.agg #[.int .i64 cno, .slice A n c], .agg #[.int .i64 kind, .int .i64 to, .int .i64 f, .int .i64 no, .slice Am nm cm, .slice A' m c']] w fun e w' => e = .returned (.bool true) ∧ Below w.heap.size w w' := by
  have n1 := h.max
  have n2 := h.le
  have n3 := hm.max
  have n4 := hm.le
  have n5 := h'.max
  have n6 := h'.le
  have hl := Lib.hid h.len
  have hlm := Lib.hid hm.len
  obtain ⟨V1, hV⟩ : ∃ V1, V1 = w.alloc (.cells #[.int .i64 cno, .slice A n c] 27) := ⟨_, rfl⟩
  have bc := blk_new hV
  have hb := below_new hV
  have hbt := hb
  clear hb
  have HSV1 : Hid (V1.heap.size = w.heap.size + 1) := by show V1.heap.size = _; rw [hV, World.size_alloc]
  have HVV1 := Lib.hid hV.symm
  clear hV
  replace h := (h.below hbt).more hbt.size
  replace hm := (hm.below hbt).more hbt.size
  replace h' := (h'.below hbt).more hbt.size
  obtain ⟨V2, hV⟩ : ∃ V2, V2 = V1.alloc (.cells #[.int .i64 kind, .int .i64 to, .int .i64 f, .int .i64 no, .slice Am nm cm, .slice A' m c'] 32) := ⟨_, rfl⟩
  have bm := blk_new hV
  rw [HSV1.out] at bm
  have hb := below_new hV
  replace h := (h.below hb).more hb.size
  replace hm := (hm.below hb).more hb.size
  replace h' := (h'.below hb).more hb.size
  replace bc := blk_below bc hb
  replace hbt := hbt.trans (hb.mono hbt.size)
  clear hb
  have HSV2 : Hid (V2.heap.size = V1.heap.size + 1) := by show V2.heap.size = _; rw [hV, World.size_alloc]
  have HVV2 := Lib.hid hV.symm
  clear hV
  go_enter Try.func7, Try.ntmps7
  go_wp2_with fail
  rw [HVV1.out]
  clear HVV1
  rw [HVV2.out]
  clear HVV2
  refine (live_any V2).mono ?_
  rintro e w1 ⟨rfl, hb⟩
  replace h := (h.below hb).more hb.size
  replace hm := (hm.below hb).more hb.size
  replace h' := (h'.below hb).more hb.size
  replace bc := blk_below bc hb
  replace bm := blk_below bm hb
  replace hbt := hbt.trans (hb.mono hbt.size)
  clear hb
  by_cases h70 : n ≤ 70
  · have d1 := not_lt_of h70
    have cbc0 := cell_of_row w1 w.heap.size 0 _ _ _ bc
    simp only [List.getElem?_toArray, List.getElem?_cons_zero, List.getElem?_cons_succ] at cbc0
    have cbc1 := cell_of_row w1 w.heap.size 1 _ _ _ bc
    simp only [List.getElem?_toArray, List.getElem?_cons_zero, List.getElem?_cons_succ] at cbc1
    have cbm0 := cell_of_row w1 (w.heap.size + 1) 0 _ _ _ bm
    simp only [List.getElem?_toArray, List.getElem?_cons_zero, List.getElem?_cons_succ] at cbm0
    have cbm1 := cell_of_row w1 (w.heap.size + 1) 1 _ _ _ bm
    simp only [List.getElem?_toArray, List.getElem?_cons_zero, List.getElem?_cons_succ] at cbm1
    have cbm2 := cell_of_row w1 (w.heap.size + 1) 2 _ _ _ bm
    simp only [List.getElem?_toArray, List.getElem?_cons_zero, List.getElem?_cons_succ] at cbm2
    have cbm3 := cell_of_row w1 (w.heap.size + 1) 3 _ _ _ bm
    simp only [List.getElem?_toArray, List.getElem?_cons_zero, List.getElem?_cons_succ] at cbm3
    have cbm4 := cell_of_row w1 (w.heap.size + 1) 4 _ _ _ bm
    simp only [List.getElem?_toArray, List.getElem?_cons_zero, List.getElem?_cons_succ] at cbm4
    have cbm5 := cell_of_row w1 (w.heap.size + 1) 5 _ _ _ bm
    simp only [List.getElem?_toArray, List.getElem?_cons_zero, List.getElem?_cons_succ] at cbm5
    go_wp2_with fail
    clear cbc0 cbc1 cbm0 cbm1 cbm2 cbm3 cbm4 cbm5
    refine (fewMsg_any _ _ _ _ _ _ _ _ _ _ w1 (by omega) (by omega)).mono ?_
    rintro e w2 ⟨rfl, hb⟩
    replace h := (h.below hb).more hb.size
    replace hm := (hm.below hb).more hb.size
    replace h' := (h'.below hb).more hb.size
    replace bc := blk_below bc hb
    replace bm := blk_below bm hb
    replace hbt := hbt.trans (hb.mono hbt.size)
    clear hb
    by_cases hfew : nm ≤ 70 ∧ m ≤ 70
    · rw [decide_eq_true hfew]
      have hn1 := hfew.1
      have hn2 := hfew.2
      clear hfew
      have cbc0 := cell_of_row w2 w.heap.size 0 _ _ _ bc
      simp only [List.getElem?_toArray, List.getElem?_cons_zero, List.getElem?_cons_succ] at cbc0
      have cbc1 := cell_of_row w2 w.heap.size 1 _ _ _ bc
      simp only [List.getElem?_toArray, List.getElem?_cons_zero, List.getElem?_cons_succ] at cbc1
      have cbm0 := cell_of_row w2 (w.heap.size + 1) 0 _ _ _ bm
      simp only [List.getElem?_toArray, List.getElem?_cons_zero, List.getElem?_cons_succ] at cbm0
      have cbm1 := cell_of_row w2 (w.heap.size + 1) 1 _ _ _ bm
      simp only [List.getElem?_toArray, List.getElem?_cons_zero, List.getElem?_cons_succ] at cbm1
      have cbm2 := cell_of_row w2 (w.heap.size + 1) 2 _ _ _ bm
      simp only [List.getElem?_toArray, List.getElem?_cons_zero, List.getElem?_cons_succ] at cbm2
      have cbm3 := cell_of_row w2 (w.heap.size + 1) 3 _ _ _ bm
      simp only [List.getElem?_toArray, List.getElem?_cons_zero, List.getElem?_cons_succ] at cbm3
      have cbm4 := cell_of_row w2 (w.heap.size + 1) 4 _ _ _ bm
      simp only [List.getElem?_toArray, List.getElem?_cons_zero, List.getElem?_cons_succ] at cbm4
      have cbm5 := cell_of_row w2 (w.heap.size + 1) 5 _ _ _ bm
      simp only [List.getElem?_toArray, List.getElem?_cons_zero, List.getElem?_cons_succ] at cbm5
      go_wp2_with fail
      clear cbc0 cbc1 cbm0 cbm1 cbm2 cbm3 cbm4 cbm5
      refine (take_any kind to f no cno _ _ _ _ _ _ _ _ _ l lm ms w2 h hm h' (by omega) (by omega)).mono ?_
      rintro e w3 ⟨v, rfl, ho, hb⟩
      have hok := takeC_ok (c := ⟨cno, l⟩) (m := ⟨kind, to, f, no, lm, ms⟩) h.2 hm.2 h'.2
      have hlen := takeC_len (c := ⟨cno, l⟩) (m := ⟨kind, to, f, no, lm, ms⟩) (k := 70) h.2 h'.2 (by show l.length ≤ 70; rw [hl.out]; omega) (by show lm.length ≤ 70; rw [hlm.out]; omega)
      have H1 := Lib.hid (takeC_some (c := ⟨cno, l⟩) (m := ⟨kind, to, f, no, lm, ms⟩))
      have H2 := Lib.hid (take_again (c := ⟨cno, l⟩) (m := ⟨kind, to, f, no, lm, ms⟩))
      have H3 := Lib.hid (takeC_zero (c := ⟨cno, l⟩) (m := ⟨kind, to, f, no, lm, ms⟩))
      generalize takeC ⟨cno, l⟩ ⟨kind, to, f, no, lm, ms⟩ = X at *
      generalize takeE ⟨cno, l⟩ ⟨kind, to, f, no, lm, ms⟩ = E at *
      obtain ⟨xno, lx⟩ := X
      dsimp only at ho hok hlen H1 ⊢
      obtain ⟨A3, k3, rfl, q3⟩ := own_rdP ho hok
      clear ho
      replace h := (h.below hb).more hb.size
      replace hm := (hm.below hb).more hb.size
      replace h' := (h'.below hb).more hb.size
      replace bc := blk_below bc hb
      replace bm := blk_below bm hb
      replace hbt := hbt.trans (hb.mono hbt.size)
      clear hb
      have z := q3.le
      have z' := q3.max
      obtain ⟨nx, hnx⟩ : ∃ nx, nx = lx.length := ⟨_, rfl⟩
      rw [← hnx] at q3 z hlen ⊢
      have HNX := Lib.hid hnx
      clear hnx
      by_cases hE : E = 0
      · have de : (E != 0) = false := by simpa using hE
        obtain ⟨V3, hV⟩ : ∃ V3, V3 = w3.alloc (.cells #[.int .i64 xno, .slice A3 nx k3] 27) := ⟨_, rfl⟩
        have bx := blk_new hV
        have hb := below_new hV
        replace h := (h.below hb).more hb.size
        replace hm := (hm.below hb).more hb.size
        replace h' := (h'.below hb).more hb.size
        replace bc := blk_below bc hb
        replace bm := blk_below bm hb
        replace q3 := (q3.below hb).more hb.size
        replace hbt := hbt.trans (hb.mono hbt.size)
        clear hb
        have HSV3 : Hid (V3.heap.size = w3.heap.size + 1) := by show V3.heap.size = _; rw [hV, World.size_alloc]
        have HVV3 := Lib.hid hV.symm
        clear hV
        have cbx0 := cell_of_row V3 w3.heap.size 0 _ _ _ bx
        simp only [List.getElem?_toArray, List.getElem?_cons_zero, List.getElem?_cons_succ] at cbx0
        have cbx1 := cell_of_row V3 w3.heap.size 1 _ _ _ bx
        simp only [List.getElem?_toArray, List.getElem?_cons_zero, List.getElem?_cons_succ] at cbx1
        have cbm0 := cell_of_row V3 (w.heap.size + 1) 0 _ _ _ bm
        simp only [List.getElem?_toArray, List.getElem?_cons_zero, List.getElem?_cons_succ] at cbm0
        have cbm1 := cell_of_row V3 (w.heap.size + 1) 1 _ _ _ bm
        simp only [List.getElem?_toArray, List.getElem?_cons_zero, List.getElem?_cons_succ] at cbm1
        have cbm2 := cell_of_row V3 (w.heap.size + 1) 2 _ _ _ bm
        simp only [List.getElem?_toArray, List.getElem?_cons_zero, List.getElem?_cons_succ] at cbm2
        have cbm3 := cell_of_row V3 (w.heap.size + 1) 3 _ _ _ bm
        simp only [List.getElem?_toArray, List.getElem?_cons_zero, List.getElem?_cons_succ] at cbm3
        have cbm4 := cell_of_row V3 (w.heap.size + 1) 4 _ _ _ bm
        simp only [List.getElem?_toArray, List.getElem?_cons_zero, List.getElem?_cons_succ] at cbm4
        have cbm5 := cell_of_row V3 (w.heap.size + 1) 5 _ _ _ bm
        simp only [List.getElem?_toArray, List.getElem?_cons_zero, List.getElem?_cons_succ] at cbm5
        rw [← HVV3.out] at cbx0 cbx1 cbm0 cbm1 cbm2 cbm3 cbm4 cbm5
        go_wp2_with fail
        rw [HVV3.out]
        clear HVV3
        clear cbx0 cbx1 cbm0 cbm1 cbm2 cbm3 cbm4 cbm5
        refine (take_any kind to f no xno _ _ _ _ _ _ _ _ _ lx lm ms V3 q3 hm h' (by omega) (by omega)).mono ?_
        rintro e w4 ⟨v, rfl, ho, hb⟩
        have hz := H2.out hE
        rw [hz.2] at ho ⊢
        rw [hz.1]
        clear hz
        obtain ⟨A4, k4, rfl, q4⟩ := own_rdP (n := 0) ho (by simp [okPs, zeroC])
        clear ho
        replace h := (h.below hb).more hb.size
        replace hm := (hm.below hb).more hb.size
        replace h' := (h'.below hb).more hb.size
        replace bc := blk_below bc hb
        replace bm := blk_below bm hb
        replace q3 := (q3.below hb).more hb.size
        replace bx := blk_below bx hb
        replace hbt := hbt.trans (hb.mono hbt.size)
        clear hb
        have hx := H1.out hE
        have x1 : xno = no := hx.2.2.2.2
        have x2 : cno < no := hx.2.2.2.1
        subst x1
        clear hx H1 H2 H3
        have dlt : decide (cno < xno) = true := by simpa using x2
        obtain ⟨V4, hV⟩ : ∃ V4, V4 = w4.alloc (.cells #[.int .i64 0, .slice A4 0 k4] 27) := ⟨_, rfl⟩
        have by_ := blk_new hV
        have hb := below_new hV
        replace h := (h.below hb).more hb.size
        replace hm := (hm.below hb).more hb.size
        replace h' := (h'.below hb).more hb.size
        replace bc := blk_below bc hb
        replace bm := blk_below bm hb
        replace q3 := (q3.below hb).more hb.size
        replace bx := blk_below bx hb
        replace q4 := (q4.below hb).more hb.size
        replace hbt := hbt.trans (hb.mono hbt.size)
        clear hb
        have HSV4 : Hid (V4.heap.size = w4.heap.size + 1) := by show V4.heap.size = _; rw [hV, World.size_alloc]
        have HVV4 := Lib.hid hV.symm
        clear hV
        have cbx0 := cell_of_row V4 w3.heap.size 0 _ _ _ bx
        simp only [List.getElem?_toArray, List.getElem?_cons_zero, List.getElem?_cons_succ] at cbx0
        have cbx1 := cell_of_row V4 w3.heap.size 1 _ _ _ bx
        simp only [List.getElem?_toArray, List.getElem?_cons_zero, List.getElem?_cons_succ] at cbx1
        have cbm0 := cell_of_row V4 (w.heap.size + 1) 0 _ _ _ bm
        simp only [List.getElem?_toArray, List.getElem?_cons_zero, List.getElem?_cons_succ] at cbm0
        have cbm1 := cell_of_row V4 (w.heap.size + 1) 1 _ _ _ bm
        simp only [List.getElem?_toArray, List.getElem?_cons_zero, List.getElem?_cons_succ] at cbm1
        have cbm2 := cell_of_row V4 (w.heap.size + 1) 2 _ _ _ bm
        simp only [List.getElem?_toArray, List.getElem?_cons_zero, List.getElem?_cons_succ] at cbm2
        have cbm3 := cell_of_row V4 (w.heap.size + 1) 3 _ _ _ bm
        simp only [List.getElem?_toArray, List.getElem?_cons_zero, List.getElem?_cons_succ] at cbm3
        have cbm4 := cell_of_row V4 (w.heap.size + 1) 4 _ _ _ bm
        simp only [List.getElem?_toArray, List.getElem?_cons_zero, List.getElem?_cons_succ] at cbm4
        have cbm5 := cell_of_row V4 (w.heap.size + 1) 5 _ _ _ bm
        simp only [List.getElem?_toArray, List.getElem?_cons_zero, List.getElem?_cons_succ] at cbm5
        have cby_0 := cell_of_row V4 w4.heap.size 0 _ _ _ by_
        simp only [List.getElem?_toArray, List.getElem?_cons_zero, List.getElem?_cons_succ] at cby_0
        have cby_1 := cell_of_row V4 w4.heap.size 1 _ _ _ by_
        simp only [List.getElem?_toArray, List.getElem?_cons_zero, List.getElem?_cons_succ] at cby_1
        have cbc0 := cell_of_row V4 w.heap.size 0 _ _ _ bc
        simp only [List.getElem?_toArray, List.getElem?_cons_zero, List.getElem?_cons_succ] at cbc0
        have cbc1 := cell_of_row V4 w.heap.size 1 _ _ _ bc
        simp only [List.getElem?_toArray, List.getElem?_cons_zero, List.getElem?_cons_succ] at cbc1
        rw [← HVV4.out] at cbx0 cbx1 cbm0 cbm1 cbm2 cbm3 cbm4 cbm5 cby_0 cby_1 cbc0 cbc1
        go_wp2_with fail
        rw [HVV4.out]
        clear HVV4
        go_ret
        exact ⟨rfl, hbt⟩
      · have de : (E != 0) = true := by simpa using hE
        have hz := H3.out hE
        have x1 : xno = 0 := congrArg Cl.no hz
        have x2 : lx = [] := congrArg Cl.week hz
        subst x1
        rw [x2] at HNX
        obtain rfl : nx = 0 := HNX.out
        clear hz x2 H1 H2 H3
        obtain ⟨V3, hV⟩ : ∃ V3, V3 = w3.alloc (.cells #[.int .i64 0, .slice A3 0 k3] 27) := ⟨_, rfl⟩
        have bx := blk_new hV
        have hb := below_new hV
        replace h := (h.below hb).more hb.size
        replace hm := (hm.below hb).more hb.size
        replace h' := (h'.below hb).more hb.size
        replace bc := blk_below bc hb
        replace bm := blk_below bm hb
        replace q3 := (q3.below hb).more hb.size
        replace hbt := hbt.trans (hb.mono hbt.size)
        clear hb
        have HSV3 : Hid (V3.heap.size = w3.heap.size + 1) := by show V3.heap.size = _; rw [hV, World.size_alloc]
        have HVV3 := Lib.hid hV.symm
        clear hV
        have cbx0 := cell_of_row V3 w3.heap.size 0 _ _ _ bx
        simp only [List.getElem?_toArray, List.getElem?_cons_zero, List.getElem?_cons_succ] at cbx0
        have cbx1 := cell_of_row V3 w3.heap.size 1 _ _ _ bx
        simp only [List.getElem?_toArray, List.getElem?_cons_zero, List.getElem?_cons_succ] at cbx1
        rw [← HVV3.out] at cbx0 cbx1
        go_wp2_with fail
        rw [HVV3.out]
        clear HVV3
        clear cbx0 cbx1
        go_ret
        exact ⟨rfl, hbt⟩
    · rw [decide_eq_false hfew]
      go_wp2_with fail
      go_ret
      exact ⟨rfl, hbt⟩
  · have d1 : decide ((70 : Int) < (n : Int)) = true := by simp; omega
    have cbc0 := cell_of_row w1 w.heap.size 0 _ _ _ bc
    simp only [List.getElem?_toArray, List.getElem?_cons_zero, List.getElem?_cons_succ] at cbc0
    have cbc1 := cell_of_row w1 w.heap.size 1 _ _ _ bc
    simp only [List.getElem?_toArray, List.getElem?_cons_zero, List.getElem?_cons_succ] at cbc1
    go_wp2_with fail
    clear cbc0 cbc1
    go_ret
    exact ⟨rfl, hbt⟩
end Go.Proofs.Ytmighpfjjaaknaa
