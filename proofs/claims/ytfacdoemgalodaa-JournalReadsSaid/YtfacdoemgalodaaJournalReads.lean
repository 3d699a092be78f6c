/-
  JournalReads, walked.
-/
import Derived.Test.YtfacdoemgalodaaLive34
import Derived.Test.YtfacdoemgalodaaRAppW
import Derived.Test.YtfacdoemgalodaaFewW
namespace Go.Proofs.Ytfacdoemgalodaa
open Go.RowKit
set_option linter.unusedVariables false
set_option linter.unusedSimpArgs false

set_option maxRecDepth 100000 in
set_option maxHeartbeats 4000000 in
theorem journalReads_any (A : Option Addr) (n c : Nat) (s : List UInt8) (B : Option Addr) (m d : Nat) (o : List UInt8) (w : World) (h : RdB w w.heap.size A n c s) (h' : RdB w w.heap.size B m d o) (hn : n ≤ 140737488355328) (hm : m ≤ 140737488355328) :
    Calls Try.prog 3 #[.agg #[.slice A n c, .slice B m d]] w fun e w' => e = .returned (.bool true) ∧ Below w.heap.size w w' := by
  have h1 := h.max
  have h2 := h.le
  have h3 := h'.max
  have h4 := h'.le
  have hbt := Below.refl w.heap.size w
  have hsl := Lib.hid h.len
  have hol := Lib.hid h'.len
  obtain ⟨V1, hV⟩ : ∃ V1, V1 = w.alloc (.cells #[.slice A n c, .slice B m d] 24) := ⟨_, rfl⟩
  have b1 := blk_new hV
  have hb := below_new hV
  replace h := (h.below hb).more hb.size
  replace h' := (h'.below hb).more hb.size
  replace hbt := hbt.trans (hb.mono hbt.size)
  clear hb
  have HSV1 : Hid (V1.heap.size = w.heap.size + 1) := by show V1.heap.size = _; rw [hV, World.size_alloc]
  have HVV1 := Lib.hid hV.symm
  clear hV
  go_enter Try.func3, Try.ntmps3
  go_wp2_with fail
  rw [HVV1.out]
  clear HVV1 HSV1
  refine (live_any V1).mono ?_
  rintro e w1 ⟨rfl, hb⟩
  replace h := (h.below hb).more hb.size
  replace h' := (h'.below hb).more hb.size
  replace b1 := blk_below b1 hb
  replace hbt := hbt.trans (hb.mono hbt.size)
  clear hb
  have cb10 := cell_of_row w1 w.heap.size 0 _ _ _ b1
  simp only [List.getElem?_toArray, List.getElem?_cons_zero, List.getElem?_cons_succ] at cb10
  have cb11 := cell_of_row w1 w.heap.size 1 _ _ _ b1
  simp only [List.getElem?_toArray, List.getElem?_cons_zero, List.getElem?_cons_succ] at cb11
  go_wp2_with fail
  clear cb10 cb11
  refine (rFew_any A n c B m d w1).mono ?_
  rintro e w2 ⟨bf, rfl, hfew, hb⟩
  replace h := (h.below hb).more hb.size
  replace h' := (h'.below hb).more hb.size
  replace b1 := blk_below b1 hb
  replace hbt := hbt.trans (hb.mono hbt.size)
  clear hb
  cases bf with
  | false =>
    have hf : ¬ (n ≤ 4000 ∧ m ≤ 4000) := fun hh => by have := hfew.2 hh; cases this
    clear hfew
    have c0 := blk_cell (j := 0) b1
    simp only [List.getElem?_toArray, List.getElem?_cons_zero, List.getElem?_cons_succ] at c0
    have c1 := blk_cell (j := 1) b1
    simp only [List.getElem?_toArray, List.getElem?_cons_zero, List.getElem?_cons_succ] at c1
    by_cases hsum : n + m ≤ 1048576
    · have d1 : decide ((n : Int) + (m : Int) ≤ 1048576) = true := by simp; omega
      go_wp2_with fail
      go_ret
      exact ⟨ret_bool rfl, hbt⟩
    · have d1 : decide ((n : Int) + (m : Int) ≤ 1048576) = false := by simp; omega
      clear c0 c1
      have cb10 := cell_of_row w2 w.heap.size 0 _ _ _ b1
      simp only [List.getElem?_toArray, List.getElem?_cons_zero, List.getElem?_cons_succ] at cb10
      have cb11 := cell_of_row w2 w.heap.size 1 _ _ _ b1
      simp only [List.getElem?_toArray, List.getElem?_cons_zero, List.getElem?_cons_succ] at cb11
      go_wp2_with fail
      clear cb10 cb11
      refine (jRead_any A n c s B m d o w2 h h' hn hm).mono ?_
      rintro e w3 ⟨u1, u2, rfl, o1, o2, hb⟩
      obtain ⟨A1, c1, rfl, q1⟩ := o1.rd
      obtain ⟨A2, c2, rfl, q2⟩ := o2.rd
      clear o1 o2
      replace h := (h.below hb).more hb.size
      replace h' := (h'.below hb).more hb.size
      replace b1 := blk_below b1 hb
      replace hbt := hbt.trans (hb.mono hbt.size)
      clear hb
      have HC : Hid (∀ W : World, RdB W W.heap.size A n c s → RdB W W.heap.size B m d o → _) := fun W x y => jCheck_any A n c s B m d o W x y hn hm
      have cb10 := cell_of_row w3 w.heap.size 0 _ _ _ b1
      simp only [List.getElem?_toArray, List.getElem?_cons_zero, List.getElem?_cons_succ] at cb10
      have cb11 := cell_of_row w3 w.heap.size 1 _ _ _ b1
      simp only [List.getElem?_toArray, List.getElem?_cons_zero, List.getElem?_cons_succ] at cb11
      go_wp2_with fail
      clear cb10 cb11
      refine (rRead_any A n c s B m d o w3 h h' hn hm).mono ?_
      rintro e w4 ⟨u3, u4, rfl, o1, o2, hb⟩
      obtain ⟨A3, c3, rfl, q3⟩ := o1.rd
      obtain ⟨A4, c4, rfl, q4⟩ := o2.rd
      clear o1 o2
      replace h := (h.below hb).more hb.size
      replace h' := (h'.below hb).more hb.size
      replace b1 := blk_below b1 hb
      replace q1 := (q1.below hb).more hb.size
      replace q2 := (q2.below hb).more hb.size
      replace hbt := hbt.trans (hb.mono hbt.size)
      clear hb
      generalize Jn.readD s o = R at *
      obtain ⟨r1, r2, r3⟩ := R
      dsimp only at *
      have m1 := q1.max
      have m2 := q1.le
      have m3 := q2.max
      have m4 := q2.le
      have m5 := q3.max
      have m6 := q3.le
      have m7 := q4.max
      have m8 := q4.le
      generalize hr1 : r1.length = k1 at *
      generalize hr2 : r2.length = k2 at *
      clear hr1 hr2
      go_wp2_with fail
      refine (versions_any A1 A3 k1 c1 k1 c3 r1 r1 w4 q1 q3).mono ?_
      rintro e w5 ⟨b, rfl, hiff, hb⟩
      obtain rfl : b = true := hiff.2 rfl
      clear hiff
      replace h := (h.below hb).more hb.size
      replace h' := (h'.below hb).more hb.size
      replace b1 := blk_below b1 hb
      replace q1 := (q1.below hb).more hb.size
      replace q2 := (q2.below hb).more hb.size
      replace q3 := (q3.below hb).more hb.size
      replace q4 := (q4.below hb).more hb.size
      replace hbt := hbt.trans (hb.mono hbt.size)
      clear hb
      go_wp2_with fail
      refine (versions_any A2 A4 k2 c2 k2 c4 r2 r2 w5 q2 q4).mono ?_
      rintro e w6 ⟨b, rfl, hiff, hb⟩
      obtain rfl : b = true := hiff.2 rfl
      clear hiff
      replace h := (h.below hb).more hb.size
      replace h' := (h'.below hb).more hb.size
      replace b1 := blk_below b1 hb
      replace q1 := (q1.below hb).more hb.size
      replace q2 := (q2.below hb).more hb.size
      replace q3 := (q3.below hb).more hb.size
      replace q4 := (q4.below hb).more hb.size
      replace hbt := hbt.trans (hb.mono hbt.size)
      clear hb
      have cb10 := cell_of_row w6 w.heap.size 0 _ _ _ b1
      simp only [List.getElem?_toArray, List.getElem?_cons_zero, List.getElem?_cons_succ] at cb10
      have cb11 := cell_of_row w6 w.heap.size 1 _ _ _ b1
      simp only [List.getElem?_toArray, List.getElem?_cons_zero, List.getElem?_cons_succ] at cb11
      go_wp2_with fail
      clear cb10 cb11
      refine (HC.out w6 h h').mono ?_
      rintro e w7 ⟨rfl, hb⟩
      replace h := (h.below hb).more hb.size
      replace h' := (h'.below hb).more hb.size
      replace b1 := blk_below b1 hb
      replace q1 := (q1.below hb).more hb.size
      replace q2 := (q2.below hb).more hb.size
      replace q3 := (q3.below hb).more hb.size
      replace q4 := (q4.below hb).more hb.size
      replace hbt := hbt.trans (hb.mono hbt.size)
      clear hb
      go_wp2_with fail
      go_ret
      exact ⟨ret_bool rfl, hbt⟩
  | true =>
    have hf := hfew.1 rfl
    clear hfew
    have cb10 := cell_of_row w2 w.heap.size 0 _ _ _ b1
    simp only [List.getElem?_toArray, List.getElem?_cons_zero, List.getElem?_cons_succ] at cb10
    have cb11 := cell_of_row w2 w.heap.size 1 _ _ _ b1
    simp only [List.getElem?_toArray, List.getElem?_cons_zero, List.getElem?_cons_succ] at cb11
    go_wp2_with fail
    clear cb10 cb11
    refine (jRead_any A n c s B m d o w2 h h' hn hm).mono ?_
    rintro e w3 ⟨u1, u2, rfl, o1, o2, hb⟩
    obtain ⟨A1, c1, rfl, q1⟩ := o1.rd
    obtain ⟨A2, c2, rfl, q2⟩ := o2.rd
    clear o1 o2
    replace h := (h.below hb).more hb.size
    replace h' := (h'.below hb).more hb.size
    replace b1 := blk_below b1 hb
    replace hbt := hbt.trans (hb.mono hbt.size)
    clear hb
    have HC : Hid (∀ W : World, RdB W W.heap.size A n c s → RdB W W.heap.size B m d o → _) := fun W x y => jCheck_any A n c s B m d o W x y hn hm
    have cb10 := cell_of_row w3 w.heap.size 0 _ _ _ b1
    simp only [List.getElem?_toArray, List.getElem?_cons_zero, List.getElem?_cons_succ] at cb10
    have cb11 := cell_of_row w3 w.heap.size 1 _ _ _ b1
    simp only [List.getElem?_toArray, List.getElem?_cons_zero, List.getElem?_cons_succ] at cb11
    go_wp2_with fail
    clear cb10 cb11
    refine (rRead_any A n c s B m d o w3 h h' hn hm).mono ?_
    rintro e w4 ⟨u3, u4, rfl, o1, o2, hb⟩
    obtain ⟨A3, c3, rfl, q3⟩ := o1.rd
    obtain ⟨A4, c4, rfl, q4⟩ := o2.rd
    clear o1 o2
    replace h := (h.below hb).more hb.size
    replace h' := (h'.below hb).more hb.size
    replace b1 := blk_below b1 hb
    replace q1 := (q1.below hb).more hb.size
    replace q2 := (q2.below hb).more hb.size
    replace hbt := hbt.trans (hb.mono hbt.size)
    clear hb
    generalize Jn.readD s o = R at *
    obtain ⟨r1, r2, r3⟩ := R
    dsimp only at *
    have m1 := q1.max
    have m2 := q1.le
    have m3 := q2.max
    have m4 := q2.le
    have m5 := q3.max
    have m6 := q3.le
    have m7 := q4.max
    have m8 := q4.le
    generalize hr1 : r1.length = k1 at *
    generalize hr2 : r2.length = k2 at *
    clear hr1 hr2
    go_wp2_with fail
    refine (versions_any A1 A3 k1 c1 k1 c3 r1 r1 w4 q1 q3).mono ?_
    rintro e w5 ⟨b, rfl, hiff, hb⟩
    obtain rfl : b = true := hiff.2 rfl
    clear hiff
    replace h := (h.below hb).more hb.size
    replace h' := (h'.below hb).more hb.size
    replace b1 := blk_below b1 hb
    replace q1 := (q1.below hb).more hb.size
    replace q2 := (q2.below hb).more hb.size
    replace q3 := (q3.below hb).more hb.size
    replace q4 := (q4.below hb).more hb.size
    replace hbt := hbt.trans (hb.mono hbt.size)
    clear hb
    go_wp2_with fail
    refine (versions_any A2 A4 k2 c2 k2 c4 r2 r2 w5 q2 q4).mono ?_
    rintro e w6 ⟨b, rfl, hiff, hb⟩
    obtain rfl : b = true := hiff.2 rfl
    clear hiff
    replace h := (h.below hb).more hb.size
    replace h' := (h'.below hb).more hb.size
    replace b1 := blk_below b1 hb
    replace q1 := (q1.below hb).more hb.size
    replace q2 := (q2.below hb).more hb.size
    replace q3 := (q3.below hb).more hb.size
    replace q4 := (q4.below hb).more hb.size
    replace hbt := hbt.trans (hb.mono hbt.size)
    clear hb
    have cb10 := cell_of_row w6 w.heap.size 0 _ _ _ b1
    simp only [List.getElem?_toArray, List.getElem?_cons_zero, List.getElem?_cons_succ] at cb10
    have cb11 := cell_of_row w6 w.heap.size 1 _ _ _ b1
    simp only [List.getElem?_toArray, List.getElem?_cons_zero, List.getElem?_cons_succ] at cb11
    go_wp2_with fail
    clear cb10 cb11
    refine (HC.out w6 h h').mono ?_
    rintro e w7 ⟨rfl, hb⟩
    replace h := (h.below hb).more hb.size
    replace h' := (h'.below hb).more hb.size
    replace b1 := blk_below b1 hb
    replace q1 := (q1.below hb).more hb.size
    replace q2 := (q2.below hb).more hb.size
    replace q3 := (q3.below hb).more hb.size
    replace q4 := (q4.below hb).more hb.size
    replace hbt := hbt.trans (hb.mono hbt.size)
    clear hb
    go_wp2_with fail
    go_ret
    exact ⟨ret_bool rfl, hbt⟩
end Go.Proofs.Ytfacdoemgalodaa
