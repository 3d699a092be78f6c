/-
  JournalCrashes, walked.
-/
import Derived.Test.YtfacdoemgalodaaLive34
import Derived.Test.YtfacdoemgalodaaRAppW
import Derived.Test.YtfacdoemgalodaaFewW
namespace Go.Proofs.Ytfacdoemgalodaa
open Go.RowKit
set_option linter.unusedVariables false
set_option linter.unusedSimpArgs false

set_option maxRecDepth 100000 in
set_option maxHeartbeats 4000000 in
theorem journalCrashes_any (A : Option Addr) (n c : Nat) (s : List UInt8) (B : Option Addr) (m d : Nat) (o : List UInt8) (keep : Int) (w : World) (h : RdB w w.heap.size A n c s) (h' : RdB w w.heap.size B m d o) (hn : n ≤ 140737488355328) (hm : m ≤ 140737488355328) (hk : okI keep) :
    Calls Try.prog 4 #[.agg #[.slice A n c, .slice B m d], .int .i64 keep] w fun e w' => e = .returned (.bool true) ∧ Below w.heap.size w w' := by
  have h1 := h.max
  have h2 := h.le
  have h3 := h'.max
  have h4 := h'.le
  have hbt := Below.refl w.heap.size w
  have hsl := Lib.hid h.len
  have hol := Lib.hid h'.len
  obtain ⟨V1, hV⟩ : ∃ V1, V1 = w.alloc (.cells #[.slice A n c, .slice B m d] 24) := ⟨_, rfl⟩
  have b1 := blk_new hV
  have hb := below_new hV
  replace h := (h.below hb).more hb.size
  replace h' := (h'.below hb).more hb.size
  replace hbt := hbt.trans (hb.mono hbt.size)
  clear hb
  have HSV1 : Hid (V1.heap.size = w.heap.size + 1) := by show V1.heap.size = _; rw [hV, World.size_alloc]
  have HVV1 := Lib.hid hV.symm
  clear hV
  go_enter Try.func4, Try.ntmps4
  go_wp2_with fail
  rw [HVV1.out]
  clear HVV1 HSV1
  refine (live_any V1).mono ?_
  rintro e w1 ⟨rfl, hb⟩
  replace h := (h.below hb).more hb.size
  replace h' := (h'.below hb).more hb.size
  replace b1 := blk_below b1 hb
  replace hbt := hbt.trans (hb.mono hbt.size)
  clear hb
  have cb10 := cell_of_row w1 w.heap.size 0 _ _ _ b1
  simp only [List.getElem?_toArray, List.getElem?_cons_zero, List.getElem?_cons_succ] at cb10
  have cb11 := cell_of_row w1 w.heap.size 1 _ _ _ b1
  simp only [List.getElem?_toArray, List.getElem?_cons_zero, List.getElem?_cons_succ] at cb11
  go_wp2_with fail
  clear cb10 cb11
  refine (rFew_any A n c B m d w1).mono ?_
  rintro e w2 ⟨bf, rfl, hfew, hb⟩
  replace h := (h.below hb).more hb.size
  replace h' := (h'.below hb).more hb.size
  replace b1 := blk_below b1 hb
  replace hbt := hbt.trans (hb.mono hbt.size)
  clear hb
  cases bf with
  | false =>
    have hf : ¬ (n ≤ 4000 ∧ m ≤ 4000) := fun hh => by have := hfew.2 hh; cases this
    clear hfew
    go_wp2_with fail
    go_ret
    exact ⟨ret_bool rfl, hbt⟩
  | true =>
    have hf := hfew.1 rfl
    clear hfew
    have cb10 := cell_of_row w2 w.heap.size 0 _ _ _ b1
    simp only [List.getElem?_toArray, List.getElem?_cons_zero, List.getElem?_cons_succ] at cb10
    have cb11 := cell_of_row w2 w.heap.size 1 _ _ _ b1
    simp only [List.getElem?_toArray, List.getElem?_cons_zero, List.getElem?_cons_succ] at cb11
    go_wp2_with fail
    clear cb10 cb11
    refine (jCrash_any A n c s B m d o keep w2 h h' hn hm hk).mono ?_
    rintro e w3 ⟨v1, v2, rfl, o1, o2, hb⟩
    obtain ⟨A1, c1, rfl, q1⟩ := own_rdB o1
    obtain ⟨A2, c2, rfl, q2⟩ := own_rdB o2
    clear o1 o2
    replace h := (h.below hb).more hb.size
    replace h' := (h'.below hb).more hb.size
    replace b1 := blk_below b1 hb
    replace hbt := hbt.trans (hb.mono hbt.size)
    clear hb
    have HC : Hid (∀ W : World, RdB W W.heap.size A n c s → RdB W W.heap.size B m d o → _) := fun W x y => rCrash_any A n c s B m d o keep W x y hn hm hk
    generalize Jn.crashD s o keep = R at *
    obtain ⟨r1, r2, r3⟩ := R
    dsimp only at *
    generalize hr1 : r1.length = k1 at *
    generalize hr2 : r2.length = k2 at *
    clear hr1 hr2
    have m1 := q1.max
    have m2 := q1.le
    have m3 := q2.max
    have m4 := q2.le
    obtain ⟨V4, hV⟩ : ∃ V4, V4 = w3.alloc (.cells #[.slice A1 k1 c1, .slice A2 k2 c2] 24) := ⟨_, rfl⟩
    have b4 := blk_new hV
    have hb := below_new hV
    replace h := (h.below hb).more hb.size
    replace h' := (h'.below hb).more hb.size
    replace b1 := blk_below b1 hb
    replace q1 := (q1.below hb).more hb.size
    replace q2 := (q2.below hb).more hb.size
    replace hbt := hbt.trans (hb.mono hbt.size)
    clear hb
    have HSV4 : Hid (V4.heap.size = w3.heap.size + 1) := by show V4.heap.size = _; rw [hV, World.size_alloc]
    have HVV4 := Lib.hid hV.symm
    clear hV
    have c0 := blk_cell (j := 0) b1
    simp only [List.getElem?_toArray, List.getElem?_cons_zero, List.getElem?_cons_succ] at c0
    have c1 := blk_cell (j := 1) b1
    simp only [List.getElem?_toArray, List.getElem?_cons_zero, List.getElem?_cons_succ] at c1
    rw [← HVV4.out] at c0 c1
    go_wp2_with fail
    rw [HVV4.out]
    clear HVV4 HSV4 c0 c1
    refine (HC.out V4 h h').mono ?_
    rintro e w5 ⟨v1, v2, rfl, o1, o2, hb⟩
    dsimp only at o1 o2
    obtain ⟨A3, c3, rfl, q3⟩ := own_rdB o1
    obtain ⟨A4, c4, rfl, q4⟩ := own_rdB o2
    clear o1 o2 HC
    replace h := (h.below hb).more hb.size
    replace h' := (h'.below hb).more hb.size
    replace b1 := blk_below b1 hb
    replace q1 := (q1.below hb).more hb.size
    replace q2 := (q2.below hb).more hb.size
    replace b4 := blk_below b4 hb
    replace hbt := hbt.trans (hb.mono hbt.size)
    clear hb
    have hq3 := q3.len
    have hq1 := q1.len
    have hq2 := q2.len
    rw [hq1] at q3
    rw [hq2] at q4
    rw [hq1, hq2]
    clear hq1 hq2 hq3
    have m5 := q3.max
    have m6 := q3.le
    have m7 := q4.max
    have m8 := q4.le
    obtain ⟨V6, hV⟩ : ∃ V6, V6 = w5.alloc (.cells #[.slice A3 k1 c3, .slice A4 k2 c4] 24) := ⟨_, rfl⟩
    have b6 := blk_new hV
    have hb := below_new hV
    replace h := (h.below hb).more hb.size
    replace h' := (h'.below hb).more hb.size
    replace b1 := blk_below b1 hb
    replace q1 := (q1.below hb).more hb.size
    replace q2 := (q2.below hb).more hb.size
    replace b4 := blk_below b4 hb
    replace q3 := (q3.below hb).more hb.size
    replace q4 := (q4.below hb).more hb.size
    replace hbt := hbt.trans (hb.mono hbt.size)
    clear hb
    have HSV6 : Hid (V6.heap.size = w5.heap.size + 1) := by show V6.heap.size = _; rw [hV, World.size_alloc]
    have HVV6 := Lib.hid hV.symm
    clear hV
    have c0 := blk_cell (j := 0) b4
    simp only [List.getElem?_toArray, List.getElem?_cons_zero, List.getElem?_cons_succ] at c0
    have c1 := blk_cell (j := 1) b4
    simp only [List.getElem?_toArray, List.getElem?_cons_zero, List.getElem?_cons_succ] at c1
    have e0 := blk_cell (j := 0) b6
    simp only [List.getElem?_toArray, List.getElem?_cons_zero, List.getElem?_cons_succ] at e0
    have e1 := blk_cell (j := 1) b6
    simp only [List.getElem?_toArray, List.getElem?_cons_zero, List.getElem?_cons_succ] at e1
    rw [← HVV6.out] at c0 c1 e0 e1
    go_wp2_with fail
    rw [HVV6.out]
    clear HVV6 HSV6 c0 c1 e0 e1
    refine (rSame_any A1 k1 c1 r1 A2 k2 c2 r2 A3 k1 c3 r1 A4 k2 c4 r2 V6 q1 q2 q3 q4).mono ?_
    rintro e w7 ⟨b, rfl, hiff, hb⟩
    obtain rfl : b = true := hiff.2 ⟨rfl, rfl⟩
    clear hiff
    replace h := (h.below hb).more hb.size
    replace h' := (h'.below hb).more hb.size
    replace b1 := blk_below b1 hb
    replace q1 := (q1.below hb).more hb.size
    replace q2 := (q2.below hb).more hb.size
    replace b4 := blk_below b4 hb
    replace q3 := (q3.below hb).more hb.size
    replace q4 := (q4.below hb).more hb.size
    replace b6 := blk_below b6 hb
    replace hbt := hbt.trans (hb.mono hbt.size)
    clear hb
    go_wp2_with fail
    go_ret
    exact ⟨ret_bool rfl, hbt⟩
end Go.Proofs.Ytfacdoemgalodaa
