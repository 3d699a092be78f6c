/-
  JournalAgain, walked.
-/
import Derived.Test.YtfacdoemgalodaaLive34
namespace Go.Proofs.Ytfacdoemgalodaa
open Go.RowKit
set_option linter.unusedVariables false
set_option linter.unusedSimpArgs false

set_option maxRecDepth 100000 in
set_option maxHeartbeats 4000000 in
theorem journalAgain_any (A : Option Addr) (n c : Nat) (s : List UInt8) (B : Option Addr) (m d : Nat) (o : List UInt8) (a b : Int) (w : World) (h : RdB w w.heap.size A n c s) (h' : RdB w w.heap.size B m d o) (hn : n ≤ 140737488355328) (hm : m ≤ 140737488355328) (ha : okI a) (hb0 : okI b) :
    Calls Try.prog 9 #[.agg #[.slice A n c, .slice B m d], .int .i64 a, .int .i64 b] w fun e w' => e = .returned (.bool true) ∧ Below w.heap.size w w' := by
  have h1 := h.max
  have h2 := h.le
  have h3 := h'.max
  have h4 := h'.le
  have hbt := Below.refl w.heap.size w
  have hsl := Lib.hid h.len
  have hol := Lib.hid h'.len
  unfold okI at ha hb0
  obtain ⟨V1, hV⟩ : ∃ V1, V1 = w.alloc (.cells #[.slice A n c, .slice B m d] 24) := ⟨_, rfl⟩
  have b1 := blk_new hV
  have hb := below_new hV
  replace h := (h.below hb).more hb.size
  replace h' := (h'.below hb).more hb.size
  replace hbt := hbt.trans (hb.mono hbt.size)
  clear hb
  have HSV1 : Hid (V1.heap.size = w.heap.size + 1) := by show V1.heap.size = _; rw [hV, World.size_alloc]
  have HVV1 := Lib.hid hV.symm
  clear hV
  go_enter Try.func9, Try.ntmps9
  go_wp2_with fail
  rw [HVV1.out]
  clear HVV1 HSV1
  refine (live_any V1).mono ?_
  rintro e w1 ⟨rfl, hb⟩
  replace h := (h.below hb).more hb.size
  replace h' := (h'.below hb).more hb.size
  replace b1 := blk_below b1 hb
  replace hbt := hbt.trans (hb.mono hbt.size)
  clear hb
  have cb10 := cell_of_row w1 w.heap.size 0 _ _ _ b1
  simp only [List.getElem?_toArray, List.getElem?_cons_zero, List.getElem?_cons_succ] at cb10
  have cb11 := cell_of_row w1 w.heap.size 1 _ _ _ b1
  simp only [List.getElem?_toArray, List.getElem?_cons_zero, List.getElem?_cons_succ] at cb11
  go_wp2_with fail
  clear cb10 cb11
  refine (rFew_any A n c B m d w1).mono ?_
  rintro e w2 ⟨bf, rfl, hfew, hb⟩
  replace h := (h.below hb).more hb.size
  replace h' := (h'.below hb).more hb.size
  replace b1 := blk_below b1 hb
  replace hbt := hbt.trans (hb.mono hbt.size)
  clear hb
  cases bf with
  | false =>
    have hf : ¬ (n ≤ 4000 ∧ m ≤ 4000) := fun hh => by have := hfew.2 hh; cases this
    clear hfew
    go_wp2_with fail
    go_ret
    exact ⟨ret_bool rfl, hbt⟩
  | true =>
    have hf := hfew.1 rfl
    clear hfew
    by_cases ha0 : a < 0
    · have dA : decide (a < 0) = true := by simp; omega
      go_wp2_with fail
      go_ret
      exact ⟨ret_bool rfl, hbt⟩
    · have dA : decide (a < 0) = false := by simp; omega
      by_cases hb1 : b < 0
      · have dB : decide (b < 0) = true := by simp; omega
        go_wp2_with fail
        go_ret
        exact ⟨ret_bool rfl, hbt⟩
      · have dB : decide (b < 0) = false := by simp; omega
        have cb10 := cell_of_row w2 w.heap.size 0 _ _ _ b1
        simp only [List.getElem?_toArray, List.getElem?_cons_zero, List.getElem?_cons_succ] at cb10
        have cb11 := cell_of_row w2 w.heap.size 1 _ _ _ b1
        simp only [List.getElem?_toArray, List.getElem?_cons_zero, List.getElem?_cons_succ] at cb11
        go_wp2_with fail
        clear cb10 cb11
        clear dA dB
        by_cases hE : (Jn.readD s o).2.2 ≠ 0
        · have HC1 : Hid (Jn.crashD s o a = ([], [], (Jn.readD s o).2.2)) := by show _ = _; unfold Jn.crashD; rw [if_pos hE]
          generalize (Jn.readD s o).2.2 = er at *
          have dE : (er != 0) = true := by simp; omega
          refine (jCrash_any A n c s B m d o a w2 h h' hn hm (by unfold okI; omega)).mono ?_
          rintro e w3 ⟨v1, v2, rfl, o1, o2, hb⟩
          rw [HC1.out] at o1 o2 ⊢
          dsimp only at o1 o2 ⊢
          obtain ⟨A1, c1, rfl, q1⟩ := own_rdB (n := 0) (l := []) o1
          obtain ⟨B1, d1, rfl, t1⟩ := own_rdB (n := 0) (l := []) o2
          clear o1 o2
          replace h := (h.below hb).more hb.size
          replace h' := (h'.below hb).more hb.size
          replace b1 := blk_below b1 hb
          replace hbt := hbt.trans (hb.mono hbt.size)
          clear hb
          obtain ⟨V3, hV⟩ : ∃ V3, V3 = w3.alloc (.cells #[.slice A1 0 c1, .slice B1 0 d1] 24) := ⟨_, rfl⟩
          have x1 := blk_new hV
          have hb := below_new hV
          replace h := (h.below hb).more hb.size
          replace h' := (h'.below hb).more hb.size
          replace b1 := blk_below b1 hb
          replace q1 := (q1.below hb).more hb.size
          replace t1 := (t1.below hb).more hb.size
          replace hbt := hbt.trans (hb.mono hbt.size)
          clear hb
          have HSV3 : Hid (V3.heap.size = w3.heap.size + 1) := by show V3.heap.size = _; rw [hV, World.size_alloc]
          have HVV3 := Lib.hid hV.symm
          clear hV
          have c0 := blk_cell (j := 0) x1
          simp only [List.getElem?_toArray, List.getElem?_cons_zero, List.getElem?_cons_succ] at c0
          have c1 := blk_cell (j := 1) x1
          simp only [List.getElem?_toArray, List.getElem?_cons_zero, List.getElem?_cons_succ] at c1
          rw [← HVV3.out] at c0 c1
          go_wp2_with fail
          rw [HVV3.out]
          clear HVV3 HSV3 c0 c1
          refine (rSame_any A1 0 c1 [] B1 0 d1 [] none 0 0 [] none 0 0 [] V3 q1 t1 (RdB.nil _ _) (RdB.nil _ _)).mono ?_
          rintro e w4 ⟨b, rfl, hiff, hb⟩
          obtain rfl : b = true := hiff.2 ⟨rfl, rfl⟩
          clear hiff
          replace h := (h.below hb).more hb.size
          replace h' := (h'.below hb).more hb.size
          replace b1 := blk_below b1 hb
          replace q1 := (q1.below hb).more hb.size
          replace t1 := (t1.below hb).more hb.size
          replace x1 := blk_below x1 hb
          replace hbt := hbt.trans (hb.mono hbt.size)
          clear hb
          go_wp2_with fail
          go_ret
          exact ⟨ret_bool rfl, hbt⟩
        · have hE : (Jn.readD s o).2.2 = 0 := by omega
          obtain ⟨p, q, HRD, es, eo, hgd, hsum⟩ := Jn.readD_ok hE
          have hlp := hgd.1
          obtain ⟨i, hi⟩ : ∃ i, i = Jn.whole q a.toNat := ⟨_, rfl⟩
          have HC1 : Hid (Jn.crashD s o a = (Jn.encB (p ++ q.take i), [], 0)) := by show _ = _; rw [hi, es, eo]; rw [es, eo] at hsum; exact Jn.crashD_of hgd hsum (by omega)
          have hg1 : Jn.Good 1 (p ++ q.take i) := by have := Jn.good_take hgd (p.length + i); rwa [List.take_length_add_append] at this
          have hl1 : (Jn.encB (p ++ q.take i)).length ≤ 1048576 := by rw [Jn.encB_app, List.length_append]; have := Jn.encB_take_le q i; rw [es, eo] at hsum; omega
          have HC2 : Hid (Jn.crashD (Jn.encB (p ++ q.take i)) [] b = (Jn.encB (p ++ q.take i), [], 0)) := by
            show _ = _
            have := Jn.crashD_of (a := p ++ q.take i) (b := []) (by simpa using hg1) (by simpa [Jn.encB_nil] using hl1) (keep := b) (by omega)
            rw [Jn.encB_nil, List.take_nil, List.append_nil] at this
            exact this
          have HC3 : Hid (Jn.syncD s o = (s ++ o, [], 0)) := by show _ = _; unfold Jn.syncD; rw [if_neg (by omega)]
          have e1 : Jn.encB (p ++ q.take i) = s ++ Jn.encB (q.take i) := by rw [Jn.encB_app, es]
          have HT1 : Hid ((Jn.encB (p ++ q.take i)).take n = s) := by show _ = _; rw [e1, ← hsl.out, List.take_left]
          have hln : n ≤ (Jn.encB (p ++ q.take i)).length := by rw [e1, List.length_append, hsl.out]; omega
          have HT2 : Hid ((s ++ o).take (Jn.encB (p ++ q.take i)).length = Jn.encB (p ++ q.take i)) := by
            show _ = _
            rw [e1, List.length_append, List.take_length_add_append, eo, Jn.encB_take]
          have hlz : (Jn.encB (p ++ q.take i)).length ≤ n + m := by rw [e1, List.length_append, hsl.out, ← hol.out, eo]; have := Jn.encB_take_le q i; omega
          have HLZ : Hid ((s ++ o).length = n + m) := by show _ = _; rw [List.length_append, hsl.out, hol.out]
          clear hi hg1 hgd hlp es eo hsum HRD hE e1
          generalize Jn.encB (p ++ q.take i) = ei at *
          obtain ⟨li, hli⟩ : ∃ li, ei.length = li := ⟨_, rfl⟩
          rw [hli] at hl1 hln hlz HT2
          have HLI := Lib.hid hli
          clear hli
          refine (jCrash_any A n c s B m d o a w2 h h' hn hm (by unfold okI; omega)).mono ?_
          rintro e w3 ⟨v1, v2, rfl, o1, o2, hb⟩
          rw [HC1.out] at o1 o2 ⊢
          dsimp only at o1 o2 ⊢
          obtain ⟨A1, c1, rfl, q1⟩ := own_rdB o1
          obtain ⟨B1, d1, rfl, t1⟩ := own_rdB (n := 0) (l := []) o2
          clear o1 o2
          replace h := (h.below hb).more hb.size
          replace h' := (h'.below hb).more hb.size
          replace b1 := blk_below b1 hb
          replace hbt := hbt.trans (hb.mono hbt.size)
          clear hb
          have k11 := q1.max
          have k21 := q1.le
          have k31 := t1.max
          have k41 := t1.le
          rw [HLI.out] at q1 k21 ⊢
          obtain ⟨V3, hV⟩ : ∃ V3, V3 = w3.alloc (.cells #[.slice A1 li c1, .slice B1 0 d1] 24) := ⟨_, rfl⟩
          have x1 := blk_new hV
          have hb := below_new hV
          replace h := (h.below hb).more hb.size
          replace h' := (h'.below hb).more hb.size
          replace b1 := blk_below b1 hb
          replace q1 := (q1.below hb).more hb.size
          replace t1 := (t1.below hb).more hb.size
          replace hbt := hbt.trans (hb.mono hbt.size)
          clear hb
          have HSV3 : Hid (V3.heap.size = w3.heap.size + 1) := by show V3.heap.size = _; rw [hV, World.size_alloc]
          have HVV3 := Lib.hid hV.symm
          clear hV
          have c0 := blk_cell (j := 0) x1
          simp only [List.getElem?_toArray, List.getElem?_cons_zero, List.getElem?_cons_succ] at c0
          have c1 := blk_cell (j := 1) x1
          simp only [List.getElem?_toArray, List.getElem?_cons_zero, List.getElem?_cons_succ] at c1
          rw [← HVV3.out] at c0 c1
          go_wp2_with fail
          rw [HVV3.out]
          clear HVV3 HSV3 c0 c1
          refine (jCrash_any A1 li c1 ei B1 0 d1 [] b V3 q1 t1 (by omega) (by omega) (by unfold okI; omega)).mono ?_
          rintro e w5 ⟨v1, v2, rfl, o1, o2, hb⟩
          rw [HC2.out] at o1 o2 ⊢
          dsimp only at o1 o2 ⊢
          rw [HLI.out] at o1
          obtain ⟨A2, c2, rfl, q2⟩ := own_rdB o1
          obtain ⟨B2, d2, rfl, t2⟩ := own_rdB (n := 0) (l := []) o2
          clear o1 o2
          replace h := (h.below hb).more hb.size
          replace h' := (h'.below hb).more hb.size
          replace b1 := blk_below b1 hb
          replace q1 := (q1.below hb).more hb.size
          replace t1 := (t1.below hb).more hb.size
          replace x1 := blk_below x1 hb
          replace hbt := hbt.trans (hb.mono hbt.size)
          clear hb
          have k12 := q2.max
          have k22 := q2.le
          have k32 := t2.max
          have k42 := t2.le
          obtain ⟨V5, hV⟩ : ∃ V5, V5 = w5.alloc (.cells #[.slice A2 li c2, .slice B2 0 d2] 24) := ⟨_, rfl⟩
          have x2 := blk_new hV
          have hb := below_new hV
          replace h := (h.below hb).more hb.size
          replace h' := (h'.below hb).more hb.size
          replace b1 := blk_below b1 hb
          replace q1 := (q1.below hb).more hb.size
          replace t1 := (t1.below hb).more hb.size
          replace x1 := blk_below x1 hb
          replace q2 := (q2.below hb).more hb.size
          replace t2 := (t2.below hb).more hb.size
          replace hbt := hbt.trans (hb.mono hbt.size)
          clear hb
          have HSV5 : Hid (V5.heap.size = w5.heap.size + 1) := by show V5.heap.size = _; rw [hV, World.size_alloc]
          have HVV5 := Lib.hid hV.symm
          clear hV
          have c0 := blk_cell (j := 0) b1
          simp only [List.getElem?_toArray, List.getElem?_cons_zero, List.getElem?_cons_succ] at c0
          have c1 := blk_cell (j := 1) b1
          simp only [List.getElem?_toArray, List.getElem?_cons_zero, List.getElem?_cons_succ] at c1
          rw [← HVV5.out] at c0 c1
          go_wp2_with fail
          rw [HVV5.out]
          clear HVV5 HSV5 c0 c1
          refine (jSync_any A n c s B m d o V5 h h' hn hm).mono ?_
          rintro e w6 ⟨v1, v2, rfl, o1, o2, hb⟩
          rw [HC3.out] at o1 o2 ⊢
          dsimp only at o1 o2 ⊢
          rw [HLZ.out] at o1
          obtain ⟨A3, c3, rfl, q3⟩ := own_rdB o1
          obtain ⟨B3, d3, rfl, t3⟩ := own_rdB (n := 0) (l := []) o2
          clear o1 o2
          replace h := (h.below hb).more hb.size
          replace h' := (h'.below hb).more hb.size
          replace b1 := blk_below b1 hb
          replace q1 := (q1.below hb).more hb.size
          replace t1 := (t1.below hb).more hb.size
          replace x1 := blk_below x1 hb
          replace q2 := (q2.below hb).more hb.size
          replace t2 := (t2.below hb).more hb.size
          replace x2 := blk_below x2 hb
          replace hbt := hbt.trans (hb.mono hbt.size)
          clear hb
          have k13 := q3.max
          have k23 := q3.le
          have k33 := t3.max
          have k43 := t3.le
          obtain ⟨V6, hV⟩ : ∃ V6, V6 = w6.alloc (.cells #[.slice A3 (n + m) c3, .slice B3 0 d3] 24) := ⟨_, rfl⟩
          have x3 := blk_new hV
          have hb := below_new hV
          replace h := (h.below hb).more hb.size
          replace h' := (h'.below hb).more hb.size
          replace b1 := blk_below b1 hb
          replace q1 := (q1.below hb).more hb.size
          replace t1 := (t1.below hb).more hb.size
          replace x1 := blk_below x1 hb
          replace q2 := (q2.below hb).more hb.size
          replace t2 := (t2.below hb).more hb.size
          replace x2 := blk_below x2 hb
          replace q3 := (q3.below hb).more hb.size
          replace t3 := (t3.below hb).more hb.size
          replace hbt := hbt.trans (hb.mono hbt.size)
          clear hb
          have HSV6 : Hid (V6.heap.size = w6.heap.size + 1) := by show V6.heap.size = _; rw [hV, World.size_alloc]
          have HVV6 := Lib.hid hV.symm
          clear hV
          have c0 := blk_cell (j := 0) b1
          simp only [List.getElem?_toArray, List.getElem?_cons_zero, List.getElem?_cons_succ] at c0
          have c1 := blk_cell (j := 1) b1
          simp only [List.getElem?_toArray, List.getElem?_cons_zero, List.getElem?_cons_succ] at c1
          rw [← HVV6.out] at c0 c1
          go_wp2_with fail
          rw [HVV6.out]
          clear HVV6 HSV6 c0 c1
          have dN : decide (n ≤ li) = true := by simp; omega
          have dM : decide (li ≤ n + m) = true := by simp; omega
          have dM2 : decide ((li : Int) ≤ (n : Int) + (m : Int)) = true := by simp; omega
          refine wp_region_plan [([0, 1, 2, 3, 4], some 5), ([6, 7, 8, 9, 10, 11, 12, 13, 14, 15, 16, 17, 18, 19, 20, 21, 22, 23, 24, 25, 26, 27, 28, 29, 30, 31, 32, 33, 34, 35, 36, 37, 38, 39, 40, 41, 42, 43, 44, 45, 46, 47, 48, 49, 50, 51], none)] (by kernel_rfl) (by kernel_rfl) ?_
          intro wd hsz hb
          clear hsz
          replace h := (h.below hb).more hb.size
          replace h' := (h'.below hb).more hb.size
          replace b1 := blk_below b1 hb
          replace q1 := (q1.below hb).more hb.size
          replace t1 := (t1.below hb).more hb.size
          replace x1 := blk_below x1 hb
          replace q2 := (q2.below hb).more hb.size
          replace t2 := (t2.below hb).more hb.size
          replace x2 := blk_below x2 hb
          replace q3 := (q3.below hb).more hb.size
          replace t3 := (t3.below hb).more hb.size
          replace x3 := blk_below x3 hb
          replace hbt := hbt.trans (hb.mono hbt.size)
          clear hb
          simp only [pickP, pick, List.map_cons, List.map_nil, Option.map_some, Option.map_none, List.getD_cons_zero, List.getD_cons_succ]
          have zc0 : ∀ x : Ext wd.heap.size wd, x.val.cell? ⟨w.heap.size, 0, none⟩ = some (.slice A n c) := fun x => (x.cell (blk_lt b1)).trans (blk_cell b1)
          have zc1 : ∀ x : Ext wd.heap.size wd, x.val.cell? ⟨w.heap.size, 1, none⟩ = some (.slice B m d) := fun x => (x.cell (blk_lt b1)).trans (blk_cell b1)
          have ze0 : ∀ x : Ext wd.heap.size wd, x.val.cell? ⟨w3.heap.size, 0, none⟩ = some (.slice A1 li c1) := fun x => (x.cell (blk_lt x1)).trans (blk_cell x1)
          have ze1 : ∀ x : Ext wd.heap.size wd, x.val.cell? ⟨w3.heap.size, 1, none⟩ = some (.slice B1 0 d1) := fun x => (x.cell (blk_lt x1)).trans (blk_cell x1)
          have zf0 : ∀ x : Ext wd.heap.size wd, x.val.cell? ⟨w5.heap.size, 0, none⟩ = some (.slice A2 li c2) := fun x => (x.cell (blk_lt x2)).trans (blk_cell x2)
          have zf1 : ∀ x : Ext wd.heap.size wd, x.val.cell? ⟨w5.heap.size, 1, none⟩ = some (.slice B2 0 d2) := fun x => (x.cell (blk_lt x2)).trans (blk_cell x2)
          have zg0 : ∀ x : Ext wd.heap.size wd, x.val.cell? ⟨w6.heap.size, 0, none⟩ = some (.slice A3 (n + m) c3) := fun x => (x.cell (blk_lt x3)).trans (blk_cell x3)
          have zg1 : ∀ x : Ext wd.heap.size wd, x.val.cell? ⟨w6.heap.size, 1, none⟩ = some (.slice B3 0 d3) := fun x => (x.cell (blk_lt x3)).trans (blk_cell x3)
          refine plan_cons ?_
          (repeat (go_big_quiet_step (fail)))
          refine plan_nil ?_
          clear zc0 zc1 ze0 ze1 zf0 zf1 zg0 zg1
          refine plan_call (by kernel_rfl) (fun K hK => ?_)
          go_simp
          refine (rSame_any A1 li c1 ei B1 0 d1 [] A2 li c2 ei B2 0 d2 [] _ q1 t1 q2 t2).mono ?_
          rintro e w7 ⟨b, rfl, hiff, hb⟩
          obtain rfl : b = true := hiff.2 ⟨rfl, rfl⟩
          clear hiff
          refine hK.out _ _ hb ?_
          clear hK K
          (try simp only [Act.put, List.setIfInBounds_toArray, List.set_cons_zero, List.set_cons_succ])
          replace h := (h.below hb).more hb.size
          replace h' := (h'.below hb).more hb.size
          replace b1 := blk_below b1 hb
          replace q1 := (q1.below hb).more hb.size
          replace t1 := (t1.below hb).more hb.size
          replace x1 := blk_below x1 hb
          replace q2 := (q2.below hb).more hb.size
          replace t2 := (t2.below hb).more hb.size
          replace x2 := blk_below x2 hb
          replace q3 := (q3.below hb).more hb.size
          replace t3 := (t3.below hb).more hb.size
          replace x3 := blk_below x3 hb
          replace hbt := hbt.trans (hb.mono hbt.size)
          clear hb
          have zc0 : ∀ x : Ext w7.heap.size w7, x.val.cell? ⟨w.heap.size, 0, none⟩ = some (.slice A n c) := fun x => (x.cell (blk_lt b1)).trans (blk_cell b1)
          have zc1 : ∀ x : Ext w7.heap.size w7, x.val.cell? ⟨w.heap.size, 1, none⟩ = some (.slice B m d) := fun x => (x.cell (blk_lt b1)).trans (blk_cell b1)
          have ze0 : ∀ x : Ext w7.heap.size w7, x.val.cell? ⟨w3.heap.size, 0, none⟩ = some (.slice A1 li c1) := fun x => (x.cell (blk_lt x1)).trans (blk_cell x1)
          have ze1 : ∀ x : Ext w7.heap.size w7, x.val.cell? ⟨w3.heap.size, 1, none⟩ = some (.slice B1 0 d1) := fun x => (x.cell (blk_lt x1)).trans (blk_cell x1)
          have zf0 : ∀ x : Ext w7.heap.size w7, x.val.cell? ⟨w5.heap.size, 0, none⟩ = some (.slice A2 li c2) := fun x => (x.cell (blk_lt x2)).trans (blk_cell x2)
          have zf1 : ∀ x : Ext w7.heap.size w7, x.val.cell? ⟨w5.heap.size, 1, none⟩ = some (.slice B2 0 d2) := fun x => (x.cell (blk_lt x2)).trans (blk_cell x2)
          have zg0 : ∀ x : Ext w7.heap.size w7, x.val.cell? ⟨w6.heap.size, 0, none⟩ = some (.slice A3 (n + m) c3) := fun x => (x.cell (blk_lt x3)).trans (blk_cell x3)
          have zg1 : ∀ x : Ext w7.heap.size w7, x.val.cell? ⟨w6.heap.size, 1, none⟩ = some (.slice B3 0 d3) := fun x => (x.cell (blk_lt x3)).trans (blk_cell x3)
          have u1 := q1.upto hln
          rw [HT1.out] at u1
          have u3 := q3.upto hlz
          rw [HT2.out] at u3
          have s1 : ∀ x : Ext w7.heap.size w7, _ := fun x => run_str (u1.below x.ok)
          have s2 : ∀ x : Ext w7.heap.size w7, _ := fun x => run_str (h.below x.ok)
          have s3 : ∀ x : Ext w7.heap.size w7, _ := fun x => run_str (u3.below x.ok)
          have s4 : ∀ x : Ext w7.heap.size w7, _ := fun x => run_str (q1.below x.ok)
          refine plan_cons ?_
          (repeat (go_big_quiet_step (fail)))
          refine plan_nil ?_
          clear s1 s2 s3 s4 u1 u3 zc0 zc1 ze0 ze1 zf0 zf1 zg0 zg1
          refine plan_end ?_
          go_wp2_with fail
          go_ret
          exact ⟨ret_bool rfl, hbt⟩
end Go.Proofs.Ytfacdoemgalodaa
