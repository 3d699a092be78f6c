/-
  JournalKeeps, walked.
-/
import Derived.Test.YtfacdoemgalodaaLive34
namespace Go.Proofs.Ytfacdoemgalodaa
open Go.RowKit
set_option linter.unusedVariables false
set_option linter.unusedSimpArgs false

set_option maxRecDepth 100000 in
set_option maxHeartbeats 4000000 in
theorem journalKeeps_any (A : Option Addr) (n c : Nat) (s : List UInt8) (B : Option Addr) (m d : Nat) (o : List UInt8) (a b : Int) (w : World) (h : RdB w w.heap.size A n c s) (h' : RdB w w.heap.size B m d o) (hn : n ≤ 140737488355328) (hm : m ≤ 140737488355328) (ha : okI a) (hb0 : okI b) :
    Calls Try.prog 5 #[.agg #[.slice A n c, .slice B m d], .int .i64 a, .int .i64 b] w fun e w' => e = .returned (.bool true) ∧ Below w.heap.size w w' := by
  have h1 := h.max
  have h2 := h.le
  have h3 := h'.max
  have h4 := h'.le
  have hbt := Below.refl w.heap.size w
  have hsl := Lib.hid h.len
  have hol := Lib.hid h'.len
  unfold okI at ha hb0
  obtain ⟨V1, hV⟩ : ∃ V1, V1 = w.alloc (.cells #[.slice A n c, .slice B m d] 24) := ⟨_, rfl⟩
  have b1 := blk_new hV
  have hb := below_new hV
  replace h := (h.below hb).more hb.size
  replace h' := (h'.below hb).more hb.size
  replace hbt := hbt.trans (hb.mono hbt.size)
  clear hb
  have HSV1 : Hid (V1.heap.size = w.heap.size + 1) := by show V1.heap.size = _; rw [hV, World.size_alloc]
  have HVV1 := Lib.hid hV.symm
  clear hV
  go_enter Try.func5, Try.ntmps5
  go_wp2_with fail
  rw [HVV1.out]
  clear HVV1 HSV1
  refine (live_any V1).mono ?_
  rintro e w1 ⟨rfl, hb⟩
  replace h := (h.below hb).more hb.size
  replace h' := (h'.below hb).more hb.size
  replace b1 := blk_below b1 hb
  replace hbt := hbt.trans (hb.mono hbt.size)
  clear hb
  have cb10 := cell_of_row w1 w.heap.size 0 _ _ _ b1
  simp only [List.getElem?_toArray, List.getElem?_cons_zero, List.getElem?_cons_succ] at cb10
  have cb11 := cell_of_row w1 w.heap.size 1 _ _ _ b1
  simp only [List.getElem?_toArray, List.getElem?_cons_zero, List.getElem?_cons_succ] at cb11
  go_wp2_with fail
  clear cb10 cb11
  refine (rFew_any A n c B m d w1).mono ?_
  rintro e w2 ⟨bf, rfl, hfew, hb⟩
  replace h := (h.below hb).more hb.size
  replace h' := (h'.below hb).more hb.size
  replace b1 := blk_below b1 hb
  replace hbt := hbt.trans (hb.mono hbt.size)
  clear hb
  cases bf with
  | false =>
    have hf : ¬ (n ≤ 4000 ∧ m ≤ 4000) := fun hh => by have := hfew.2 hh; cases this
    clear hfew
    go_wp2_with fail
    go_ret
    exact ⟨ret_bool rfl, hbt⟩
  | true =>
    have hf := hfew.1 rfl
    clear hfew
    by_cases ha0 : a < 0
    · have dA : decide (a < 0) = true := by simp; omega
      go_wp2_with fail
      go_ret
      exact ⟨ret_bool rfl, hbt⟩
    · have dA : decide (a < 0) = false := by simp; omega
      by_cases hba : b < a
      · have dB : decide (b < a) = true := by simp; omega
        go_wp2_with fail
        go_ret
        exact ⟨ret_bool rfl, hbt⟩
      · have dB : decide (b < a) = false := by simp; omega
        have cb10 := cell_of_row w2 w.heap.size 0 _ _ _ b1
        simp only [List.getElem?_toArray, List.getElem?_cons_zero, List.getElem?_cons_succ] at cb10
        have cb11 := cell_of_row w2 w.heap.size 1 _ _ _ b1
        simp only [List.getElem?_toArray, List.getElem?_cons_zero, List.getElem?_cons_succ] at cb11
        go_wp2_with fail
        clear cb10 cb11
        clear dA dB
        by_cases hE : (Jn.readD s o).2.2 ≠ 0
        · have HC : Hid (∀ k : Int, 0 ≤ k → Jn.crashD s o k = ([], [], (Jn.readD s o).2.2)) := fun k hk => by unfold Jn.crashD; rw [if_pos hE]
          have HCa := HC.out a (by omega)
          have HCb := HC.out b (by omega)
          have HC1 := Lib.hid HCa
          have HC2 := Lib.hid HCb
          clear HCa HCb HC
          generalize (Jn.readD s o).2.2 = er at *
          have dE : (er != 0) = true := by simp; omega
          refine (jCrash_any A n c s B m d o a w2 h h' hn hm (by unfold okI; omega)).mono ?_
          rintro e w3 ⟨v1, v2, rfl, o1, o2, hb⟩
          rw [HC1.out] at o1 o2 ⊢
          dsimp only at o1 o2 ⊢
          obtain ⟨A1, c1, rfl, _⟩ := own_rdB (n := 0) (l := []) o1
          obtain ⟨B1, d1, rfl, _⟩ := own_rdB (n := 0) (l := []) o2
          clear o1 o2
          replace h := (h.below hb).more hb.size
          replace h' := (h'.below hb).more hb.size
          replace b1 := blk_below b1 hb
          replace hbt := hbt.trans (hb.mono hbt.size)
          clear hb
          obtain ⟨V3, hV⟩ : ∃ V3, V3 = w3.alloc (.cells #[.slice A1 0 c1, .slice B1 0 d1] 24) := ⟨_, rfl⟩
          have x1 := blk_new hV
          have hb := below_new hV
          replace h := (h.below hb).more hb.size
          replace h' := (h'.below hb).more hb.size
          replace b1 := blk_below b1 hb
          replace hbt := hbt.trans (hb.mono hbt.size)
          clear hb
          have HSV3 : Hid (V3.heap.size = w3.heap.size + 1) := by show V3.heap.size = _; rw [hV, World.size_alloc]
          have HVV3 := Lib.hid hV.symm
          clear hV
          have c0 := blk_cell (j := 0) b1
          simp only [List.getElem?_toArray, List.getElem?_cons_zero, List.getElem?_cons_succ] at c0
          have c1 := blk_cell (j := 1) b1
          simp only [List.getElem?_toArray, List.getElem?_cons_zero, List.getElem?_cons_succ] at c1
          rw [← HVV3.out] at c0 c1
          go_wp2_with fail
          rw [HVV3.out]
          clear HVV3 HSV3 c0 c1
          refine (jCrash_any A n c s B m d o b V3 h h' hn hm (by unfold okI; omega)).mono ?_
          rintro e w5 ⟨v1, v2, rfl, o1, o2, hb⟩
          rw [HC2.out] at o1 o2 ⊢
          dsimp only at o1 o2 ⊢
          obtain ⟨A2, c2, rfl, _⟩ := own_rdB (n := 0) (l := []) o1
          obtain ⟨B2, d2, rfl, _⟩ := own_rdB (n := 0) (l := []) o2
          clear o1 o2
          replace h := (h.below hb).more hb.size
          replace h' := (h'.below hb).more hb.size
          replace b1 := blk_below b1 hb
          replace x1 := blk_below x1 hb
          replace hbt := hbt.trans (hb.mono hbt.size)
          clear hb
          obtain ⟨V5, hV⟩ : ∃ V5, V5 = w5.alloc (.cells #[.slice A2 0 c2, .slice B2 0 d2] 24) := ⟨_, rfl⟩
          have x2 := blk_new hV
          have hb := below_new hV
          replace h := (h.below hb).more hb.size
          replace h' := (h'.below hb).more hb.size
          replace b1 := blk_below b1 hb
          replace x1 := blk_below x1 hb
          replace hbt := hbt.trans (hb.mono hbt.size)
          clear hb
          have HSV5 : Hid (V5.heap.size = w5.heap.size + 1) := by show V5.heap.size = _; rw [hV, World.size_alloc]
          have HVV5 := Lib.hid hV.symm
          clear hV
          go_wp2_with fail
          rw [HVV5.out]
          go_ret
          exact ⟨ret_bool (by simp), hbt⟩
        · have hE : (Jn.readD s o).2.2 = 0 := by omega
          obtain ⟨p, q, HRD, es, eo, hgd, hsum⟩ := Jn.readD_ok hE
          have hlp := hgd.1
          obtain ⟨i, hi⟩ : ∃ i, i = Jn.whole q a.toNat := ⟨_, rfl⟩
          obtain ⟨j, hj⟩ : ∃ j, j = Jn.whole q b.toNat := ⟨_, rfl⟩
          have hij : i ≤ j := by rw [hi, hj]; exact Jn.whole_mono q (by omega)
          have HC1 : Hid (Jn.crashD s o a = (Jn.encB (p ++ q.take i), [], 0)) := by show _ = _; rw [hi, es, eo]; rw [es, eo] at hsum; exact Jn.crashD_of hgd hsum (by omega)
          have HC2 : Hid (Jn.crashD s o b = (Jn.encB (p ++ q.take j), [], 0)) := by show _ = _; rw [hj, es, eo]; rw [es, eo] at hsum; exact Jn.crashD_of hgd hsum (by omega)
          have hg1 : Jn.Good 1 (p ++ q.take i) := by have := Jn.good_take hgd (p.length + i); rwa [List.take_length_add_append] at this
          have hg2 : Jn.Good 1 (p ++ q.take j) := by have := Jn.good_take hgd (p.length + j); rwa [List.take_length_add_append] at this
          have hl1 : (Jn.encB (p ++ q.take i)).length ≤ 1048576 := by rw [Jn.encB_app, List.length_append]; have := Jn.encB_take_le q i; rw [es, eo] at hsum; omega
          have hl2 : (Jn.encB (p ++ q.take j)).length ≤ 1048576 := by rw [Jn.encB_app, List.length_append]; have := Jn.encB_take_le q j; rw [es, eo] at hsum; omega
          have HR1 : Hid (Jn.readD (Jn.encB (p ++ q.take i)) [] = (p ++ q.take i, [], 0)) := by show _ = _; have := Jn.readD_of (a := p ++ q.take i) (b := []) (by simpa using hg1) (by simpa [Jn.encB_nil] using hl1); exact this
          have HR2 : Hid (Jn.readD (Jn.encB (p ++ q.take j)) [] = (p ++ q.take j, [], 0)) := by show _ = _; have := Jn.readD_of (a := p ++ q.take j) (b := []) (by simpa using hg2) (by simpa [Jn.encB_nil] using hl2); exact this
          have HT : Hid ((p ++ q.take j).take (p ++ q.take i).length = p ++ q.take i) := by
            show _ = _
            rw [List.length_append, List.take_length_add_append, List.take_take]
            congr 1
            have e := Jn.take_min q i
            rw [show min (q.take i).length j = min i q.length by rw [List.length_take]; omega, ← e]
          have hle : (p ++ q.take i).length ≤ (p ++ q.take j).length := by simp only [List.length_append, List.length_take]; omega
          clear hi hj hg1 hg2 hgd hlp es eo hsum HRD hE
          generalize p ++ q.take i = vi at *
          generalize p ++ q.take j = vj at *
          obtain ⟨ei, hei⟩ : ∃ ei, ei = Jn.encB vi := ⟨_, rfl⟩
          obtain ⟨ej, hej⟩ : ∃ ej, ej = Jn.encB vj := ⟨_, rfl⟩
          rw [← hei] at HC1 HR1 hl1
          rw [← hej] at HC2 HR2 hl2
          clear hei hej
          obtain ⟨li, hli⟩ : ∃ li, ei.length = li := ⟨_, rfl⟩
          obtain ⟨lj, hlj⟩ : ∃ lj, ej.length = lj := ⟨_, rfl⟩
          rw [hli] at hl1
          rw [hlj] at hl2
          have HLI := Lib.hid hli
          have HLJ := Lib.hid hlj
          clear hli hlj
          refine (jCrash_any A n c s B m d o a w2 h h' hn hm (by unfold okI; omega)).mono ?_
          rintro e w3 ⟨v1, v2, rfl, o1, o2, hb⟩
          rw [HC1.out] at o1 o2 ⊢
          dsimp only at o1 o2 ⊢
          obtain ⟨A1, c1, rfl, q1⟩ := own_rdB o1
          obtain ⟨B1, d1, rfl, t1⟩ := own_rdB (n := 0) (l := []) o2
          clear o1 o2
          replace h := (h.below hb).more hb.size
          replace h' := (h'.below hb).more hb.size
          replace b1 := blk_below b1 hb
          replace hbt := hbt.trans (hb.mono hbt.size)
          clear hb
          have k11 := q1.max
          have k21 := q1.le
          have k31 := t1.max
          have k41 := t1.le
          rw [HLI.out] at q1 k21 ⊢
          obtain ⟨V3, hV⟩ : ∃ V3, V3 = w3.alloc (.cells #[.slice A1 li c1, .slice B1 0 d1] 24) := ⟨_, rfl⟩
          have x1 := blk_new hV
          have hb := below_new hV
          replace h := (h.below hb).more hb.size
          replace h' := (h'.below hb).more hb.size
          replace b1 := blk_below b1 hb
          replace q1 := (q1.below hb).more hb.size
          replace t1 := (t1.below hb).more hb.size
          replace hbt := hbt.trans (hb.mono hbt.size)
          clear hb
          have HSV3 : Hid (V3.heap.size = w3.heap.size + 1) := by show V3.heap.size = _; rw [hV, World.size_alloc]
          have HVV3 := Lib.hid hV.symm
          clear hV
          have c0 := blk_cell (j := 0) b1
          simp only [List.getElem?_toArray, List.getElem?_cons_zero, List.getElem?_cons_succ] at c0
          have c1 := blk_cell (j := 1) b1
          simp only [List.getElem?_toArray, List.getElem?_cons_zero, List.getElem?_cons_succ] at c1
          rw [← HVV3.out] at c0 c1
          go_wp2_with fail
          rw [HVV3.out]
          clear HVV3 HSV3 c0 c1
          refine (jCrash_any A n c s B m d o b V3 h h' hn hm (by unfold okI; omega)).mono ?_
          rintro e w5 ⟨v1, v2, rfl, o1, o2, hb⟩
          rw [HC2.out] at o1 o2 ⊢
          dsimp only at o1 o2 ⊢
          obtain ⟨A2, c2, rfl, q2⟩ := own_rdB o1
          obtain ⟨B2, d2, rfl, t2⟩ := own_rdB (n := 0) (l := []) o2
          clear o1 o2
          replace h := (h.below hb).more hb.size
          replace h' := (h'.below hb).more hb.size
          replace b1 := blk_below b1 hb
          replace q1 := (q1.below hb).more hb.size
          replace t1 := (t1.below hb).more hb.size
          replace x1 := blk_below x1 hb
          replace hbt := hbt.trans (hb.mono hbt.size)
          clear hb
          have k12 := q2.max
          have k22 := q2.le
          have k32 := t2.max
          have k42 := t2.le
          rw [HLJ.out] at q2 k22 ⊢
          obtain ⟨V5, hV⟩ : ∃ V5, V5 = w5.alloc (.cells #[.slice A2 lj c2, .slice B2 0 d2] 24) := ⟨_, rfl⟩
          have x2 := blk_new hV
          have hb := below_new hV
          replace h := (h.below hb).more hb.size
          replace h' := (h'.below hb).more hb.size
          replace b1 := blk_below b1 hb
          replace q1 := (q1.below hb).more hb.size
          replace t1 := (t1.below hb).more hb.size
          replace x1 := blk_below x1 hb
          replace q2 := (q2.below hb).more hb.size
          replace t2 := (t2.below hb).more hb.size
          replace hbt := hbt.trans (hb.mono hbt.size)
          clear hb
          have HSV5 : Hid (V5.heap.size = w5.heap.size + 1) := by show V5.heap.size = _; rw [hV, World.size_alloc]
          have HVV5 := Lib.hid hV.symm
          clear hV
          have c0 := blk_cell (j := 0) x1
          simp only [List.getElem?_toArray, List.getElem?_cons_zero, List.getElem?_cons_succ] at c0
          have c1 := blk_cell (j := 1) x1
          simp only [List.getElem?_toArray, List.getElem?_cons_zero, List.getElem?_cons_succ] at c1
          rw [← HVV5.out] at c0 c1
          go_wp2_with fail
          rw [HVV5.out]
          clear HVV5 HSV5 c0 c1
          refine (jRead_any A1 li c1 ei B1 0 d1 [] V5 q1 t1 (by omega) (by omega)).mono ?_
          rintro e w6 ⟨u1, u2, rfl, o1, o2, hb⟩
          rw [HR1.out] at o1 o2 ⊢
          dsimp only at o1 o2 ⊢
          obtain ⟨E1, f1, rfl, r1⟩ := o1.rd
          obtain ⟨E1', f1', rfl, _⟩ := o2.rd
          rw [show ([] : List Ver).length = 0 from rfl]
          clear o1 o2
          replace h := (h.below hb).more hb.size
          replace h' := (h'.below hb).more hb.size
          replace b1 := blk_below b1 hb
          replace q1 := (q1.below hb).more hb.size
          replace t1 := (t1.below hb).more hb.size
          replace x1 := blk_below x1 hb
          replace q2 := (q2.below hb).more hb.size
          replace t2 := (t2.below hb).more hb.size
          replace x2 := blk_below x2 hb
          replace hbt := hbt.trans (hb.mono hbt.size)
          clear hb
          have k51 := r1.max
          have k61 := r1.le
          have cx20 := cell_of_row w6 w5.heap.size 0 _ _ _ x2
          simp only [List.getElem?_toArray, List.getElem?_cons_zero, List.getElem?_cons_succ] at cx20
          have cx21 := cell_of_row w6 w5.heap.size 1 _ _ _ x2
          simp only [List.getElem?_toArray, List.getElem?_cons_zero, List.getElem?_cons_succ] at cx21
          go_wp2_with fail
          clear cx20 cx21
          refine (jRead_any A2 lj c2 ej B2 0 d2 [] w6 q2 t2 (by omega) (by omega)).mono ?_
          rintro e w7 ⟨u1, u2, rfl, o1, o2, hb⟩
          rw [HR2.out] at o1 o2 ⊢
          dsimp only at o1 o2 ⊢
          obtain ⟨E2, f2, rfl, r2⟩ := o1.rd
          obtain ⟨E2', f2', rfl, _⟩ := o2.rd
          rw [show ([] : List Ver).length = 0 from rfl]
          clear o1 o2
          replace h := (h.below hb).more hb.size
          replace h' := (h'.below hb).more hb.size
          replace b1 := blk_below b1 hb
          replace q1 := (q1.below hb).more hb.size
          replace t1 := (t1.below hb).more hb.size
          replace x1 := blk_below x1 hb
          replace q2 := (q2.below hb).more hb.size
          replace t2 := (t2.below hb).more hb.size
          replace x2 := blk_below x2 hb
          replace r1 := (r1.below hb).more hb.size
          replace hbt := hbt.trans (hb.mono hbt.size)
          clear hb
          have k52 := r2.max
          have k62 := r2.le
          obtain ⟨ni, hni⟩ : ∃ ni, vi.length = ni := ⟨_, rfl⟩
          obtain ⟨nj, hnj⟩ : ∃ nj, vj.length = nj := ⟨_, rfl⟩
          rw [hni] at r1 k61 hle HT ⊢
          rw [hnj] at r2 k62 hle ⊢
          have r3 := r2.upto hle
          rw [HT.out] at r3
          clear hni hnj
          have dL : decide ((ni : Int) ≤ (nj : Int)) = true := by simp; omega
          have dL2 : decide (ni ≤ nj) = true := by simp; omega
          go_wp2_with fail
          refine (versions_any E1 E2 ni f1 ni f2 vi vi w7 r1 r3).mono ?_
          rintro e w8 ⟨bb, rfl, hiff, hb⟩
          obtain rfl : bb = true := hiff.2 rfl
          clear hiff r3
          replace h := (h.below hb).more hb.size
          replace h' := (h'.below hb).more hb.size
          replace b1 := blk_below b1 hb
          replace q1 := (q1.below hb).more hb.size
          replace t1 := (t1.below hb).more hb.size
          replace x1 := blk_below x1 hb
          replace q2 := (q2.below hb).more hb.size
          replace t2 := (t2.below hb).more hb.size
          replace x2 := blk_below x2 hb
          replace r1 := (r1.below hb).more hb.size
          replace r2 := (r2.below hb).more hb.size
          replace hbt := hbt.trans (hb.mono hbt.size)
          clear hb
          go_wp2_with fail
          go_ret
          exact ⟨ret_bool rfl, hbt⟩
end Go.Proofs.Ytfacdoemgalodaa
