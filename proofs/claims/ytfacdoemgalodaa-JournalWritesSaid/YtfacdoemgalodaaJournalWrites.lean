/-
  JournalWrites, walked.
-/
import Derived.Test.YtfacdoemgalodaaLive34
import Derived.Test.YtfacdoemgalodaaRAppW
import Derived.Test.YtfacdoemgalodaaFewW
namespace Go.Proofs.Ytfacdoemgalodaa
open Go.RowKit
set_option linter.unusedVariables false
set_option linter.unusedSimpArgs false

set_option maxRecDepth 100000 in
set_option maxHeartbeats 4000000 in
theorem journalWrites_any (A : Option Addr) (n c : Nat) (s : List UInt8) (B : Option Addr) (m d : Nat) (o : List UInt8) (v : Ver) (E : Option Addr) (ce : Nat) (w : World) (h : RdB w w.heap.size A n c s) (h' : RdB w w.heap.size B m d o) (hn : n ≤ 140737488355328) (hm : m ≤ 140737488355328) (hv : RdP w w.heap.size E v.week.length ce v.week) (hv1 : okI v.no) (hv2 : okI v.cost) :
    Calls Try.prog 7 #[.agg #[.slice A n c, .slice B m d], .agg #[.int .i64 v.no, .slice E v.week.length ce, .int .i64 v.cost, .bool v.best]] w fun e w' => e = .returned (.bool true) ∧ Below w.heap.size w w' := by
  have h1 := h.max
  have h2 := h.le
  have h3 := h'.max
  have h4 := h'.le
  have hbt := Below.refl w.heap.size w
  have hsl := Lib.hid h.len
  have hol := Lib.hid h'.len
  obtain ⟨V1, hV⟩ : ∃ V1, V1 = w.alloc (.cells #[.slice A n c, .slice B m d] 24) := ⟨_, rfl⟩
  have b1 := blk_new hV
  have hb := below_new hV
  replace h := (h.below hb).more hb.size
  replace h' := (h'.below hb).more hb.size
  replace hv := (hv.below hb).more hb.size
  replace hbt := hbt.trans (hb.mono hbt.size)
  clear hb
  have HSV1 : Hid (V1.heap.size = w.heap.size + 1) := by show V1.heap.size = _; rw [hV, World.size_alloc]
  have HVV1 := Lib.hid hV.symm
  clear hV
  obtain ⟨V2, hV⟩ : ∃ V2, V2 = V1.alloc (.cells #[.int .i64 v.no, .slice E v.week.length ce, .int .i64 v.cost, .bool v.best] 42) := ⟨_, rfl⟩
  have b3 := blk_new hV
  have hb := below_new hV
  replace h := (h.below hb).more hb.size
  replace h' := (h'.below hb).more hb.size
  replace hv := (hv.below hb).more hb.size
  replace b1 := blk_below b1 hb
  replace hbt := hbt.trans (hb.mono hbt.size)
  clear hb
  have HSV2 : Hid (V2.heap.size = V1.heap.size + 1) := by show V2.heap.size = _; rw [hV, World.size_alloc]
  have HVV2 := Lib.hid hV.symm
  clear hV
  rw [HSV1.out] at b3
  rw [← HVV1.out] at HVV2
  go_enter Try.func7, Try.ntmps7
  go_wp2_with fail
  rw [HVV2.out]
  clear HVV2 HVV1 HSV1 HSV2
  refine (live_any V2).mono ?_
  rintro e w1 ⟨rfl, hb⟩
  replace h := (h.below hb).more hb.size
  replace h' := (h'.below hb).more hb.size
  replace hv := (hv.below hb).more hb.size
  replace b1 := blk_below b1 hb
  replace b3 := blk_below b3 hb
  replace hbt := hbt.trans (hb.mono hbt.size)
  clear hb
  have cb10 := cell_of_row w1 w.heap.size 0 _ _ _ b1
  simp only [List.getElem?_toArray, List.getElem?_cons_zero, List.getElem?_cons_succ] at cb10
  have cb11 := cell_of_row w1 w.heap.size 1 _ _ _ b1
  simp only [List.getElem?_toArray, List.getElem?_cons_zero, List.getElem?_cons_succ] at cb11
  go_wp2_with fail
  clear cb10 cb11
  refine (rFew_any A n c B m d w1).mono ?_
  rintro e w2 ⟨bf, rfl, hfew, hb⟩
  replace h := (h.below hb).more hb.size
  replace h' := (h'.below hb).more hb.size
  replace hv := (hv.below hb).more hb.size
  replace b1 := blk_below b1 hb
  replace b3 := blk_below b3 hb
  replace hbt := hbt.trans (hb.mono hbt.size)
  clear hb
  cases bf with
  | false =>
    have hf : ¬ (n ≤ 4000 ∧ m ≤ 4000) := fun hh => by have := hfew.2 hh; cases this
    clear hfew
    go_wp2_with fail
    go_ret
    exact ⟨ret_bool rfl, hbt⟩
  | true =>
    have hf := hfew.1 rfl
    clear hfew
    have hvm := hv.max
    have hvl := hv.le
    have e0 := blk_cell (j := 0) b3
    simp only [List.getElem?_toArray, List.getElem?_cons_zero, List.getElem?_cons_succ] at e0
    have e1 := blk_cell (j := 1) b3
    simp only [List.getElem?_toArray, List.getElem?_cons_zero, List.getElem?_cons_succ] at e1
    have e2 := blk_cell (j := 2) b3
    simp only [List.getElem?_toArray, List.getElem?_cons_zero, List.getElem?_cons_succ] at e2
    have e3 := blk_cell (j := 3) b3
    simp only [List.getElem?_toArray, List.getElem?_cons_zero, List.getElem?_cons_succ] at e3
    obtain ⟨V4, hV⟩ : ∃ V4, V4 = w2.alloc (.cells #[.int .i64 v.no, .slice E v.week.length ce, .int .i64 v.cost, .bool v.best] 42) := ⟨_, rfl⟩
    have b4 := blk_new hV
    have hb := below_new hV
    replace h := (h.below hb).more hb.size
    replace h' := (h'.below hb).more hb.size
    replace hv := (hv.below hb).more hb.size
    replace b1 := blk_below b1 hb
    replace b3 := blk_below b3 hb
    replace hbt := hbt.trans (hb.mono hbt.size)
    clear hb
    have HSV4 : Hid (V4.heap.size = w2.heap.size + 1) := by show V4.heap.size = _; rw [hV, World.size_alloc]
    have HVV4 := Lib.hid hV.symm
    clear hV
    go_wp2_with fail
    rw [HVV4.out]
    clear HVV4 HSV4 e0 e1 e2 e3
    have qv : RdV V4 V4.heap.size (some ⟨w2.heap.size, 0, none⟩) 1 1 [v] := by
      refine ⟨[.slice E v.week.length ce], rfl, RdK.blk 4 b4 rfl (by omega), fun i u s hi hs => ?_⟩
      cases i with
      | zero =>
        simp at hi hs
        subst hi hs
        exact ⟨E, ce, rfl, hv, hv1, hv2⟩
      | succ i => simp at hi
    refine (fewVs_any (some ⟨w2.heap.size, 0, none⟩) 1 1 [v] 1 V4 qv (by omega)).mono ?_
    rintro e w5 ⟨bf, rfl, hfv, hb⟩
    replace h := (h.below hb).more hb.size
    replace h' := (h'.below hb).more hb.size
    replace hv := (hv.below hb).more hb.size
    replace b1 := blk_below b1 hb
    replace b3 := blk_below b3 hb
    replace b4 := blk_below b4 hb
    replace hbt := hbt.trans (hb.mono hbt.size)
    clear hb
    clear qv
    cases bf with
    | false =>
      go_wp2_with fail
      go_ret
      exact ⟨ret_bool rfl, hbt⟩
    | true =>
      have hw70 : v.week.length ≤ 70 := (hfv.1 rfl).1 v (by simp)
      clear hfv
      obtain ⟨R, hR⟩ : ∃ R, Jn.appendD s o v = R := ⟨_, rfl⟩
      have HA := Lib.hid hR
      clear hR
      obtain ⟨xa, xb, xe⟩ := R
      obtain ⟨R, hR⟩ : ∃ R, Jn.syncD s o = R := ⟨_, rfl⟩
      have HS := Lib.hid hR
      clear hR
      obtain ⟨ya, yb, ye⟩ := R
      obtain ⟨lxa, hlxa⟩ : ∃ k, xa.length = k := ⟨_, rfl⟩
      have Hxa := Lib.hid hlxa
      clear hlxa
      obtain ⟨lxb, hlxb⟩ : ∃ k, xb.length = k := ⟨_, rfl⟩
      have Hxb := Lib.hid hlxb
      clear hlxb
      obtain ⟨lya, hlya⟩ : ∃ k, ya.length = k := ⟨_, rfl⟩
      have Hya := Lib.hid hlya
      clear hlya
      obtain ⟨lyb, hlyb⟩ : ∃ k, yb.length = k := ⟨_, rfl⟩
      have Hyb := Lib.hid hlyb
      clear hlyb
      have c0 := blk_cell (j := 0) b1
      simp only [List.getElem?_toArray, List.getElem?_cons_zero, List.getElem?_cons_succ] at c0
      have c1 := blk_cell (j := 1) b1
      simp only [List.getElem?_toArray, List.getElem?_cons_zero, List.getElem?_cons_succ] at c1
      have e0 := blk_cell (j := 0) b3
      simp only [List.getElem?_toArray, List.getElem?_cons_zero, List.getElem?_cons_succ] at e0
      have e1 := blk_cell (j := 1) b3
      simp only [List.getElem?_toArray, List.getElem?_cons_zero, List.getElem?_cons_succ] at e1
      have e2 := blk_cell (j := 2) b3
      simp only [List.getElem?_toArray, List.getElem?_cons_zero, List.getElem?_cons_succ] at e2
      have e3 := blk_cell (j := 3) b3
      simp only [List.getElem?_toArray, List.getElem?_cons_zero, List.getElem?_cons_succ] at e3
      go_wp2_with fail
      clear c0 c1 e0 e1 e2 e3
      refine (jAppend_any A n c s B m d o v E ce w5 h h' hn hm hv hv1 hv2).mono ?_
      rintro e w6 ⟨v1, v2, rfl, o1, o2, hb⟩
      rw [HA.out] at o1 o2 ⊢
      dsimp only at o1 o2 ⊢
      obtain ⟨A1, c1, rfl, q1⟩ := own_rdB o1
      obtain ⟨B1, d1, rfl, t1⟩ := own_rdB o2
      clear o1 o2
      replace h := (h.below hb).more hb.size
      replace h' := (h'.below hb).more hb.size
      replace hv := (hv.below hb).more hb.size
      replace b1 := blk_below b1 hb
      replace b3 := blk_below b3 hb
      replace b4 := blk_below b4 hb
      replace hbt := hbt.trans (hb.mono hbt.size)
      clear hb
      have k11 := q1.max
      have k21 := q1.le
      have k31 := t1.max
      have k41 := t1.le
      rw [Hxa.out] at q1 k21 ⊢
      rw [Hxb.out] at t1 k41 ⊢
      obtain ⟨V6, hV⟩ : ∃ V6, V6 = w6.alloc (.cells #[.slice A1 lxa c1, .slice B1 lxb d1] 24) := ⟨_, rfl⟩
      have x1 := blk_new hV
      have hb := below_new hV
      replace h := (h.below hb).more hb.size
      replace h' := (h'.below hb).more hb.size
      replace hv := (hv.below hb).more hb.size
      replace b1 := blk_below b1 hb
      replace b3 := blk_below b3 hb
      replace b4 := blk_below b4 hb
      replace q1 := (q1.below hb).more hb.size
      replace t1 := (t1.below hb).more hb.size
      replace hbt := hbt.trans (hb.mono hbt.size)
      clear hb
      have HSV6 : Hid (V6.heap.size = w6.heap.size + 1) := by show V6.heap.size = _; rw [hV, World.size_alloc]
      have HVV6 := Lib.hid hV.symm
      clear hV
      have c0 := blk_cell (j := 0) b1
      simp only [List.getElem?_toArray, List.getElem?_cons_zero, List.getElem?_cons_succ] at c0
      have c1 := blk_cell (j := 1) b1
      simp only [List.getElem?_toArray, List.getElem?_cons_zero, List.getElem?_cons_succ] at c1
      have e0 := blk_cell (j := 0) b3
      simp only [List.getElem?_toArray, List.getElem?_cons_zero, List.getElem?_cons_succ] at e0
      have e1 := blk_cell (j := 1) b3
      simp only [List.getElem?_toArray, List.getElem?_cons_zero, List.getElem?_cons_succ] at e1
      have e2 := blk_cell (j := 2) b3
      simp only [List.getElem?_toArray, List.getElem?_cons_zero, List.getElem?_cons_succ] at e2
      have e3 := blk_cell (j := 3) b3
      simp only [List.getElem?_toArray, List.getElem?_cons_zero, List.getElem?_cons_succ] at e3
      rw [← HVV6.out] at c0 c1 e0 e1 e2 e3
      go_wp2_with fail
      rw [HVV6.out]
      clear HVV6 HSV6 c0 c1 e0 e1 e2 e3
      refine (rAppend_any A n c s B m d o v E ce V6 h h' hn hm hv hv1 hv2).mono ?_
      rintro e w7 ⟨v1, v2, rfl, o1, o2, hb⟩
      rw [HA.out] at o1 o2 ⊢
      dsimp only at o1 o2 ⊢
      obtain ⟨A2, c2, rfl, q2⟩ := own_rdB o1
      obtain ⟨B2, d2, rfl, t2⟩ := own_rdB o2
      clear o1 o2
      replace h := (h.below hb).more hb.size
      replace h' := (h'.below hb).more hb.size
      replace hv := (hv.below hb).more hb.size
      replace b1 := blk_below b1 hb
      replace b3 := blk_below b3 hb
      replace b4 := blk_below b4 hb
      replace q1 := (q1.below hb).more hb.size
      replace t1 := (t1.below hb).more hb.size
      replace x1 := blk_below x1 hb
      replace hbt := hbt.trans (hb.mono hbt.size)
      clear hb
      have k12 := q2.max
      have k22 := q2.le
      have k32 := t2.max
      have k42 := t2.le
      rw [Hxa.out] at q2 k22 ⊢
      rw [Hxb.out] at t2 k42 ⊢
      obtain ⟨V7, hV⟩ : ∃ V7, V7 = w7.alloc (.cells #[.slice A2 lxa c2, .slice B2 lxb d2] 24) := ⟨_, rfl⟩
      have x2 := blk_new hV
      have hb := below_new hV
      replace h := (h.below hb).more hb.size
      replace h' := (h'.below hb).more hb.size
      replace hv := (hv.below hb).more hb.size
      replace b1 := blk_below b1 hb
      replace b3 := blk_below b3 hb
      replace b4 := blk_below b4 hb
      replace q1 := (q1.below hb).more hb.size
      replace t1 := (t1.below hb).more hb.size
      replace x1 := blk_below x1 hb
      replace q2 := (q2.below hb).more hb.size
      replace t2 := (t2.below hb).more hb.size
      replace hbt := hbt.trans (hb.mono hbt.size)
      clear hb
      have HSV7 : Hid (V7.heap.size = w7.heap.size + 1) := by show V7.heap.size = _; rw [hV, World.size_alloc]
      have HVV7 := Lib.hid hV.symm
      clear hV
      have c0 := blk_cell (j := 0) b1
      simp only [List.getElem?_toArray, List.getElem?_cons_zero, List.getElem?_cons_succ] at c0
      have c1 := blk_cell (j := 1) b1
      simp only [List.getElem?_toArray, List.getElem?_cons_zero, List.getElem?_cons_succ] at c1
      rw [← HVV7.out] at c0 c1
      go_wp2_with fail
      rw [HVV7.out]
      clear HVV7 HSV7 c0 c1
      refine (jSync_any A n c s B m d o V7 h h' hn hm).mono ?_
      rintro e w8 ⟨v1, v2, rfl, o1, o2, hb⟩
      rw [HS.out] at o1 o2 ⊢
      dsimp only at o1 o2 ⊢
      obtain ⟨A3, c3, rfl, q3⟩ := own_rdB o1
      obtain ⟨B3, d3, rfl, t3⟩ := own_rdB o2
      clear o1 o2
      replace h := (h.below hb).more hb.size
      replace h' := (h'.below hb).more hb.size
      replace hv := (hv.below hb).more hb.size
      replace b1 := blk_below b1 hb
      replace b3 := blk_below b3 hb
      replace b4 := blk_below b4 hb
      replace q1 := (q1.below hb).more hb.size
      replace t1 := (t1.below hb).more hb.size
      replace x1 := blk_below x1 hb
      replace q2 := (q2.below hb).more hb.size
      replace t2 := (t2.below hb).more hb.size
      replace x2 := blk_below x2 hb
      replace hbt := hbt.trans (hb.mono hbt.size)
      clear hb
      have k13 := q3.max
      have k23 := q3.le
      have k33 := t3.max
      have k43 := t3.le
      rw [Hya.out] at q3 k23 ⊢
      rw [Hyb.out] at t3 k43 ⊢
      obtain ⟨V8, hV⟩ : ∃ V8, V8 = w8.alloc (.cells #[.slice A3 lya c3, .slice B3 lyb d3] 24) := ⟨_, rfl⟩
      have x3 := blk_new hV
      have hb := below_new hV
      replace h := (h.below hb).more hb.size
      replace h' := (h'.below hb).more hb.size
      replace hv := (hv.below hb).more hb.size
      replace b1 := blk_below b1 hb
      replace b3 := blk_below b3 hb
      replace b4 := blk_below b4 hb
      replace q1 := (q1.below hb).more hb.size
      replace t1 := (t1.below hb).more hb.size
      replace x1 := blk_below x1 hb
      replace q2 := (q2.below hb).more hb.size
      replace t2 := (t2.below hb).more hb.size
      replace x2 := blk_below x2 hb
      replace q3 := (q3.below hb).more hb.size
      replace t3 := (t3.below hb).more hb.size
      replace hbt := hbt.trans (hb.mono hbt.size)
      clear hb
      have HSV8 : Hid (V8.heap.size = w8.heap.size + 1) := by show V8.heap.size = _; rw [hV, World.size_alloc]
      have HVV8 := Lib.hid hV.symm
      clear hV
      have c0 := blk_cell (j := 0) b1
      simp only [List.getElem?_toArray, List.getElem?_cons_zero, List.getElem?_cons_succ] at c0
      have c1 := blk_cell (j := 1) b1
      simp only [List.getElem?_toArray, List.getElem?_cons_zero, List.getElem?_cons_succ] at c1
      rw [← HVV8.out] at c0 c1
      go_wp2_with fail
      rw [HVV8.out]
      clear HVV8 HSV8 c0 c1
      refine (rSync_any A n c s B m d o V8 h h' hn hm).mono ?_
      rintro e w9 ⟨v1, v2, rfl, o1, o2, hb⟩
      rw [HS.out] at o1 o2 ⊢
      dsimp only at o1 o2 ⊢
      obtain ⟨A4, c4, rfl, q4⟩ := own_rdB o1
      obtain ⟨B4, d4, rfl, t4⟩ := own_rdB o2
      clear o1 o2
      replace h := (h.below hb).more hb.size
      replace h' := (h'.below hb).more hb.size
      replace hv := (hv.below hb).more hb.size
      replace b1 := blk_below b1 hb
      replace b3 := blk_below b3 hb
      replace b4 := blk_below b4 hb
      replace q1 := (q1.below hb).more hb.size
      replace t1 := (t1.below hb).more hb.size
      replace x1 := blk_below x1 hb
      replace q2 := (q2.below hb).more hb.size
      replace t2 := (t2.below hb).more hb.size
      replace x2 := blk_below x2 hb
      replace q3 := (q3.below hb).more hb.size
      replace t3 := (t3.below hb).more hb.size
      replace x3 := blk_below x3 hb
      replace hbt := hbt.trans (hb.mono hbt.size)
      clear hb
      have k14 := q4.max
      have k24 := q4.le
      have k34 := t4.max
      have k44 := t4.le
      rw [Hya.out] at q4 k24 ⊢
      rw [Hyb.out] at t4 k44 ⊢
      obtain ⟨V9, hV⟩ : ∃ V9, V9 = w9.alloc (.cells #[.slice A4 lya c4, .slice B4 lyb d4] 24) := ⟨_, rfl⟩
      have x4 := blk_new hV
      have hb := below_new hV
      replace h := (h.below hb).more hb.size
      replace h' := (h'.below hb).more hb.size
      replace hv := (hv.below hb).more hb.size
      replace b1 := blk_below b1 hb
      replace b3 := blk_below b3 hb
      replace b4 := blk_below b4 hb
      replace q1 := (q1.below hb).more hb.size
      replace t1 := (t1.below hb).more hb.size
      replace x1 := blk_below x1 hb
      replace q2 := (q2.below hb).more hb.size
      replace t2 := (t2.below hb).more hb.size
      replace x2 := blk_below x2 hb
      replace q3 := (q3.below hb).more hb.size
      replace t3 := (t3.below hb).more hb.size
      replace x3 := blk_below x3 hb
      replace q4 := (q4.below hb).more hb.size
      replace t4 := (t4.below hb).more hb.size
      replace hbt := hbt.trans (hb.mono hbt.size)
      clear hb
      have HSV9 : Hid (V9.heap.size = w9.heap.size + 1) := by show V9.heap.size = _; rw [hV, World.size_alloc]
      have HVV9 := Lib.hid hV.symm
      clear hV
      have c0 := blk_cell (j := 0) x1
      simp only [List.getElem?_toArray, List.getElem?_cons_zero, List.getElem?_cons_succ] at c0
      have c1 := blk_cell (j := 1) x1
      simp only [List.getElem?_toArray, List.getElem?_cons_zero, List.getElem?_cons_succ] at c1
      have e0 := blk_cell (j := 0) x2
      simp only [List.getElem?_toArray, List.getElem?_cons_zero, List.getElem?_cons_succ] at e0
      have e1 := blk_cell (j := 1) x2
      simp only [List.getElem?_toArray, List.getElem?_cons_zero, List.getElem?_cons_succ] at e1
      have f0 := blk_cell (j := 0) x3
      simp only [List.getElem?_toArray, List.getElem?_cons_zero, List.getElem?_cons_succ] at f0
      have f1 := blk_cell (j := 1) x3
      simp only [List.getElem?_toArray, List.getElem?_cons_zero, List.getElem?_cons_succ] at f1
      have g0 := blk_cell (j := 0) x4
      simp only [List.getElem?_toArray, List.getElem?_cons_zero, List.getElem?_cons_succ] at g0
      have g1 := blk_cell (j := 1) x4
      simp only [List.getElem?_toArray, List.getElem?_cons_zero, List.getElem?_cons_succ] at g1
      rw [← HVV9.out] at c0 c1 e0 e1 f0 f1 g0 g1
      go_wp2_with fail
      rw [HVV9.out] at c0 c1 e0 e1 f0 f1 g0 g1 ⊢
      clear HVV9 HSV9 c0 c1 e0 e1 f0 f1 g0 g1
      refine (rSame_any A1 lxa c1 xa B1 lxb d1 xb A2 lxa c2 xa B2 lxb d2 xb V9 q1 t1 q2 t2).mono ?_
      rintro e w10 ⟨b, rfl, hiff, hb⟩
      obtain rfl : b = true := hiff.2 ⟨rfl, rfl⟩
      clear hiff
      replace h := (h.below hb).more hb.size
      replace h' := (h'.below hb).more hb.size
      replace hv := (hv.below hb).more hb.size
      replace b1 := blk_below b1 hb
      replace b3 := blk_below b3 hb
      replace b4 := blk_below b4 hb
      replace q1 := (q1.below hb).more hb.size
      replace t1 := (t1.below hb).more hb.size
      replace x1 := blk_below x1 hb
      replace q2 := (q2.below hb).more hb.size
      replace t2 := (t2.below hb).more hb.size
      replace x2 := blk_below x2 hb
      replace q3 := (q3.below hb).more hb.size
      replace t3 := (t3.below hb).more hb.size
      replace x3 := blk_below x3 hb
      replace q4 := (q4.below hb).more hb.size
      replace t4 := (t4.below hb).more hb.size
      replace x4 := blk_below x4 hb
      replace hbt := hbt.trans (hb.mono hbt.size)
      clear hb
      have f0 := blk_cell (j := 0) x3
      simp only [List.getElem?_toArray, List.getElem?_cons_zero, List.getElem?_cons_succ] at f0
      have f1 := blk_cell (j := 1) x3
      simp only [List.getElem?_toArray, List.getElem?_cons_zero, List.getElem?_cons_succ] at f1
      have g0 := blk_cell (j := 0) x4
      simp only [List.getElem?_toArray, List.getElem?_cons_zero, List.getElem?_cons_succ] at g0
      have g1 := blk_cell (j := 1) x4
      simp only [List.getElem?_toArray, List.getElem?_cons_zero, List.getElem?_cons_succ] at g1
      go_wp2_with fail
      clear f0 f1 g0 g1
      refine (rSame_any A3 lya c3 ya B3 lyb d3 yb A4 lya c4 ya B4 lyb d4 yb w10 q3 t3 q4 t4).mono ?_
      rintro e w11 ⟨b, rfl, hiff, hb⟩
      obtain rfl : b = true := hiff.2 ⟨rfl, rfl⟩
      clear hiff
      replace h := (h.below hb).more hb.size
      replace h' := (h'.below hb).more hb.size
      replace hv := (hv.below hb).more hb.size
      replace b1 := blk_below b1 hb
      replace b3 := blk_below b3 hb
      replace b4 := blk_below b4 hb
      replace q1 := (q1.below hb).more hb.size
      replace t1 := (t1.below hb).more hb.size
      replace x1 := blk_below x1 hb
      replace q2 := (q2.below hb).more hb.size
      replace t2 := (t2.below hb).more hb.size
      replace x2 := blk_below x2 hb
      replace q3 := (q3.below hb).more hb.size
      replace t3 := (t3.below hb).more hb.size
      replace x3 := blk_below x3 hb
      replace q4 := (q4.below hb).more hb.size
      replace t4 := (t4.below hb).more hb.size
      replace x4 := blk_below x4 hb
      replace hbt := hbt.trans (hb.mono hbt.size)
      clear hb
      go_wp2_with fail
      go_ret
      exact ⟨ret_bool rfl, hbt⟩
end Go.Proofs.Ytfacdoemgalodaa
