/-
  The walks of the journal's Append and of the reference's.
-/
import Derived.Test.YtfacdoemgalodaaOpsW
namespace Go.Proofs.Ytfacdoemgalodaa
open Go.RowKit
set_option linter.unusedVariables false
set_option linter.unusedSimpArgs false

set_option maxRecDepth 100000 in
set_option maxHeartbeats 4000000 in
theorem jAppend_any (A : Option Addr) (n c : Nat) (s : List UInt8) (B : Option Addr) (m d : Nat) (o : List UInt8) (v : Ver) (E : Option Addr) (ce : Nat) (w : World) (h : RdB w w.heap.size A n c s) (h' : RdB w w.heap.size B m d o) (hn : n ≤ 140737488355328) (hm : m ≤ 140737488355328) (hv : RdP w w.heap.size E v.week.length ce v.week) (hv1 : okI v.no) (hv2 : okI v.cost) :
    Calls Try.prog 21 #[.agg #[.slice A n c, .slice B m d], .agg #[.int .i64 v.no, .slice E v.week.length ce, .int .i64 v.cost, .bool v.best]] w (DPost (Jn.appendD s o v) w) := by
  have h1 := h.max
  have h2 := h.le
  have h3 := h'.max
  have h4 := h'.le
  obtain ⟨R, hR⟩ : ∃ R, R = Jn.appendD s o v := ⟨_, rfl⟩
  rw [← hR]
  have HR := Lib.hid hR
  clear hR
  have hbt := Below.refl w.heap.size w
  have hsl := Lib.hid h.len
  have hol := Lib.hid h'.len
  have hvm := hv.max
  have hvl := hv.le
  obtain ⟨V1, hV⟩ : ∃ V1, V1 = w.alloc (.cells #[.slice A n c, .slice B m d] 24) := ⟨_, rfl⟩
  have b1 := blk_new hV
  have hb := below_new hV
  replace h := (h.below hb).more hb.size
  replace h' := (h'.below hb).more hb.size
  replace hv := (hv.below hb).more hb.size
  replace hbt := hbt.trans (hb.mono hbt.size)
  clear hb
  have HSV1 : Hid (V1.heap.size = w.heap.size + 1) := by show V1.heap.size = _; rw [hV, World.size_alloc]
  have HVV1 := Lib.hid hV.symm
  clear hV
  obtain ⟨V2, hV⟩ : ∃ V2, V2 = V1.alloc (.cells #[.int .i64 v.no, .slice E v.week.length ce, .int .i64 v.cost, .bool v.best] 42) := ⟨_, rfl⟩
  have b3 := blk_new hV
  have hb := below_new hV
  replace h := (h.below hb).more hb.size
  replace h' := (h'.below hb).more hb.size
  replace hv := (hv.below hb).more hb.size
  replace b1 := blk_below b1 hb
  replace hbt := hbt.trans (hb.mono hbt.size)
  clear hb
  have HSV2 : Hid (V2.heap.size = V1.heap.size + 1) := by show V2.heap.size = _; rw [hV, World.size_alloc]
  have HVV2 := Lib.hid hV.symm
  clear hV
  obtain ⟨V3, hV⟩ : ∃ V3, V3 = V2.alloc (.cells #[.slice none 0 0, .slice none 0 0] 24) := ⟨_, rfl⟩
  have b2 := blk_new hV
  have hb := below_new hV
  replace h := (h.below hb).more hb.size
  replace h' := (h'.below hb).more hb.size
  replace hv := (hv.below hb).more hb.size
  replace b1 := blk_below b1 hb
  replace b3 := blk_below b3 hb
  replace hbt := hbt.trans (hb.mono hbt.size)
  clear hb
  have HSV3 : Hid (V3.heap.size = V2.heap.size + 1) := by show V3.heap.size = _; rw [hV, World.size_alloc]
  have HVV3 := Lib.hid hV.symm
  clear hV
  rw [HSV1.out] at b3
  rw [HSV2.out, HSV1.out] at b2
  rw [← HVV2.out, ← HVV1.out] at HVV3
  go_enter Try.func21, Try.ntmps21
  have c0 := blk_cell (j := 0) b1
  simp only [List.getElem?_toArray, List.getElem?_cons_zero, List.getElem?_cons_succ] at c0
  have cf0 := blk_frozen 0 b1
  have c1 := blk_cell (j := 1) b1
  simp only [List.getElem?_toArray, List.getElem?_cons_zero, List.getElem?_cons_succ] at c1
  have cf1 := blk_frozen 1 b1
  rw [← HVV3.out] at c0 c1
  go_wp2_with fail
  rw [HVV3.out] at c0 c1 ⊢
  clear HVV3 HVV2 HVV1 c0 c1 cf0 cf1
  refine (jRead_any A n c s B m d o V3 h h' hn hm).mono ?_
  rintro e w3 ⟨u1, u2, rfl, o1, o2, hb⟩
  obtain ⟨A1, c1, rfl, q1⟩ := o1.rd
  obtain ⟨A2, c2, rfl, q2⟩ := o2.rd
  have m1 := q1.max
  have m2 := q1.le
  have m3 := q2.max
  have m4 := q2.le
  clear q1 q2 o1 o2
  replace h := (h.below hb).more hb.size
  replace h' := (h'.below hb).more hb.size
  replace hv := (hv.below hb).more hb.size
  replace b1 := blk_below b1 hb
  replace b3 := blk_below b3 hb
  replace b2 := blk_below b2 hb
  replace hbt := hbt.trans (hb.mono hbt.size)
  clear hb
  have hrl := Jn.readD_len (s := s) (o := o)
  by_cases he : (Jn.readD s o).2.2 ≠ 0
  · have HZ : Hid (R = ([], [], (Jn.readD s o).2.2)) := by show R = _; rw [HR.out]; unfold Jn.appendD; rw [if_pos he]
    generalize (Jn.readD s o).2.2 = er at *
    have dE : (er != 0) = true := by simp; omega
    have c0 := blk_cell (j := 0) b2
    simp only [List.getElem?_toArray, List.getElem?_cons_zero, List.getElem?_cons_succ] at c0
    have cf0 := blk_frozen 0 b2
    have c1 := blk_cell (j := 1) b2
    simp only [List.getElem?_toArray, List.getElem?_cons_zero, List.getElem?_cons_succ] at c1
    have cf1 := blk_frozen 1 b2
    go_wp2_with fail
    have x2 := blk_set (k := 1) (.slice none 0 0) (blk_set (k := 0) (.slice none 0 0) b2)
    simp only [List.setIfInBounds_toArray, List.set_cons_zero, List.set_cons_succ] at x2
    refine bodyPost_ret (results_cell_row2 rfl _ _ (w.heap.size + 1 + 1) 24 #[.slice none 0 0, .slice none 0 0] (0, 0) _ rfl x2 Try.underlying24 rfl infoDisk) rfl ?_
    exact dpost_err HZ.out ((hbt.setCell (p := ⟨w.heap.size + 1 + 1, 0, none⟩) (by simp; omega) _).setCell (p := ⟨w.heap.size + 1 + 1, 1, none⟩) (by simp; omega) _)
  · have he0 : (Jn.readD s o).2.2 = 0 := by omega
    have hsm := Jn.readD_small he0
    rw [hsl.out, hol.out] at hsm
    rw [he0]
    have HQ : Hid (R = if ¬ (Jn.may v = true ∧ v.no = (((Jn.readD s o).1.length + (Jn.readD s o).2.1.length + 1 : Nat) : Int)) then ([], [], 1) else if 1048576 < n + (m + (8 + (Jn.recB v).length)) then ([], [], 2) else (s, o ++ frameB (Jn.recB v), 0)) := by show R = _; rw [HR.out, ← hsl.out, ← hol.out]; unfold Jn.appendD; rw [if_neg he]
    clear he he0 HR
    have HM : Hid (Jn.may v = Jn.mayB v.no v.cost v.week.length) := rfl
    generalize (Jn.readD s o).1.length = k1 at *
    generalize (Jn.readD s o).2.1.length = k2 at *
    have d0 := blk_cell (j := 0) b3
    simp only [List.getElem?_toArray, List.getElem?_cons_zero, List.getElem?_cons_succ] at d0
    have df0 := blk_frozen 0 b3
    have d1 := blk_cell (j := 1) b3
    simp only [List.getElem?_toArray, List.getElem?_cons_zero, List.getElem?_cons_succ] at d1
    have df1 := blk_frozen 1 b3
    have d2 := blk_cell (j := 2) b3
    simp only [List.getElem?_toArray, List.getElem?_cons_zero, List.getElem?_cons_succ] at d2
    have df2 := blk_frozen 2 b3
    have d3 := blk_cell (j := 3) b3
    simp only [List.getElem?_toArray, List.getElem?_cons_zero, List.getElem?_cons_succ] at d3
    have df3 := blk_frozen 3 b3
    go_wp2_with fail
    refine (jmay_any v.no v.cost E v.week.length ce v.best w3).mono ?_
    rintro e w4 ⟨rfl, hb⟩
    clear d0 d1 d2 d3 df0 df1 df2 df3
    replace h := (h.below hb).more hb.size
    replace h' := (h'.below hb).more hb.size
    replace hv := (hv.below hb).more hb.size
    replace b1 := blk_below b1 hb
    replace b3 := blk_below b3 hb
    replace b2 := blk_below b2 hb
    replace hbt := hbt.trans (hb.mono hbt.size)
    clear hb
    by_cases hmay : Jn.may v = true
    · have hmt : Jn.mayB v.no v.cost v.week.length = true := by rw [← HM.out]; exact hmay
      rw [hmt]
      have hmm := Jn.mayB_iff.1 hmt
      clear hmt
      have d0 := blk_cell (j := 0) b3
      simp only [List.getElem?_toArray, List.getElem?_cons_zero, List.getElem?_cons_succ] at d0
      have df0 := blk_frozen 0 b3
      have d1 := blk_cell (j := 1) b3
      simp only [List.getElem?_toArray, List.getElem?_cons_zero, List.getElem?_cons_succ] at d1
      have df1 := blk_frozen 1 b3
      have d2 := blk_cell (j := 2) b3
      simp only [List.getElem?_toArray, List.getElem?_cons_zero, List.getElem?_cons_succ] at d2
      have df2 := blk_frozen 2 b3
      have d3 := blk_cell (j := 3) b3
      simp only [List.getElem?_toArray, List.getElem?_cons_zero, List.getElem?_cons_succ] at d3
      have df3 := blk_frozen 3 b3
      by_cases hno : v.no = ((k1 + k2 + 1 : Nat) : Int)
      · have dN : (v.no != (k1 : Int) + (k2 : Int) + 1) = false := by simp; omega
        have HQ2 : Hid (R = if 1048576 < n + (m + (8 + (Jn.recB v).length)) then ([], [], 2) else (s, o ++ frameB (Jn.recB v), 0)) := by show R = _; rw [HQ.out]; exact if_neg (fun hh => hh ⟨hmay, hno⟩)
        clear HQ hno
        go_wp2_with fail
        clear d0 d1 d2 d3 df0 df1 df2 df3 dN
        refine (jrecord_any v E ce w4 hv hv1 hv2 (by omega)).mono ?_
        rintro e w5 ⟨v5, rfl, o5, hb⟩
        obtain ⟨A5, c5, rfl, q5⟩ := own_rdB o5
        clear o5
        replace h := (h.below hb).more hb.size
        replace h' := (h'.below hb).more hb.size
        replace hv := (hv.below hb).more hb.size
        replace b1 := blk_below b1 hb
        replace b3 := blk_below b3 hb
        replace b2 := blk_below b2 hb
        replace hbt := hbt.trans (hb.mono hbt.size)
        clear hb
        have hrb := Jn.recB_len ⟨hmay, hv.2⟩
        have HFL : Hid ((frameB (Jn.recB v)).length = 8 + (Jn.recB v).length) := frameB_length _
        generalize Jn.recB v = rb at *
        obtain ⟨rl, hrl2⟩ : ∃ rl, rb.length = rl := ⟨_, rfl⟩
        rw [hrl2] at q5 hrb HQ2 HFL ⊢
        have HRL := Lib.hid hrl2
        clear hrl2
        go_wp2_with fail
        refine (frame_any A5 rl c5 rb w5 q5).mono ?_
        rintro e w6 (⟨hbig, _⟩ | ⟨_, v6, rfl, o6, hb⟩)
        · rw [HRL.out] at hbig; omega
        rw [HRL.out] at o6
        obtain ⟨A6, c6, rfl, q6⟩ := own_rdB o6
        have m5 := q6.max
        have m6 := q6.le
        clear o6
        clear q5
        replace h := (h.below hb).more hb.size
        replace h' := (h'.below hb).more hb.size
        replace hv := (hv.below hb).more hb.size
        replace b1 := blk_below b1 hb
        replace b3 := blk_below b3 hb
        replace b2 := blk_below b2 hb
        replace hbt := hbt.trans (hb.mono hbt.size)
        clear hb
        generalize frameB rb = fb at *
        go_wp2_with fail
        refine wp_region_tree 10 (.three [0, 1, 3, 4, 5] 2 (.two [] 6 (.two [] 7 (.one [8] 9 (.sto [])) 9 (.one [] 7 (.sto [8]))) 9 (.one [] 6 (.one [] 7 (.sto [8])))) 6 (.two [] 2 (.two [] 7 (.one [8] 9 (.sto [])) 9 (.one [] 7 (.sto [8]))) 9 (.one [] 2 (.one [] 7 (.sto [8])))) 9 (.two [] 2 (.one [] 6 (.one [] 7 (.sto [8]))) 6 (.one [] 2 (.one [] 7 (.sto [8]))))) [([], some 10)] (by kernel_rfl) (by kernel_rfl) ?_
        intro wd hsz hb
        clear hsz
        replace h := (h.below hb).more hb.size
        replace h' := (h'.below hb).more hb.size
        replace hv := (hv.below hb).more hb.size
        replace b1 := blk_below b1 hb
        replace b3 := blk_below b3 hb
        replace b2 := blk_below b2 hb
        replace q6 := (q6.below hb).more hb.size
        replace hbt := hbt.trans (hb.mono hbt.size)
        clear hb
        have c0 : ∀ x : Ext wd.heap.size wd, x.val.cell? ⟨w.heap.size, 0, none⟩ = some (.slice A n c) := fun x => (x.cell (blk_lt b1)).trans (blk_cell b1)
        have c1 : ∀ x : Ext wd.heap.size wd, x.val.cell? ⟨w.heap.size, 1, none⟩ = some (.slice B m d) := fun x => (x.cell (blk_lt b1)).trans (blk_cell b1)
        refine tree_three ?_
        simp only [pick, List.map_cons, List.map_nil, Option.map_some, Option.map_none, List.getD_cons_zero, List.getD_cons_succ]
        (repeat (go_big_quiet_step (fail)))
        refine quiet_end ?_
        clear c0 c1
        refine ⟨?_, ?_, ?_⟩
        · refine plan_call (by kernel_rfl) (fun K hK => ?_)
          go_simp
          refine (cloneB_any A n c s _ h (by omega)).mono ?_
          rintro e w7 ⟨v7, rfl, o7, hb⟩
          replace o7 := own_mono o7 hbt.size
          obtain ⟨A7, c7, rfl, _⟩ := own_rdB o7
          refine hK.out _ _ hb ?_
          clear hK K
          (try simp only [Act.put, List.setIfInBounds_toArray, List.set_cons_zero, List.set_cons_succ])
          replace h := (h.below hb).more hb.size
          replace h' := (h'.below hb).more hb.size
          replace hv := (hv.below hb).more hb.size
          replace b1 := blk_below b1 hb
          replace b3 := blk_below b3 hb
          replace b2 := blk_below b2 hb
          replace q6 := (q6.below hb).more hb.size
          replace hbt := hbt.trans (hb.mono hbt.size)
          clear hb
          have c0 : ∀ x : Ext w7.heap.size w7, x.val.cell? ⟨w.heap.size, 0, none⟩ = some (.slice A n c) := fun x => (x.cell (blk_lt b1)).trans (blk_cell b1)
          have c1 : ∀ x : Ext w7.heap.size w7, x.val.cell? ⟨w.heap.size, 1, none⟩ = some (.slice B m d) := fun x => (x.cell (blk_lt b1)).trans (blk_cell b1)
          refine tree_two ?_
          simp only [pick, List.map_cons, List.map_nil, Option.map_some, Option.map_none, List.getD_cons_zero, List.getD_cons_succ]
          (repeat (go_big_quiet_step (fail)))
          refine quiet_end ?_
          clear c0 c1
          refine ⟨?_, ?_⟩
          · refine plan_call (by kernel_rfl) (fun K hK => ?_)
            go_simp
            obtain ⟨V8, hV⟩ : ∃ V8, V8 = w7.alloc (.cells #[.slice B m d, .slice A6 (8 + rl) c6] 22) := ⟨_, rfl⟩
            have b8 := blk_new hV
            have hb := below_new hV
            rw [← hV]
            clear hV
            refine hK.out _ _ hb ?_
            clear hK K
            (try simp only [Act.put, List.setIfInBounds_toArray, List.set_cons_zero, List.set_cons_succ])
            replace h := (h.below hb).more hb.size
            replace h' := (h'.below hb).more hb.size
            replace hv := (hv.below hb).more hb.size
            replace b1 := blk_below b1 hb
            replace b3 := blk_below b3 hb
            replace b2 := blk_below b2 hb
            replace q6 := (q6.below hb).more hb.size
            replace o7 := own_below o7 hb
            replace hbt := hbt.trans (hb.mono hbt.size)
            clear hb
            have c0 : ∀ x : Ext V8.heap.size V8, x.val.cell? ⟨w.heap.size, 0, none⟩ = some (.slice A n c) := fun x => (x.cell (blk_lt b1)).trans (blk_cell b1)
            have c1 : ∀ x : Ext V8.heap.size V8, x.val.cell? ⟨w.heap.size, 1, none⟩ = some (.slice B m d) := fun x => (x.cell (blk_lt b1)).trans (blk_cell b1)
            refine tree_two ?_
            simp only [pick, List.map_cons, List.map_nil, Option.map_some, Option.map_none, List.getD_cons_zero, List.getD_cons_succ]
            (repeat (go_big_quiet_step (fail)))
            refine quiet_end ?_
            clear c0 c1
            refine ⟨?_, ?_⟩
            · refine plan_call (by kernel_rfl) (fun K hK => ?_)
              go_simp
              refine (concat2_any _ B m d o A6 (8 + rl) c6 fb _ b8 h' q6 (by omega) (by omega)).mono ?_
              rintro e w9 ⟨v9, rfl, o9, hb⟩
              replace o9 := own_mono o9 hbt.size
              obtain ⟨A9, c9, rfl, _⟩ := own_rdB o9
              refine hK.out _ _ hb ?_
              clear hK K
              (try simp only [Act.put, List.setIfInBounds_toArray, List.set_cons_zero, List.set_cons_succ])
              replace h := (h.below hb).more hb.size
              replace h' := (h'.below hb).more hb.size
              replace hv := (hv.below hb).more hb.size
              replace b1 := blk_below b1 hb
              replace b3 := blk_below b3 hb
              replace b2 := blk_below b2 hb
              replace q6 := (q6.below hb).more hb.size
              replace o7 := own_below o7 hb
              replace b8 := blk_below b8 hb
              replace hbt := hbt.trans (hb.mono hbt.size)
              clear hb
              have c0 : ∀ x : Ext w9.heap.size w9, x.val.cell? ⟨w.heap.size, 0, none⟩ = some (.slice A n c) := fun x => (x.cell (blk_lt b1)).trans (blk_cell b1)
              have c1 : ∀ x : Ext w9.heap.size w9, x.val.cell? ⟨w.heap.size, 1, none⟩ = some (.slice B m d) := fun x => (x.cell (blk_lt b1)).trans (blk_cell b1)
              refine tree_one ?_
              simp only [pick, List.map_cons, List.map_nil, Option.map_some, Option.map_none, List.getD_cons_zero, List.getD_cons_succ]
              (repeat (go_big_quiet_step (fail)))
              refine quiet_end ?_
              clear c0 c1
              refine plan_call (by kernel_rfl) (fun K hK => ?_)
              go_simp
              obtain ⟨V10, hV⟩ : ∃ V10, V10 = w9.alloc (.cells #[.slice none 0 0, .slice none 0 0] 24) := ⟨_, rfl⟩
              have b10 := blk_new hV
              have hb := below_new hV
              rw [← hV]
              clear hV
              obtain ⟨i10, hi10⟩ : ∃ i, i = w9.heap.size := ⟨_, rfl⟩
              have hi : w.heap.size ≤ i10 ∧ w.heap.size + 1 + 1 < i10 := by rw [hi10]; have h7 := blk_lt b2; omega
              rw [← hi10] at b10 ⊢
              clear hi10
              refine hK.out _ _ hb ?_
              clear hK K
              (try simp only [Act.put, List.setIfInBounds_toArray, List.set_cons_zero, List.set_cons_succ])
              replace h := (h.below hb).more hb.size
              replace h' := (h'.below hb).more hb.size
              replace hv := (hv.below hb).more hb.size
              replace b1 := blk_below b1 hb
              replace b3 := blk_below b3 hb
              replace b2 := blk_below b2 hb
              replace q6 := (q6.below hb).more hb.size
              replace o7 := own_below o7 hb
              replace b8 := blk_below b8 hb
              replace o9 := own_below o9 hb
              replace hbt := hbt.trans (hb.mono hbt.size)
              clear hb
              have c0 : ∀ x : Ext V10.heap.size V10, x.val.cell? ⟨w.heap.size, 0, none⟩ = some (.slice A n c) := fun x => (x.cell (blk_lt b1)).trans (blk_cell b1)
              have c1 : ∀ x : Ext V10.heap.size V10, x.val.cell? ⟨w.heap.size, 1, none⟩ = some (.slice B m d) := fun x => (x.cell (blk_lt b1)).trans (blk_cell b1)
              refine tree_sto ?_
              simp only [pick, List.map_cons, List.map_nil, Option.map_some, Option.map_none, List.getD_cons_zero, List.getD_cons_succ]
              (repeat (go_big_quiet_step (fail)))
              refine quiet_end ?_
              clear c0 c1
              have c0 := blk_cell (j := 0) b10
              simp only [List.getElem?_toArray, List.getElem?_cons_zero, List.getElem?_cons_succ] at c0
              have cf0 := blk_frozen 0 b10
              have c1 := blk_cell (j := 1) b10
              simp only [List.getElem?_toArray, List.getElem?_cons_zero, List.getElem?_cons_succ] at c1
              have cf1 := blk_frozen 1 b10
              refine late_cons ?_
              (repeat (go_big_quiet_step (fail)))
              refine late_nil ?_
              refine late_call (by kernel_rfl) (fun K hK => ?_)
              go_simp
              refine hK.out _ _ ?_
              clear hK K
              (try simp only [Act.put, List.setIfInBounds_toArray, List.set_cons_zero, List.set_cons_succ])
              clear c0 c1 cf0 cf1
              have y10 := blk_set (k := 1) (.slice A9 (m + (8 + rl)) c9) (blk_set (k := 0) (.slice A7 n c7) b10)
              simp only [List.setIfInBounds_toArray, List.set_cons_zero, List.set_cons_succ] at y10
              have y2 := blk_other (p := ⟨i10, 1, none⟩) (.slice A9 (m + (8 + rl)) c9) (blk_other (p := ⟨i10, 0, none⟩) (.slice A7 n c7) b2 (by simp; omega)) (by simp; omega)
              have hb7 := own_blk_ne o7 b10 (by decide)
              have hb9 := own_blk_ne o9 b10 (by decide)
              have y7 := own_set (p := ⟨i10, 1, none⟩) (u := .slice A9 (m + (8 + rl)) c9) (own_set (p := ⟨i10, 0, none⟩) (u := .slice A7 n c7) o7 hb7) hb7
              have y9 := own_set (p := ⟨i10, 1, none⟩) (u := .slice A9 (m + (8 + rl)) c9) (own_set (p := ⟨i10, 0, none⟩) (u := .slice A7 n c7) o9 hb9) hb9
              have hbt := (hbt.setCell (p := ⟨i10, 0, none⟩) hi.1 (.slice A7 n c7)).setCell (p := ⟨i10, 1, none⟩) hi.1 (.slice A9 (m + (8 + rl)) c9)
              generalize (V10.setCell ⟨i10, 0, none⟩ (.slice A7 n c7)).setCell ⟨i10, 1, none⟩ (.slice A9 (m + (8 + rl)) c9) = W11 at *
              refine late_end ?_
              clear b10 b2 hb7 hb9 o7 o9
              have b2 := y2
              clear y2
              have c0 := blk_cell (j := 0) y10
              simp only [List.getElem?_toArray, List.getElem?_cons_zero, List.getElem?_cons_succ] at c0
              have cf0 := blk_frozen 0 y10
              have c1 := blk_cell (j := 1) y10
              simp only [List.getElem?_toArray, List.getElem?_cons_zero, List.getElem?_cons_succ] at c1
              have cf1 := blk_frozen 1 y10
              have e0 := blk_cell (j := 0) b2
              simp only [List.getElem?_toArray, List.getElem?_cons_zero, List.getElem?_cons_succ] at e0
              have ef0 := blk_frozen 0 b2
              have e1 := blk_cell (j := 1) b2
              simp only [List.getElem?_toArray, List.getElem?_cons_zero, List.getElem?_cons_succ] at e1
              have ef1 := blk_frozen 1 b2
              by_cases hsz : 1048576 < n + (m + (8 + rl))
              · rw [if_pos hsz] at HQ2
                have HZ := HQ2
                have dS : decide (1048576 < (n : Int) + ((m : Int) + (8 + (rl : Int)))) = true := by simp; omega
                have dS2 : decide (1048576 < n + (m + (8 + rl))) = true := by simp; omega
                go_wp2_with fail
                have x2 := blk_set (k := 1) (.slice none 0 0) (blk_set (k := 0) (.slice none 0 0) b2)
                simp only [List.setIfInBounds_toArray, List.set_cons_zero, List.set_cons_succ] at x2
                refine bodyPost_ret (results_cell_row2 rfl _ _ (w.heap.size + 1 + 1) 24 #[.slice none 0 0, .slice none 0 0] (0, 0) _ rfl x2 Try.underlying24 rfl infoDisk) rfl ?_
                exact dpost_err HZ.out ((hbt.setCell (p := ⟨w.heap.size + 1 + 1, 0, none⟩) (by simp; omega) _).setCell (p := ⟨w.heap.size + 1 + 1, 1, none⟩) (by simp; omega) _)
              · rw [if_neg hsz] at HQ2
                have dS : decide (1048576 < (n : Int) + ((m : Int) + (8 + (rl : Int)))) = false := by simp; omega
                have dS2 : decide (1048576 < n + (m + (8 + rl))) = false := by simp; omega
                go_wp2_with fail
                have x2 := blk_set (k := 1) (.slice A9 (m + (8 + rl)) c9) (blk_set (k := 0) (.slice A7 n c7) b2)
                simp only [List.setIfInBounds_toArray, List.set_cons_zero, List.set_cons_succ] at x2
                refine bodyPost_ret (results_cell_row2 rfl _ _ (w.heap.size + 1 + 1) 24 #[.slice A7 n c7, .slice A9 (m + (8 + rl)) c9] (0, 0) _ rfl x2 Try.underlying24 rfl infoDisk) rfl ?_
                rw [HQ2.out]
                refine ⟨_, _, rfl, ?_, ?_, ((hbt.setCell (p := ⟨w.heap.size + 1 + 1, 0, none⟩) (by simp; omega) _).setCell (p := ⟨w.heap.size + 1 + 1, 1, none⟩) (by simp; omega) _)⟩
                · dsimp only
                  rw [hsl.out]
                  exact own_set (own_set y7 (own_blk_ne y7 b2 (by decide))) (own_blk_ne y7 b2 (by decide))
                · dsimp only
                  rw [List.length_append, hol.out, HFL.out]
                  exact own_set (own_set y9 (own_blk_ne y9 b2 (by decide))) (own_blk_ne y9 b2 (by decide))
            · refine plan_call (by kernel_rfl) (fun K hK => ?_)
              go_simp
              obtain ⟨V10, hV⟩ : ∃ V10, V10 = V8.alloc (.cells #[.slice none 0 0, .slice none 0 0] 24) := ⟨_, rfl⟩
              have b10 := blk_new hV
              have hb := below_new hV
              rw [← hV]
              clear hV
              obtain ⟨i10, hi10⟩ : ∃ i, i = V8.heap.size := ⟨_, rfl⟩
              have hi : w.heap.size ≤ i10 ∧ w.heap.size + 1 + 1 < i10 := by rw [hi10]; have h7 := blk_lt b2; omega
              rw [← hi10] at b10 ⊢
              clear hi10
              refine hK.out _ _ hb ?_
              clear hK K
              (try simp only [Act.put, List.setIfInBounds_toArray, List.set_cons_zero, List.set_cons_succ])
              replace h := (h.below hb).more hb.size
              replace h' := (h'.below hb).more hb.size
              replace hv := (hv.below hb).more hb.size
              replace b1 := blk_below b1 hb
              replace b3 := blk_below b3 hb
              replace b2 := blk_below b2 hb
              replace q6 := (q6.below hb).more hb.size
              replace o7 := own_below o7 hb
              replace b8 := blk_below b8 hb
              replace hbt := hbt.trans (hb.mono hbt.size)
              clear hb
              have c0 : ∀ x : Ext V10.heap.size V10, x.val.cell? ⟨w.heap.size, 0, none⟩ = some (.slice A n c) := fun x => (x.cell (blk_lt b1)).trans (blk_cell b1)
              have c1 : ∀ x : Ext V10.heap.size V10, x.val.cell? ⟨w.heap.size, 1, none⟩ = some (.slice B m d) := fun x => (x.cell (blk_lt b1)).trans (blk_cell b1)
              refine tree_one ?_
              simp only [pick, List.map_cons, List.map_nil, Option.map_some, Option.map_none, List.getD_cons_zero, List.getD_cons_succ]
              (repeat (go_big_quiet_step (fail)))
              refine quiet_end ?_
              clear c0 c1
              refine plan_call (by kernel_rfl) (fun K hK => ?_)
              go_simp
              refine (concat2_any _ B m d o A6 (8 + rl) c6 fb _ b8 h' q6 (by omega) (by omega)).mono ?_
              rintro e w9 ⟨v9, rfl, o9, hb⟩
              replace o9 := own_mono o9 hbt.size
              obtain ⟨A9, c9, rfl, _⟩ := own_rdB o9
              refine hK.out _ _ hb ?_
              clear hK K
              (try simp only [Act.put, List.setIfInBounds_toArray, List.set_cons_zero, List.set_cons_succ])
              replace h := (h.below hb).more hb.size
              replace h' := (h'.below hb).more hb.size
              replace hv := (hv.below hb).more hb.size
              replace b1 := blk_below b1 hb
              replace b3 := blk_below b3 hb
              replace b2 := blk_below b2 hb
              replace q6 := (q6.below hb).more hb.size
              replace o7 := own_below o7 hb
              replace b8 := blk_below b8 hb
              replace b10 := blk_below b10 hb
              replace hbt := hbt.trans (hb.mono hbt.size)
              clear hb
              have c0 : ∀ x : Ext w9.heap.size w9, x.val.cell? ⟨w.heap.size, 0, none⟩ = some (.slice A n c) := fun x => (x.cell (blk_lt b1)).trans (blk_cell b1)
              have c1 : ∀ x : Ext w9.heap.size w9, x.val.cell? ⟨w.heap.size, 1, none⟩ = some (.slice B m d) := fun x => (x.cell (blk_lt b1)).trans (blk_cell b1)
              refine tree_sto ?_
              simp only [pick, List.map_cons, List.map_nil, Option.map_some, Option.map_none, List.getD_cons_zero, List.getD_cons_succ]
              (repeat (go_big_quiet_step (fail)))
              refine quiet_end ?_
              clear c0 c1
              have c0 := blk_cell (j := 0) b10
              simp only [List.getElem?_toArray, List.getElem?_cons_zero, List.getElem?_cons_succ] at c0
              have cf0 := blk_frozen 0 b10
              have c1 := blk_cell (j := 1) b10
              simp only [List.getElem?_toArray, List.getElem?_cons_zero, List.getElem?_cons_succ] at c1
              have cf1 := blk_frozen 1 b10
              refine late_cons ?_
              (repeat (go_big_quiet_step (fail)))
              refine late_nil ?_
              refine late_call (by kernel_rfl) (fun K hK => ?_)
              go_simp
              refine hK.out _ _ ?_
              clear hK K
              (try simp only [Act.put, List.setIfInBounds_toArray, List.set_cons_zero, List.set_cons_succ])
              clear c0 c1 cf0 cf1
              have y10 := blk_set (k := 1) (.slice A9 (m + (8 + rl)) c9) (blk_set (k := 0) (.slice A7 n c7) b10)
              simp only [List.setIfInBounds_toArray, List.set_cons_zero, List.set_cons_succ] at y10
              have y2 := blk_other (p := ⟨i10, 1, none⟩) (.slice A9 (m + (8 + rl)) c9) (blk_other (p := ⟨i10, 0, none⟩) (.slice A7 n c7) b2 (by simp; omega)) (by simp; omega)
              have hb7 := own_blk_ne o7 b10 (by decide)
              have hb9 := own_blk_ne o9 b10 (by decide)
              have y7 := own_set (p := ⟨i10, 1, none⟩) (u := .slice A9 (m + (8 + rl)) c9) (own_set (p := ⟨i10, 0, none⟩) (u := .slice A7 n c7) o7 hb7) hb7
              have y9 := own_set (p := ⟨i10, 1, none⟩) (u := .slice A9 (m + (8 + rl)) c9) (own_set (p := ⟨i10, 0, none⟩) (u := .slice A7 n c7) o9 hb9) hb9
              have hbt := (hbt.setCell (p := ⟨i10, 0, none⟩) hi.1 (.slice A7 n c7)).setCell (p := ⟨i10, 1, none⟩) hi.1 (.slice A9 (m + (8 + rl)) c9)
              generalize (w9.setCell ⟨i10, 0, none⟩ (.slice A7 n c7)).setCell ⟨i10, 1, none⟩ (.slice A9 (m + (8 + rl)) c9) = W11 at *
              refine late_end ?_
              clear b10 b2 hb7 hb9 o7 o9
              have b2 := y2
              clear y2
              have c0 := blk_cell (j := 0) y10
              simp only [List.getElem?_toArray, List.getElem?_cons_zero, List.getElem?_cons_succ] at c0
              have cf0 := blk_frozen 0 y10
              have c1 := blk_cell (j := 1) y10
              simp only [List.getElem?_toArray, List.getElem?_cons_zero, List.getElem?_cons_succ] at c1
              have cf1 := blk_frozen 1 y10
              have e0 := blk_cell (j := 0) b2
              simp only [List.getElem?_toArray, List.getElem?_cons_zero, List.getElem?_cons_succ] at e0
              have ef0 := blk_frozen 0 b2
              have e1 := blk_cell (j := 1) b2
              simp only [List.getElem?_toArray, List.getElem?_cons_zero, List.getElem?_cons_succ] at e1
              have ef1 := blk_frozen 1 b2
              by_cases hsz : 1048576 < n + (m + (8 + rl))
              · rw [if_pos hsz] at HQ2
                have HZ := HQ2
                have dS : decide (1048576 < (n : Int) + ((m : Int) + (8 + (rl : Int)))) = true := by simp; omega
                have dS2 : decide (1048576 < n + (m + (8 + rl))) = true := by simp; omega
                go_wp2_with fail
                have x2 := blk_set (k := 1) (.slice none 0 0) (blk_set (k := 0) (.slice none 0 0) b2)
                simp only [List.setIfInBounds_toArray, List.set_cons_zero, List.set_cons_succ] at x2
                refine bodyPost_ret (results_cell_row2 rfl _ _ (w.heap.size + 1 + 1) 24 #[.slice none 0 0, .slice none 0 0] (0, 0) _ rfl x2 Try.underlying24 rfl infoDisk) rfl ?_
                exact dpost_err HZ.out ((hbt.setCell (p := ⟨w.heap.size + 1 + 1, 0, none⟩) (by simp; omega) _).setCell (p := ⟨w.heap.size + 1 + 1, 1, none⟩) (by simp; omega) _)
              · rw [if_neg hsz] at HQ2
                have dS : decide (1048576 < (n : Int) + ((m : Int) + (8 + (rl : Int)))) = false := by simp; omega
                have dS2 : decide (1048576 < n + (m + (8 + rl))) = false := by simp; omega
                go_wp2_with fail
                have x2 := blk_set (k := 1) (.slice A9 (m + (8 + rl)) c9) (blk_set (k := 0) (.slice A7 n c7) b2)
                simp only [List.setIfInBounds_toArray, List.set_cons_zero, List.set_cons_succ] at x2
                refine bodyPost_ret (results_cell_row2 rfl _ _ (w.heap.size + 1 + 1) 24 #[.slice A7 n c7, .slice A9 (m + (8 + rl)) c9] (0, 0) _ rfl x2 Try.underlying24 rfl infoDisk) rfl ?_
                rw [HQ2.out]
                refine ⟨_, _, rfl, ?_, ?_, ((hbt.setCell (p := ⟨w.heap.size + 1 + 1, 0, none⟩) (by simp; omega) _).setCell (p := ⟨w.heap.size + 1 + 1, 1, none⟩) (by simp; omega) _)⟩
                · dsimp only
                  rw [hsl.out]
                  exact own_set (own_set y7 (own_blk_ne y7 b2 (by decide))) (own_blk_ne y7 b2 (by decide))
                · dsimp only
                  rw [List.length_append, hol.out, HFL.out]
                  exact own_set (own_set y9 (own_blk_ne y9 b2 (by decide))) (own_blk_ne y9 b2 (by decide))
          · refine plan_call (by kernel_rfl) (fun K hK => ?_)
            go_simp
            obtain ⟨V10, hV⟩ : ∃ V10, V10 = w7.alloc (.cells #[.slice none 0 0, .slice none 0 0] 24) := ⟨_, rfl⟩
            have b10 := blk_new hV
            have hb := below_new hV
            rw [← hV]
            clear hV
            obtain ⟨i10, hi10⟩ : ∃ i, i = w7.heap.size := ⟨_, rfl⟩
            have hi : w.heap.size ≤ i10 ∧ w.heap.size + 1 + 1 < i10 := by rw [hi10]; have h7 := blk_lt b2; omega
            rw [← hi10] at b10 ⊢
            clear hi10
            refine hK.out _ _ hb ?_
            clear hK K
            (try simp only [Act.put, List.setIfInBounds_toArray, List.set_cons_zero, List.set_cons_succ])
            replace h := (h.below hb).more hb.size
            replace h' := (h'.below hb).more hb.size
            replace hv := (hv.below hb).more hb.size
            replace b1 := blk_below b1 hb
            replace b3 := blk_below b3 hb
            replace b2 := blk_below b2 hb
            replace q6 := (q6.below hb).more hb.size
            replace o7 := own_below o7 hb
            replace hbt := hbt.trans (hb.mono hbt.size)
            clear hb
            have c0 : ∀ x : Ext V10.heap.size V10, x.val.cell? ⟨w.heap.size, 0, none⟩ = some (.slice A n c) := fun x => (x.cell (blk_lt b1)).trans (blk_cell b1)
            have c1 : ∀ x : Ext V10.heap.size V10, x.val.cell? ⟨w.heap.size, 1, none⟩ = some (.slice B m d) := fun x => (x.cell (blk_lt b1)).trans (blk_cell b1)
            refine tree_one ?_
            simp only [pick, List.map_cons, List.map_nil, Option.map_some, Option.map_none, List.getD_cons_zero, List.getD_cons_succ]
            (repeat (go_big_quiet_step (fail)))
            refine quiet_end ?_
            clear c0 c1
            refine plan_call (by kernel_rfl) (fun K hK => ?_)
            go_simp
            obtain ⟨V8, hV⟩ : ∃ V8, V8 = V10.alloc (.cells #[.slice B m d, .slice A6 (8 + rl) c6] 22) := ⟨_, rfl⟩
            have b8 := blk_new hV
            have hb := below_new hV
            rw [← hV]
            clear hV
            refine hK.out _ _ hb ?_
            clear hK K
            (try simp only [Act.put, List.setIfInBounds_toArray, List.set_cons_zero, List.set_cons_succ])
            replace h := (h.below hb).more hb.size
            replace h' := (h'.below hb).more hb.size
            replace hv := (hv.below hb).more hb.size
            replace b1 := blk_below b1 hb
            replace b3 := blk_below b3 hb
            replace b2 := blk_below b2 hb
            replace q6 := (q6.below hb).more hb.size
            replace o7 := own_below o7 hb
            replace b10 := blk_below b10 hb
            replace hbt := hbt.trans (hb.mono hbt.size)
            clear hb
            have c0 : ∀ x : Ext V8.heap.size V8, x.val.cell? ⟨w.heap.size, 0, none⟩ = some (.slice A n c) := fun x => (x.cell (blk_lt b1)).trans (blk_cell b1)
            have c1 : ∀ x : Ext V8.heap.size V8, x.val.cell? ⟨w.heap.size, 1, none⟩ = some (.slice B m d) := fun x => (x.cell (blk_lt b1)).trans (blk_cell b1)
            refine tree_one ?_
            simp only [pick, List.map_cons, List.map_nil, Option.map_some, Option.map_none, List.getD_cons_zero, List.getD_cons_succ]
            (repeat (go_big_quiet_step (fail)))
            refine quiet_end ?_
            clear c0 c1
            refine plan_call (by kernel_rfl) (fun K hK => ?_)
            go_simp
            refine (concat2_any _ B m d o A6 (8 + rl) c6 fb _ b8 h' q6 (by omega) (by omega)).mono ?_
            rintro e w9 ⟨v9, rfl, o9, hb⟩
            replace o9 := own_mono o9 hbt.size
            obtain ⟨A9, c9, rfl, _⟩ := own_rdB o9
            refine hK.out _ _ hb ?_
            clear hK K
            (try simp only [Act.put, List.setIfInBounds_toArray, List.set_cons_zero, List.set_cons_succ])
            replace h := (h.below hb).more hb.size
            replace h' := (h'.below hb).more hb.size
            replace hv := (hv.below hb).more hb.size
            replace b1 := blk_below b1 hb
            replace b3 := blk_below b3 hb
            replace b2 := blk_below b2 hb
            replace q6 := (q6.below hb).more hb.size
            replace o7 := own_below o7 hb
            replace b10 := blk_below b10 hb
            replace b8 := blk_below b8 hb
            replace hbt := hbt.trans (hb.mono hbt.size)
            clear hb
            have c0 : ∀ x : Ext w9.heap.size w9, x.val.cell? ⟨w.heap.size, 0, none⟩ = some (.slice A n c) := fun x => (x.cell (blk_lt b1)).trans (blk_cell b1)
            have c1 : ∀ x : Ext w9.heap.size w9, x.val.cell? ⟨w.heap.size, 1, none⟩ = some (.slice B m d) := fun x => (x.cell (blk_lt b1)).trans (blk_cell b1)
            refine tree_sto ?_
            simp only [pick, List.map_cons, List.map_nil, Option.map_some, Option.map_none, List.getD_cons_zero, List.getD_cons_succ]
            (repeat (go_big_quiet_step (fail)))
            refine quiet_end ?_
            clear c0 c1
            have c0 := blk_cell (j := 0) b10
            simp only [List.getElem?_toArray, List.getElem?_cons_zero, List.getElem?_cons_succ] at c0
            have cf0 := blk_frozen 0 b10
            have c1 := blk_cell (j := 1) b10
            simp only [List.getElem?_toArray, List.getElem?_cons_zero, List.getElem?_cons_succ] at c1
            have cf1 := blk_frozen 1 b10
            refine late_cons ?_
            (repeat (go_big_quiet_step (fail)))
            refine late_nil ?_
            refine late_call (by kernel_rfl) (fun K hK => ?_)
            go_simp
            refine hK.out _ _ ?_
            clear hK K
            (try simp only [Act.put, List.setIfInBounds_toArray, List.set_cons_zero, List.set_cons_succ])
            clear c0 c1 cf0 cf1
            have y10 := blk_set (k := 1) (.slice A9 (m + (8 + rl)) c9) (blk_set (k := 0) (.slice A7 n c7) b10)
            simp only [List.setIfInBounds_toArray, List.set_cons_zero, List.set_cons_succ] at y10
            have y2 := blk_other (p := ⟨i10, 1, none⟩) (.slice A9 (m + (8 + rl)) c9) (blk_other (p := ⟨i10, 0, none⟩) (.slice A7 n c7) b2 (by simp; omega)) (by simp; omega)
            have hb7 := own_blk_ne o7 b10 (by decide)
            have hb9 := own_blk_ne o9 b10 (by decide)
            have y7 := own_set (p := ⟨i10, 1, none⟩) (u := .slice A9 (m + (8 + rl)) c9) (own_set (p := ⟨i10, 0, none⟩) (u := .slice A7 n c7) o7 hb7) hb7
            have y9 := own_set (p := ⟨i10, 1, none⟩) (u := .slice A9 (m + (8 + rl)) c9) (own_set (p := ⟨i10, 0, none⟩) (u := .slice A7 n c7) o9 hb9) hb9
            have hbt := (hbt.setCell (p := ⟨i10, 0, none⟩) hi.1 (.slice A7 n c7)).setCell (p := ⟨i10, 1, none⟩) hi.1 (.slice A9 (m + (8 + rl)) c9)
            generalize (w9.setCell ⟨i10, 0, none⟩ (.slice A7 n c7)).setCell ⟨i10, 1, none⟩ (.slice A9 (m + (8 + rl)) c9) = W11 at *
            refine late_end ?_
            clear b10 b2 hb7 hb9 o7 o9
            have b2 := y2
            clear y2
            have c0 := blk_cell (j := 0) y10
            simp only [List.getElem?_toArray, List.getElem?_cons_zero, List.getElem?_cons_succ] at c0
            have cf0 := blk_frozen 0 y10
            have c1 := blk_cell (j := 1) y10
            simp only [List.getElem?_toArray, List.getElem?_cons_zero, List.getElem?_cons_succ] at c1
            have cf1 := blk_frozen 1 y10
            have e0 := blk_cell (j := 0) b2
            simp only [List.getElem?_toArray, List.getElem?_cons_zero, List.getElem?_cons_succ] at e0
            have ef0 := blk_frozen 0 b2
            have e1 := blk_cell (j := 1) b2
            simp only [List.getElem?_toArray, List.getElem?_cons_zero, List.getElem?_cons_succ] at e1
            have ef1 := blk_frozen 1 b2
            by_cases hsz : 1048576 < n + (m + (8 + rl))
            · rw [if_pos hsz] at HQ2
              have HZ := HQ2
              have dS : decide (1048576 < (n : Int) + ((m : Int) + (8 + (rl : Int)))) = true := by simp; omega
              have dS2 : decide (1048576 < n + (m + (8 + rl))) = true := by simp; omega
              go_wp2_with fail
              have x2 := blk_set (k := 1) (.slice none 0 0) (blk_set (k := 0) (.slice none 0 0) b2)
              simp only [List.setIfInBounds_toArray, List.set_cons_zero, List.set_cons_succ] at x2
              refine bodyPost_ret (results_cell_row2 rfl _ _ (w.heap.size + 1 + 1) 24 #[.slice none 0 0, .slice none 0 0] (0, 0) _ rfl x2 Try.underlying24 rfl infoDisk) rfl ?_
              exact dpost_err HZ.out ((hbt.setCell (p := ⟨w.heap.size + 1 + 1, 0, none⟩) (by simp; omega) _).setCell (p := ⟨w.heap.size + 1 + 1, 1, none⟩) (by simp; omega) _)
            · rw [if_neg hsz] at HQ2
              have dS : decide (1048576 < (n : Int) + ((m : Int) + (8 + (rl : Int)))) = false := by simp; omega
              have dS2 : decide (1048576 < n + (m + (8 + rl))) = false := by simp; omega
              go_wp2_with fail
              have x2 := blk_set (k := 1) (.slice A9 (m + (8 + rl)) c9) (blk_set (k := 0) (.slice A7 n c7) b2)
              simp only [List.setIfInBounds_toArray, List.set_cons_zero, List.set_cons_succ] at x2
              refine bodyPost_ret (results_cell_row2 rfl _ _ (w.heap.size + 1 + 1) 24 #[.slice A7 n c7, .slice A9 (m + (8 + rl)) c9] (0, 0) _ rfl x2 Try.underlying24 rfl infoDisk) rfl ?_
              rw [HQ2.out]
              refine ⟨_, _, rfl, ?_, ?_, ((hbt.setCell (p := ⟨w.heap.size + 1 + 1, 0, none⟩) (by simp; omega) _).setCell (p := ⟨w.heap.size + 1 + 1, 1, none⟩) (by simp; omega) _)⟩
              · dsimp only
                rw [hsl.out]
                exact own_set (own_set y7 (own_blk_ne y7 b2 (by decide))) (own_blk_ne y7 b2 (by decide))
              · dsimp only
                rw [List.length_append, hol.out, HFL.out]
                exact own_set (own_set y9 (own_blk_ne y9 b2 (by decide))) (own_blk_ne y9 b2 (by decide))
        · refine plan_call (by kernel_rfl) (fun K hK => ?_)
          go_simp
          obtain ⟨V8, hV⟩ : ∃ V8, V8 = wd.alloc (.cells #[.slice B m d, .slice A6 (8 + rl) c6] 22) := ⟨_, rfl⟩
          have b8 := blk_new hV
          have hb := below_new hV
          rw [← hV]
          clear hV
          refine hK.out _ _ hb ?_
          clear hK K
          (try simp only [Act.put, List.setIfInBounds_toArray, List.set_cons_zero, List.set_cons_succ])
          replace h := (h.below hb).more hb.size
          replace h' := (h'.below hb).more hb.size
          replace hv := (hv.below hb).more hb.size
          replace b1 := blk_below b1 hb
          replace b3 := blk_below b3 hb
          replace b2 := blk_below b2 hb
          replace q6 := (q6.below hb).more hb.size
          replace hbt := hbt.trans (hb.mono hbt.size)
          clear hb
          have c0 : ∀ x : Ext V8.heap.size V8, x.val.cell? ⟨w.heap.size, 0, none⟩ = some (.slice A n c) := fun x => (x.cell (blk_lt b1)).trans (blk_cell b1)
          have c1 : ∀ x : Ext V8.heap.size V8, x.val.cell? ⟨w.heap.size, 1, none⟩ = some (.slice B m d) := fun x => (x.cell (blk_lt b1)).trans (blk_cell b1)
          refine tree_two ?_
          simp only [pick, List.map_cons, List.map_nil, Option.map_some, Option.map_none, List.getD_cons_zero, List.getD_cons_succ]
          (repeat (go_big_quiet_step (fail)))
          refine quiet_end ?_
          clear c0 c1
          refine ⟨?_, ?_⟩
          · refine plan_call (by kernel_rfl) (fun K hK => ?_)
            go_simp
            refine (cloneB_any A n c s _ h (by omega)).mono ?_
            rintro e w7 ⟨v7, rfl, o7, hb⟩
            replace o7 := own_mono o7 hbt.size
            obtain ⟨A7, c7, rfl, _⟩ := own_rdB o7
            refine hK.out _ _ hb ?_
            clear hK K
            (try simp only [Act.put, List.setIfInBounds_toArray, List.set_cons_zero, List.set_cons_succ])
            replace h := (h.below hb).more hb.size
            replace h' := (h'.below hb).more hb.size
            replace hv := (hv.below hb).more hb.size
            replace b1 := blk_below b1 hb
            replace b3 := blk_below b3 hb
            replace b2 := blk_below b2 hb
            replace q6 := (q6.below hb).more hb.size
            replace b8 := blk_below b8 hb
            replace hbt := hbt.trans (hb.mono hbt.size)
            clear hb
            have c0 : ∀ x : Ext w7.heap.size w7, x.val.cell? ⟨w.heap.size, 0, none⟩ = some (.slice A n c) := fun x => (x.cell (blk_lt b1)).trans (blk_cell b1)
            have c1 : ∀ x : Ext w7.heap.size w7, x.val.cell? ⟨w.heap.size, 1, none⟩ = some (.slice B m d) := fun x => (x.cell (blk_lt b1)).trans (blk_cell b1)
            refine tree_two ?_
            simp only [pick, List.map_cons, List.map_nil, Option.map_some, Option.map_none, List.getD_cons_zero, List.getD_cons_succ]
            (repeat (go_big_quiet_step (fail)))
            refine quiet_end ?_
            clear c0 c1
            refine ⟨?_, ?_⟩
            · refine plan_call (by kernel_rfl) (fun K hK => ?_)
              go_simp
              refine (concat2_any _ B m d o A6 (8 + rl) c6 fb _ b8 h' q6 (by omega) (by omega)).mono ?_
              rintro e w9 ⟨v9, rfl, o9, hb⟩
              replace o9 := own_mono o9 hbt.size
              obtain ⟨A9, c9, rfl, _⟩ := own_rdB o9
              refine hK.out _ _ hb ?_
              clear hK K
              (try simp only [Act.put, List.setIfInBounds_toArray, List.set_cons_zero, List.set_cons_succ])
              replace h := (h.below hb).more hb.size
              replace h' := (h'.below hb).more hb.size
              replace hv := (hv.below hb).more hb.size
              replace b1 := blk_below b1 hb
              replace b3 := blk_below b3 hb
              replace b2 := blk_below b2 hb
              replace q6 := (q6.below hb).more hb.size
              replace b8 := blk_below b8 hb
              replace o7 := own_below o7 hb
              replace hbt := hbt.trans (hb.mono hbt.size)
              clear hb
              have c0 : ∀ x : Ext w9.heap.size w9, x.val.cell? ⟨w.heap.size, 0, none⟩ = some (.slice A n c) := fun x => (x.cell (blk_lt b1)).trans (blk_cell b1)
              have c1 : ∀ x : Ext w9.heap.size w9, x.val.cell? ⟨w.heap.size, 1, none⟩ = some (.slice B m d) := fun x => (x.cell (blk_lt b1)).trans (blk_cell b1)
              refine tree_one ?_
              simp only [pick, List.map_cons, List.map_nil, Option.map_some, Option.map_none, List.getD_cons_zero, List.getD_cons_succ]
              (repeat (go_big_quiet_step (fail)))
              refine quiet_end ?_
              clear c0 c1
              refine plan_call (by kernel_rfl) (fun K hK => ?_)
              go_simp
              obtain ⟨V10, hV⟩ : ∃ V10, V10 = w9.alloc (.cells #[.slice none 0 0, .slice none 0 0] 24) := ⟨_, rfl⟩
              have b10 := blk_new hV
              have hb := below_new hV
              rw [← hV]
              clear hV
              obtain ⟨i10, hi10⟩ : ∃ i, i = w9.heap.size := ⟨_, rfl⟩
              have hi : w.heap.size ≤ i10 ∧ w.heap.size + 1 + 1 < i10 := by rw [hi10]; have h7 := blk_lt b2; omega
              rw [← hi10] at b10 ⊢
              clear hi10
              refine hK.out _ _ hb ?_
              clear hK K
              (try simp only [Act.put, List.setIfInBounds_toArray, List.set_cons_zero, List.set_cons_succ])
              replace h := (h.below hb).more hb.size
              replace h' := (h'.below hb).more hb.size
              replace hv := (hv.below hb).more hb.size
              replace b1 := blk_below b1 hb
              replace b3 := blk_below b3 hb
              replace b2 := blk_below b2 hb
              replace q6 := (q6.below hb).more hb.size
              replace b8 := blk_below b8 hb
              replace o7 := own_below o7 hb
              replace o9 := own_below o9 hb
              replace hbt := hbt.trans (hb.mono hbt.size)
              clear hb
              have c0 : ∀ x : Ext V10.heap.size V10, x.val.cell? ⟨w.heap.size, 0, none⟩ = some (.slice A n c) := fun x => (x.cell (blk_lt b1)).trans (blk_cell b1)
              have c1 : ∀ x : Ext V10.heap.size V10, x.val.cell? ⟨w.heap.size, 1, none⟩ = some (.slice B m d) := fun x => (x.cell (blk_lt b1)).trans (blk_cell b1)
              refine tree_sto ?_
              simp only [pick, List.map_cons, List.map_nil, Option.map_some, Option.map_none, List.getD_cons_zero, List.getD_cons_succ]
              (repeat (go_big_quiet_step (fail)))
              refine quiet_end ?_
              clear c0 c1
              have c0 := blk_cell (j := 0) b10
              simp only [List.getElem?_toArray, List.getElem?_cons_zero, List.getElem?_cons_succ] at c0
              have cf0 := blk_frozen 0 b10
              have c1 := blk_cell (j := 1) b10
              simp only [List.getElem?_toArray, List.getElem?_cons_zero, List.getElem?_cons_succ] at c1
              have cf1 := blk_frozen 1 b10
              refine late_cons ?_
              (repeat (go_big_quiet_step (fail)))
              refine late_nil ?_
              refine late_call (by kernel_rfl) (fun K hK => ?_)
              go_simp
              refine hK.out _ _ ?_
              clear hK K
              (try simp only [Act.put, List.setIfInBounds_toArray, List.set_cons_zero, List.set_cons_succ])
              clear c0 c1 cf0 cf1
              have y10 := blk_set (k := 1) (.slice A9 (m + (8 + rl)) c9) (blk_set (k := 0) (.slice A7 n c7) b10)
              simp only [List.setIfInBounds_toArray, List.set_cons_zero, List.set_cons_succ] at y10
              have y2 := blk_other (p := ⟨i10, 1, none⟩) (.slice A9 (m + (8 + rl)) c9) (blk_other (p := ⟨i10, 0, none⟩) (.slice A7 n c7) b2 (by simp; omega)) (by simp; omega)
              have hb7 := own_blk_ne o7 b10 (by decide)
              have hb9 := own_blk_ne o9 b10 (by decide)
              have y7 := own_set (p := ⟨i10, 1, none⟩) (u := .slice A9 (m + (8 + rl)) c9) (own_set (p := ⟨i10, 0, none⟩) (u := .slice A7 n c7) o7 hb7) hb7
              have y9 := own_set (p := ⟨i10, 1, none⟩) (u := .slice A9 (m + (8 + rl)) c9) (own_set (p := ⟨i10, 0, none⟩) (u := .slice A7 n c7) o9 hb9) hb9
              have hbt := (hbt.setCell (p := ⟨i10, 0, none⟩) hi.1 (.slice A7 n c7)).setCell (p := ⟨i10, 1, none⟩) hi.1 (.slice A9 (m + (8 + rl)) c9)
              generalize (V10.setCell ⟨i10, 0, none⟩ (.slice A7 n c7)).setCell ⟨i10, 1, none⟩ (.slice A9 (m + (8 + rl)) c9) = W11 at *
              refine late_end ?_
              clear b10 b2 hb7 hb9 o7 o9
              have b2 := y2
              clear y2
              have c0 := blk_cell (j := 0) y10
              simp only [List.getElem?_toArray, List.getElem?_cons_zero, List.getElem?_cons_succ] at c0
              have cf0 := blk_frozen 0 y10
              have c1 := blk_cell (j := 1) y10
              simp only [List.getElem?_toArray, List.getElem?_cons_zero, List.getElem?_cons_succ] at c1
              have cf1 := blk_frozen 1 y10
              have e0 := blk_cell (j := 0) b2
              simp only [List.getElem?_toArray, List.getElem?_cons_zero, List.getElem?_cons_succ] at e0
              have ef0 := blk_frozen 0 b2
              have e1 := blk_cell (j := 1) b2
              simp only [List.getElem?_toArray, List.getElem?_cons_zero, List.getElem?_cons_succ] at e1
              have ef1 := blk_frozen 1 b2
              by_cases hsz : 1048576 < n + (m + (8 + rl))
              · rw [if_pos hsz] at HQ2
                have HZ := HQ2
                have dS : decide (1048576 < (n : Int) + ((m : Int) + (8 + (rl : Int)))) = true := by simp; omega
                have dS2 : decide (1048576 < n + (m + (8 + rl))) = true := by simp; omega
                go_wp2_with fail
                have x2 := blk_set (k := 1) (.slice none 0 0) (blk_set (k := 0) (.slice none 0 0) b2)
                simp only [List.setIfInBounds_toArray, List.set_cons_zero, List.set_cons_succ] at x2
                refine bodyPost_ret (results_cell_row2 rfl _ _ (w.heap.size + 1 + 1) 24 #[.slice none 0 0, .slice none 0 0] (0, 0) _ rfl x2 Try.underlying24 rfl infoDisk) rfl ?_
                exact dpost_err HZ.out ((hbt.setCell (p := ⟨w.heap.size + 1 + 1, 0, none⟩) (by simp; omega) _).setCell (p := ⟨w.heap.size + 1 + 1, 1, none⟩) (by simp; omega) _)
              · rw [if_neg hsz] at HQ2
                have dS : decide (1048576 < (n : Int) + ((m : Int) + (8 + (rl : Int)))) = false := by simp; omega
                have dS2 : decide (1048576 < n + (m + (8 + rl))) = false := by simp; omega
                go_wp2_with fail
                have x2 := blk_set (k := 1) (.slice A9 (m + (8 + rl)) c9) (blk_set (k := 0) (.slice A7 n c7) b2)
                simp only [List.setIfInBounds_toArray, List.set_cons_zero, List.set_cons_succ] at x2
                refine bodyPost_ret (results_cell_row2 rfl _ _ (w.heap.size + 1 + 1) 24 #[.slice A7 n c7, .slice A9 (m + (8 + rl)) c9] (0, 0) _ rfl x2 Try.underlying24 rfl infoDisk) rfl ?_
                rw [HQ2.out]
                refine ⟨_, _, rfl, ?_, ?_, ((hbt.setCell (p := ⟨w.heap.size + 1 + 1, 0, none⟩) (by simp; omega) _).setCell (p := ⟨w.heap.size + 1 + 1, 1, none⟩) (by simp; omega) _)⟩
                · dsimp only
                  rw [hsl.out]
                  exact own_set (own_set y7 (own_blk_ne y7 b2 (by decide))) (own_blk_ne y7 b2 (by decide))
                · dsimp only
                  rw [List.length_append, hol.out, HFL.out]
                  exact own_set (own_set y9 (own_blk_ne y9 b2 (by decide))) (own_blk_ne y9 b2 (by decide))
            · refine plan_call (by kernel_rfl) (fun K hK => ?_)
              go_simp
              obtain ⟨V10, hV⟩ : ∃ V10, V10 = w7.alloc (.cells #[.slice none 0 0, .slice none 0 0] 24) := ⟨_, rfl⟩
              have b10 := blk_new hV
              have hb := below_new hV
              rw [← hV]
              clear hV
              obtain ⟨i10, hi10⟩ : ∃ i, i = w7.heap.size := ⟨_, rfl⟩
              have hi : w.heap.size ≤ i10 ∧ w.heap.size + 1 + 1 < i10 := by rw [hi10]; have h7 := blk_lt b2; omega
              rw [← hi10] at b10 ⊢
              clear hi10
              refine hK.out _ _ hb ?_
              clear hK K
              (try simp only [Act.put, List.setIfInBounds_toArray, List.set_cons_zero, List.set_cons_succ])
              replace h := (h.below hb).more hb.size
              replace h' := (h'.below hb).more hb.size
              replace hv := (hv.below hb).more hb.size
              replace b1 := blk_below b1 hb
              replace b3 := blk_below b3 hb
              replace b2 := blk_below b2 hb
              replace q6 := (q6.below hb).more hb.size
              replace b8 := blk_below b8 hb
              replace o7 := own_below o7 hb
              replace hbt := hbt.trans (hb.mono hbt.size)
              clear hb
              have c0 : ∀ x : Ext V10.heap.size V10, x.val.cell? ⟨w.heap.size, 0, none⟩ = some (.slice A n c) := fun x => (x.cell (blk_lt b1)).trans (blk_cell b1)
              have c1 : ∀ x : Ext V10.heap.size V10, x.val.cell? ⟨w.heap.size, 1, none⟩ = some (.slice B m d) := fun x => (x.cell (blk_lt b1)).trans (blk_cell b1)
              refine tree_one ?_
              simp only [pick, List.map_cons, List.map_nil, Option.map_some, Option.map_none, List.getD_cons_zero, List.getD_cons_succ]
              (repeat (go_big_quiet_step (fail)))
              refine quiet_end ?_
              clear c0 c1
              refine plan_call (by kernel_rfl) (fun K hK => ?_)
              go_simp
              refine (concat2_any _ B m d o A6 (8 + rl) c6 fb _ b8 h' q6 (by omega) (by omega)).mono ?_
              rintro e w9 ⟨v9, rfl, o9, hb⟩
              replace o9 := own_mono o9 hbt.size
              obtain ⟨A9, c9, rfl, _⟩ := own_rdB o9
              refine hK.out _ _ hb ?_
              clear hK K
              (try simp only [Act.put, List.setIfInBounds_toArray, List.set_cons_zero, List.set_cons_succ])
              replace h := (h.below hb).more hb.size
              replace h' := (h'.below hb).more hb.size
              replace hv := (hv.below hb).more hb.size
              replace b1 := blk_below b1 hb
              replace b3 := blk_below b3 hb
              replace b2 := blk_below b2 hb
              replace q6 := (q6.below hb).more hb.size
              replace b8 := blk_below b8 hb
              replace o7 := own_below o7 hb
              replace b10 := blk_below b10 hb
              replace hbt := hbt.trans (hb.mono hbt.size)
              clear hb
              have c0 : ∀ x : Ext w9.heap.size w9, x.val.cell? ⟨w.heap.size, 0, none⟩ = some (.slice A n c) := fun x => (x.cell (blk_lt b1)).trans (blk_cell b1)
              have c1 : ∀ x : Ext w9.heap.size w9, x.val.cell? ⟨w.heap.size, 1, none⟩ = some (.slice B m d) := fun x => (x.cell (blk_lt b1)).trans (blk_cell b1)
              refine tree_sto ?_
              simp only [pick, List.map_cons, List.map_nil, Option.map_some, Option.map_none, List.getD_cons_zero, List.getD_cons_succ]
              (repeat (go_big_quiet_step (fail)))
              refine quiet_end ?_
              clear c0 c1
              have c0 := blk_cell (j := 0) b10
              simp only [List.getElem?_toArray, List.getElem?_cons_zero, List.getElem?_cons_succ] at c0
              have cf0 := blk_frozen 0 b10
              have c1 := blk_cell (j := 1) b10
              simp only [List.getElem?_toArray, List.getElem?_cons_zero, List.getElem?_cons_succ] at c1
              have cf1 := blk_frozen 1 b10
              refine late_cons ?_
              (repeat (go_big_quiet_step (fail)))
              refine late_nil ?_
              refine late_call (by kernel_rfl) (fun K hK => ?_)
              go_simp
              refine hK.out _ _ ?_
              clear hK K
              (try simp only [Act.put, List.setIfInBounds_toArray, List.set_cons_zero, List.set_cons_succ])
              clear c0 c1 cf0 cf1
              have y10 := blk_set (k := 1) (.slice A9 (m + (8 + rl)) c9) (blk_set (k := 0) (.slice A7 n c7) b10)
              simp only [List.setIfInBounds_toArray, List.set_cons_zero, List.set_cons_succ] at y10
              have y2 := blk_other (p := ⟨i10, 1, none⟩) (.slice A9 (m + (8 + rl)) c9) (blk_other (p := ⟨i10, 0, none⟩) (.slice A7 n c7) b2 (by simp; omega)) (by simp; omega)
              have hb7 := own_blk_ne o7 b10 (by decide)
              have hb9 := own_blk_ne o9 b10 (by decide)
              have y7 := own_set (p := ⟨i10, 1, none⟩) (u := .slice A9 (m + (8 + rl)) c9) (own_set (p := ⟨i10, 0, none⟩) (u := .slice A7 n c7) o7 hb7) hb7
              have y9 := own_set (p := ⟨i10, 1, none⟩) (u := .slice A9 (m + (8 + rl)) c9) (own_set (p := ⟨i10, 0, none⟩) (u := .slice A7 n c7) o9 hb9) hb9
              have hbt := (hbt.setCell (p := ⟨i10, 0, none⟩) hi.1 (.slice A7 n c7)).setCell (p := ⟨i10, 1, none⟩) hi.1 (.slice A9 (m + (8 + rl)) c9)
              generalize (w9.setCell ⟨i10, 0, none⟩ (.slice A7 n c7)).setCell ⟨i10, 1, none⟩ (.slice A9 (m + (8 + rl)) c9) = W11 at *
              refine late_end ?_
              clear b10 b2 hb7 hb9 o7 o9
              have b2 := y2
              clear y2
              have c0 := blk_cell (j := 0) y10
              simp only [List.getElem?_toArray, List.getElem?_cons_zero, List.getElem?_cons_succ] at c0
              have cf0 := blk_frozen 0 y10
              have c1 := blk_cell (j := 1) y10
              simp only [List.getElem?_toArray, List.getElem?_cons_zero, List.getElem?_cons_succ] at c1
              have cf1 := blk_frozen 1 y10
              have e0 := blk_cell (j := 0) b2
              simp only [List.getElem?_toArray, List.getElem?_cons_zero, List.getElem?_cons_succ] at e0
              have ef0 := blk_frozen 0 b2
              have e1 := blk_cell (j := 1) b2
              simp only [List.getElem?_toArray, List.getElem?_cons_zero, List.getElem?_cons_succ] at e1
              have ef1 := blk_frozen 1 b2
              by_cases hsz : 1048576 < n + (m + (8 + rl))
              · rw [if_pos hsz] at HQ2
                have HZ := HQ2
                have dS : decide (1048576 < (n : Int) + ((m : Int) + (8 + (rl : Int)))) = true := by simp; omega
                have dS2 : decide (1048576 < n + (m + (8 + rl))) = true := by simp; omega
                go_wp2_with fail
                have x2 := blk_set (k := 1) (.slice none 0 0) (blk_set (k := 0) (.slice none 0 0) b2)
                simp only [List.setIfInBounds_toArray, List.set_cons_zero, List.set_cons_succ] at x2
                refine bodyPost_ret (results_cell_row2 rfl _ _ (w.heap.size + 1 + 1) 24 #[.slice none 0 0, .slice none 0 0] (0, 0) _ rfl x2 Try.underlying24 rfl infoDisk) rfl ?_
                exact dpost_err HZ.out ((hbt.setCell (p := ⟨w.heap.size + 1 + 1, 0, none⟩) (by simp; omega) _).setCell (p := ⟨w.heap.size + 1 + 1, 1, none⟩) (by simp; omega) _)
              · rw [if_neg hsz] at HQ2
                have dS : decide (1048576 < (n : Int) + ((m : Int) + (8 + (rl : Int)))) = false := by simp; omega
                have dS2 : decide (1048576 < n + (m + (8 + rl))) = false := by simp; omega
                go_wp2_with fail
                have x2 := blk_set (k := 1) (.slice A9 (m + (8 + rl)) c9) (blk_set (k := 0) (.slice A7 n c7) b2)
                simp only [List.setIfInBounds_toArray, List.set_cons_zero, List.set_cons_succ] at x2
                refine bodyPost_ret (results_cell_row2 rfl _ _ (w.heap.size + 1 + 1) 24 #[.slice A7 n c7, .slice A9 (m + (8 + rl)) c9] (0, 0) _ rfl x2 Try.underlying24 rfl infoDisk) rfl ?_
                rw [HQ2.out]
                refine ⟨_, _, rfl, ?_, ?_, ((hbt.setCell (p := ⟨w.heap.size + 1 + 1, 0, none⟩) (by simp; omega) _).setCell (p := ⟨w.heap.size + 1 + 1, 1, none⟩) (by simp; omega) _)⟩
                · dsimp only
                  rw [hsl.out]
                  exact own_set (own_set y7 (own_blk_ne y7 b2 (by decide))) (own_blk_ne y7 b2 (by decide))
                · dsimp only
                  rw [List.length_append, hol.out, HFL.out]
                  exact own_set (own_set y9 (own_blk_ne y9 b2 (by decide))) (own_blk_ne y9 b2 (by decide))
          · refine plan_call (by kernel_rfl) (fun K hK => ?_)
            go_simp
            obtain ⟨V10, hV⟩ : ∃ V10, V10 = V8.alloc (.cells #[.slice none 0 0, .slice none 0 0] 24) := ⟨_, rfl⟩
            have b10 := blk_new hV
            have hb := below_new hV
            rw [← hV]
            clear hV
            obtain ⟨i10, hi10⟩ : ∃ i, i = V8.heap.size := ⟨_, rfl⟩
            have hi : w.heap.size ≤ i10 ∧ w.heap.size + 1 + 1 < i10 := by rw [hi10]; have h7 := blk_lt b2; omega
            rw [← hi10] at b10 ⊢
            clear hi10
            refine hK.out _ _ hb ?_
            clear hK K
            (try simp only [Act.put, List.setIfInBounds_toArray, List.set_cons_zero, List.set_cons_succ])
            replace h := (h.below hb).more hb.size
            replace h' := (h'.below hb).more hb.size
            replace hv := (hv.below hb).more hb.size
            replace b1 := blk_below b1 hb
            replace b3 := blk_below b3 hb
            replace b2 := blk_below b2 hb
            replace q6 := (q6.below hb).more hb.size
            replace b8 := blk_below b8 hb
            replace hbt := hbt.trans (hb.mono hbt.size)
            clear hb
            have c0 : ∀ x : Ext V10.heap.size V10, x.val.cell? ⟨w.heap.size, 0, none⟩ = some (.slice A n c) := fun x => (x.cell (blk_lt b1)).trans (blk_cell b1)
            have c1 : ∀ x : Ext V10.heap.size V10, x.val.cell? ⟨w.heap.size, 1, none⟩ = some (.slice B m d) := fun x => (x.cell (blk_lt b1)).trans (blk_cell b1)
            refine tree_one ?_
            simp only [pick, List.map_cons, List.map_nil, Option.map_some, Option.map_none, List.getD_cons_zero, List.getD_cons_succ]
            (repeat (go_big_quiet_step (fail)))
            refine quiet_end ?_
            clear c0 c1
            refine plan_call (by kernel_rfl) (fun K hK => ?_)
            go_simp
            refine (cloneB_any A n c s _ h (by omega)).mono ?_
            rintro e w7 ⟨v7, rfl, o7, hb⟩
            replace o7 := own_mono o7 hbt.size
            obtain ⟨A7, c7, rfl, _⟩ := own_rdB o7
            refine hK.out _ _ hb ?_
            clear hK K
            (try simp only [Act.put, List.setIfInBounds_toArray, List.set_cons_zero, List.set_cons_succ])
            replace h := (h.below hb).more hb.size
            replace h' := (h'.below hb).more hb.size
            replace hv := (hv.below hb).more hb.size
            replace b1 := blk_below b1 hb
            replace b3 := blk_below b3 hb
            replace b2 := blk_below b2 hb
            replace q6 := (q6.below hb).more hb.size
            replace b8 := blk_below b8 hb
            replace b10 := blk_below b10 hb
            replace hbt := hbt.trans (hb.mono hbt.size)
            clear hb
            have c0 : ∀ x : Ext w7.heap.size w7, x.val.cell? ⟨w.heap.size, 0, none⟩ = some (.slice A n c) := fun x => (x.cell (blk_lt b1)).trans (blk_cell b1)
            have c1 : ∀ x : Ext w7.heap.size w7, x.val.cell? ⟨w.heap.size, 1, none⟩ = some (.slice B m d) := fun x => (x.cell (blk_lt b1)).trans (blk_cell b1)
            refine tree_one ?_
            simp only [pick, List.map_cons, List.map_nil, Option.map_some, Option.map_none, List.getD_cons_zero, List.getD_cons_succ]
            (repeat (go_big_quiet_step (fail)))
            refine quiet_end ?_
            clear c0 c1
            refine plan_call (by kernel_rfl) (fun K hK => ?_)
            go_simp
            refine (concat2_any _ B m d o A6 (8 + rl) c6 fb _ b8 h' q6 (by omega) (by omega)).mono ?_
            rintro e w9 ⟨v9, rfl, o9, hb⟩
            replace o9 := own_mono o9 hbt.size
            obtain ⟨A9, c9, rfl, _⟩ := own_rdB o9
            refine hK.out _ _ hb ?_
            clear hK K
            (try simp only [Act.put, List.setIfInBounds_toArray, List.set_cons_zero, List.set_cons_succ])
            replace h := (h.below hb).more hb.size
            replace h' := (h'.below hb).more hb.size
            replace hv := (hv.below hb).more hb.size
            replace b1 := blk_below b1 hb
            replace b3 := blk_below b3 hb
            replace b2 := blk_below b2 hb
            replace q6 := (q6.below hb).more hb.size
            replace b8 := blk_below b8 hb
            replace b10 := blk_below b10 hb
            replace o7 := own_below o7 hb
            replace hbt := hbt.trans (hb.mono hbt.size)
            clear hb
            have c0 : ∀ x : Ext w9.heap.size w9, x.val.cell? ⟨w.heap.size, 0, none⟩ = some (.slice A n c) := fun x => (x.cell (blk_lt b1)).trans (blk_cell b1)
            have c1 : ∀ x : Ext w9.heap.size w9, x.val.cell? ⟨w.heap.size, 1, none⟩ = some (.slice B m d) := fun x => (x.cell (blk_lt b1)).trans (blk_cell b1)
            refine tree_sto ?_
            simp only [pick, List.map_cons, List.map_nil, Option.map_some, Option.map_none, List.getD_cons_zero, List.getD_cons_succ]
            (repeat (go_big_quiet_step (fail)))
            refine quiet_end ?_
            clear c0 c1
            have c0 := blk_cell (j := 0) b10
            simp only [List.getElem?_toArray, List.getElem?_cons_zero, List.getElem?_cons_succ] at c0
            have cf0 := blk_frozen 0 b10
            have c1 := blk_cell (j := 1) b10
            simp only [List.getElem?_toArray, List.getElem?_cons_zero, List.getElem?_cons_succ] at c1
            have cf1 := blk_frozen 1 b10
            refine late_cons ?_
            (repeat (go_big_quiet_step (fail)))
            refine late_nil ?_
            refine late_call (by kernel_rfl) (fun K hK => ?_)
            go_simp
            refine hK.out _ _ ?_
            clear hK K
            (try simp only [Act.put, List.setIfInBounds_toArray, List.set_cons_zero, List.set_cons_succ])
            clear c0 c1 cf0 cf1
            have y10 := blk_set (k := 1) (.slice A9 (m + (8 + rl)) c9) (blk_set (k := 0) (.slice A7 n c7) b10)
            simp only [List.setIfInBounds_toArray, List.set_cons_zero, List.set_cons_succ] at y10
            have y2 := blk_other (p := ⟨i10, 1, none⟩) (.slice A9 (m + (8 + rl)) c9) (blk_other (p := ⟨i10, 0, none⟩) (.slice A7 n c7) b2 (by simp; omega)) (by simp; omega)
            have hb7 := own_blk_ne o7 b10 (by decide)
            have hb9 := own_blk_ne o9 b10 (by decide)
            have y7 := own_set (p := ⟨i10, 1, none⟩) (u := .slice A9 (m + (8 + rl)) c9) (own_set (p := ⟨i10, 0, none⟩) (u := .slice A7 n c7) o7 hb7) hb7
            have y9 := own_set (p := ⟨i10, 1, none⟩) (u := .slice A9 (m + (8 + rl)) c9) (own_set (p := ⟨i10, 0, none⟩) (u := .slice A7 n c7) o9 hb9) hb9
            have hbt := (hbt.setCell (p := ⟨i10, 0, none⟩) hi.1 (.slice A7 n c7)).setCell (p := ⟨i10, 1, none⟩) hi.1 (.slice A9 (m + (8 + rl)) c9)
            generalize (w9.setCell ⟨i10, 0, none⟩ (.slice A7 n c7)).setCell ⟨i10, 1, none⟩ (.slice A9 (m + (8 + rl)) c9) = W11 at *
            refine late_end ?_
            clear b10 b2 hb7 hb9 o7 o9
            have b2 := y2
            clear y2
            have c0 := blk_cell (j := 0) y10
            simp only [List.getElem?_toArray, List.getElem?_cons_zero, List.getElem?_cons_succ] at c0
            have cf0 := blk_frozen 0 y10
            have c1 := blk_cell (j := 1) y10
            simp only [List.getElem?_toArray, List.getElem?_cons_zero, List.getElem?_cons_succ] at c1
            have cf1 := blk_frozen 1 y10
            have e0 := blk_cell (j := 0) b2
            simp only [List.getElem?_toArray, List.getElem?_cons_zero, List.getElem?_cons_succ] at e0
            have ef0 := blk_frozen 0 b2
            have e1 := blk_cell (j := 1) b2
            simp only [List.getElem?_toArray, List.getElem?_cons_zero, List.getElem?_cons_succ] at e1
            have ef1 := blk_frozen 1 b2
            by_cases hsz : 1048576 < n + (m + (8 + rl))
            · rw [if_pos hsz] at HQ2
              have HZ := HQ2
              have dS : decide (1048576 < (n : Int) + ((m : Int) + (8 + (rl : Int)))) = true := by simp; omega
              have dS2 : decide (1048576 < n + (m + (8 + rl))) = true := by simp; omega
              go_wp2_with fail
              have x2 := blk_set (k := 1) (.slice none 0 0) (blk_set (k := 0) (.slice none 0 0) b2)
              simp only [List.setIfInBounds_toArray, List.set_cons_zero, List.set_cons_succ] at x2
              refine bodyPost_ret (results_cell_row2 rfl _ _ (w.heap.size + 1 + 1) 24 #[.slice none 0 0, .slice none 0 0] (0, 0) _ rfl x2 Try.underlying24 rfl infoDisk) rfl ?_
              exact dpost_err HZ.out ((hbt.setCell (p := ⟨w.heap.size + 1 + 1, 0, none⟩) (by simp; omega) _).setCell (p := ⟨w.heap.size + 1 + 1, 1, none⟩) (by simp; omega) _)
            · rw [if_neg hsz] at HQ2
              have dS : decide (1048576 < (n : Int) + ((m : Int) + (8 + (rl : Int)))) = false := by simp; omega
              have dS2 : decide (1048576 < n + (m + (8 + rl))) = false := by simp; omega
              go_wp2_with fail
              have x2 := blk_set (k := 1) (.slice A9 (m + (8 + rl)) c9) (blk_set (k := 0) (.slice A7 n c7) b2)
              simp only [List.setIfInBounds_toArray, List.set_cons_zero, List.set_cons_succ] at x2
              refine bodyPost_ret (results_cell_row2 rfl _ _ (w.heap.size + 1 + 1) 24 #[.slice A7 n c7, .slice A9 (m + (8 + rl)) c9] (0, 0) _ rfl x2 Try.underlying24 rfl infoDisk) rfl ?_
              rw [HQ2.out]
              refine ⟨_, _, rfl, ?_, ?_, ((hbt.setCell (p := ⟨w.heap.size + 1 + 1, 0, none⟩) (by simp; omega) _).setCell (p := ⟨w.heap.size + 1 + 1, 1, none⟩) (by simp; omega) _)⟩
              · dsimp only
                rw [hsl.out]
                exact own_set (own_set y7 (own_blk_ne y7 b2 (by decide))) (own_blk_ne y7 b2 (by decide))
              · dsimp only
                rw [List.length_append, hol.out, HFL.out]
                exact own_set (own_set y9 (own_blk_ne y9 b2 (by decide))) (own_blk_ne y9 b2 (by decide))
        · refine plan_call (by kernel_rfl) (fun K hK => ?_)
          go_simp
          obtain ⟨V10, hV⟩ : ∃ V10, V10 = wd.alloc (.cells #[.slice none 0 0, .slice none 0 0] 24) := ⟨_, rfl⟩
          have b10 := blk_new hV
          have hb := below_new hV
          rw [← hV]
          clear hV
          obtain ⟨i10, hi10⟩ : ∃ i, i = wd.heap.size := ⟨_, rfl⟩
          have hi : w.heap.size ≤ i10 ∧ w.heap.size + 1 + 1 < i10 := by rw [hi10]; have h7 := blk_lt b2; omega
          rw [← hi10] at b10 ⊢
          clear hi10
          refine hK.out _ _ hb ?_
          clear hK K
          (try simp only [Act.put, List.setIfInBounds_toArray, List.set_cons_zero, List.set_cons_succ])
          replace h := (h.below hb).more hb.size
          replace h' := (h'.below hb).more hb.size
          replace hv := (hv.below hb).more hb.size
          replace b1 := blk_below b1 hb
          replace b3 := blk_below b3 hb
          replace b2 := blk_below b2 hb
          replace q6 := (q6.below hb).more hb.size
          replace hbt := hbt.trans (hb.mono hbt.size)
          clear hb
          have c0 : ∀ x : Ext V10.heap.size V10, x.val.cell? ⟨w.heap.size, 0, none⟩ = some (.slice A n c) := fun x => (x.cell (blk_lt b1)).trans (blk_cell b1)
          have c1 : ∀ x : Ext V10.heap.size V10, x.val.cell? ⟨w.heap.size, 1, none⟩ = some (.slice B m d) := fun x => (x.cell (blk_lt b1)).trans (blk_cell b1)
          refine tree_two ?_
          simp only [pick, List.map_cons, List.map_nil, Option.map_some, Option.map_none, List.getD_cons_zero, List.getD_cons_succ]
          (repeat (go_big_quiet_step (fail)))
          refine quiet_end ?_
          clear c0 c1
          refine ⟨?_, ?_⟩
          · refine plan_call (by kernel_rfl) (fun K hK => ?_)
            go_simp
            refine (cloneB_any A n c s _ h (by omega)).mono ?_
            rintro e w7 ⟨v7, rfl, o7, hb⟩
            replace o7 := own_mono o7 hbt.size
            obtain ⟨A7, c7, rfl, _⟩ := own_rdB o7
            refine hK.out _ _ hb ?_
            clear hK K
            (try simp only [Act.put, List.setIfInBounds_toArray, List.set_cons_zero, List.set_cons_succ])
            replace h := (h.below hb).more hb.size
            replace h' := (h'.below hb).more hb.size
            replace hv := (hv.below hb).more hb.size
            replace b1 := blk_below b1 hb
            replace b3 := blk_below b3 hb
            replace b2 := blk_below b2 hb
            replace q6 := (q6.below hb).more hb.size
            replace b10 := blk_below b10 hb
            replace hbt := hbt.trans (hb.mono hbt.size)
            clear hb
            have c0 : ∀ x : Ext w7.heap.size w7, x.val.cell? ⟨w.heap.size, 0, none⟩ = some (.slice A n c) := fun x => (x.cell (blk_lt b1)).trans (blk_cell b1)
            have c1 : ∀ x : Ext w7.heap.size w7, x.val.cell? ⟨w.heap.size, 1, none⟩ = some (.slice B m d) := fun x => (x.cell (blk_lt b1)).trans (blk_cell b1)
            refine tree_one ?_
            simp only [pick, List.map_cons, List.map_nil, Option.map_some, Option.map_none, List.getD_cons_zero, List.getD_cons_succ]
            (repeat (go_big_quiet_step (fail)))
            refine quiet_end ?_
            clear c0 c1
            refine plan_call (by kernel_rfl) (fun K hK => ?_)
            go_simp
            obtain ⟨V8, hV⟩ : ∃ V8, V8 = w7.alloc (.cells #[.slice B m d, .slice A6 (8 + rl) c6] 22) := ⟨_, rfl⟩
            have b8 := blk_new hV
            have hb := below_new hV
            rw [← hV]
            clear hV
            refine hK.out _ _ hb ?_
            clear hK K
            (try simp only [Act.put, List.setIfInBounds_toArray, List.set_cons_zero, List.set_cons_succ])
            replace h := (h.below hb).more hb.size
            replace h' := (h'.below hb).more hb.size
            replace hv := (hv.below hb).more hb.size
            replace b1 := blk_below b1 hb
            replace b3 := blk_below b3 hb
            replace b2 := blk_below b2 hb
            replace q6 := (q6.below hb).more hb.size
            replace b10 := blk_below b10 hb
            replace o7 := own_below o7 hb
            replace hbt := hbt.trans (hb.mono hbt.size)
            clear hb
            have c0 : ∀ x : Ext V8.heap.size V8, x.val.cell? ⟨w.heap.size, 0, none⟩ = some (.slice A n c) := fun x => (x.cell (blk_lt b1)).trans (blk_cell b1)
            have c1 : ∀ x : Ext V8.heap.size V8, x.val.cell? ⟨w.heap.size, 1, none⟩ = some (.slice B m d) := fun x => (x.cell (blk_lt b1)).trans (blk_cell b1)
            refine tree_one ?_
            simp only [pick, List.map_cons, List.map_nil, Option.map_some, Option.map_none, List.getD_cons_zero, List.getD_cons_succ]
            (repeat (go_big_quiet_step (fail)))
            refine quiet_end ?_
            clear c0 c1
            refine plan_call (by kernel_rfl) (fun K hK => ?_)
            go_simp
            refine (concat2_any _ B m d o A6 (8 + rl) c6 fb _ b8 h' q6 (by omega) (by omega)).mono ?_
            rintro e w9 ⟨v9, rfl, o9, hb⟩
            replace o9 := own_mono o9 hbt.size
            obtain ⟨A9, c9, rfl, _⟩ := own_rdB o9
            refine hK.out _ _ hb ?_
            clear hK K
            (try simp only [Act.put, List.setIfInBounds_toArray, List.set_cons_zero, List.set_cons_succ])
            replace h := (h.below hb).more hb.size
            replace h' := (h'.below hb).more hb.size
            replace hv := (hv.below hb).more hb.size
            replace b1 := blk_below b1 hb
            replace b3 := blk_below b3 hb
            replace b2 := blk_below b2 hb
            replace q6 := (q6.below hb).more hb.size
            replace b10 := blk_below b10 hb
            replace o7 := own_below o7 hb
            replace b8 := blk_below b8 hb
            replace hbt := hbt.trans (hb.mono hbt.size)
            clear hb
            have c0 : ∀ x : Ext w9.heap.size w9, x.val.cell? ⟨w.heap.size, 0, none⟩ = some (.slice A n c) := fun x => (x.cell (blk_lt b1)).trans (blk_cell b1)
            have c1 : ∀ x : Ext w9.heap.size w9, x.val.cell? ⟨w.heap.size, 1, none⟩ = some (.slice B m d) := fun x => (x.cell (blk_lt b1)).trans (blk_cell b1)
            refine tree_sto ?_
            simp only [pick, List.map_cons, List.map_nil, Option.map_some, Option.map_none, List.getD_cons_zero, List.getD_cons_succ]
            (repeat (go_big_quiet_step (fail)))
            refine quiet_end ?_
            clear c0 c1
            have c0 := blk_cell (j := 0) b10
            simp only [List.getElem?_toArray, List.getElem?_cons_zero, List.getElem?_cons_succ] at c0
            have cf0 := blk_frozen 0 b10
            have c1 := blk_cell (j := 1) b10
            simp only [List.getElem?_toArray, List.getElem?_cons_zero, List.getElem?_cons_succ] at c1
            have cf1 := blk_frozen 1 b10
            refine late_cons ?_
            (repeat (go_big_quiet_step (fail)))
            refine late_nil ?_
            refine late_call (by kernel_rfl) (fun K hK => ?_)
            go_simp
            refine hK.out _ _ ?_
            clear hK K
            (try simp only [Act.put, List.setIfInBounds_toArray, List.set_cons_zero, List.set_cons_succ])
            clear c0 c1 cf0 cf1
            have y10 := blk_set (k := 1) (.slice A9 (m + (8 + rl)) c9) (blk_set (k := 0) (.slice A7 n c7) b10)
            simp only [List.setIfInBounds_toArray, List.set_cons_zero, List.set_cons_succ] at y10
            have y2 := blk_other (p := ⟨i10, 1, none⟩) (.slice A9 (m + (8 + rl)) c9) (blk_other (p := ⟨i10, 0, none⟩) (.slice A7 n c7) b2 (by simp; omega)) (by simp; omega)
            have hb7 := own_blk_ne o7 b10 (by decide)
            have hb9 := own_blk_ne o9 b10 (by decide)
            have y7 := own_set (p := ⟨i10, 1, none⟩) (u := .slice A9 (m + (8 + rl)) c9) (own_set (p := ⟨i10, 0, none⟩) (u := .slice A7 n c7) o7 hb7) hb7
            have y9 := own_set (p := ⟨i10, 1, none⟩) (u := .slice A9 (m + (8 + rl)) c9) (own_set (p := ⟨i10, 0, none⟩) (u := .slice A7 n c7) o9 hb9) hb9
            have hbt := (hbt.setCell (p := ⟨i10, 0, none⟩) hi.1 (.slice A7 n c7)).setCell (p := ⟨i10, 1, none⟩) hi.1 (.slice A9 (m + (8 + rl)) c9)
            generalize (w9.setCell ⟨i10, 0, none⟩ (.slice A7 n c7)).setCell ⟨i10, 1, none⟩ (.slice A9 (m + (8 + rl)) c9) = W11 at *
            refine late_end ?_
            clear b10 b2 hb7 hb9 o7 o9
            have b2 := y2
            clear y2
            have c0 := blk_cell (j := 0) y10
            simp only [List.getElem?_toArray, List.getElem?_cons_zero, List.getElem?_cons_succ] at c0
            have cf0 := blk_frozen 0 y10
            have c1 := blk_cell (j := 1) y10
            simp only [List.getElem?_toArray, List.getElem?_cons_zero, List.getElem?_cons_succ] at c1
            have cf1 := blk_frozen 1 y10
            have e0 := blk_cell (j := 0) b2
            simp only [List.getElem?_toArray, List.getElem?_cons_zero, List.getElem?_cons_succ] at e0
            have ef0 := blk_frozen 0 b2
            have e1 := blk_cell (j := 1) b2
            simp only [List.getElem?_toArray, List.getElem?_cons_zero, List.getElem?_cons_succ] at e1
            have ef1 := blk_frozen 1 b2
            by_cases hsz : 1048576 < n + (m + (8 + rl))
            · rw [if_pos hsz] at HQ2
              have HZ := HQ2
              have dS : decide (1048576 < (n : Int) + ((m : Int) + (8 + (rl : Int)))) = true := by simp; omega
              have dS2 : decide (1048576 < n + (m + (8 + rl))) = true := by simp; omega
              go_wp2_with fail
              have x2 := blk_set (k := 1) (.slice none 0 0) (blk_set (k := 0) (.slice none 0 0) b2)
              simp only [List.setIfInBounds_toArray, List.set_cons_zero, List.set_cons_succ] at x2
              refine bodyPost_ret (results_cell_row2 rfl _ _ (w.heap.size + 1 + 1) 24 #[.slice none 0 0, .slice none 0 0] (0, 0) _ rfl x2 Try.underlying24 rfl infoDisk) rfl ?_
              exact dpost_err HZ.out ((hbt.setCell (p := ⟨w.heap.size + 1 + 1, 0, none⟩) (by simp; omega) _).setCell (p := ⟨w.heap.size + 1 + 1, 1, none⟩) (by simp; omega) _)
            · rw [if_neg hsz] at HQ2
              have dS : decide (1048576 < (n : Int) + ((m : Int) + (8 + (rl : Int)))) = false := by simp; omega
              have dS2 : decide (1048576 < n + (m + (8 + rl))) = false := by simp; omega
              go_wp2_with fail
              have x2 := blk_set (k := 1) (.slice A9 (m + (8 + rl)) c9) (blk_set (k := 0) (.slice A7 n c7) b2)
              simp only [List.setIfInBounds_toArray, List.set_cons_zero, List.set_cons_succ] at x2
              refine bodyPost_ret (results_cell_row2 rfl _ _ (w.heap.size + 1 + 1) 24 #[.slice A7 n c7, .slice A9 (m + (8 + rl)) c9] (0, 0) _ rfl x2 Try.underlying24 rfl infoDisk) rfl ?_
              rw [HQ2.out]
              refine ⟨_, _, rfl, ?_, ?_, ((hbt.setCell (p := ⟨w.heap.size + 1 + 1, 0, none⟩) (by simp; omega) _).setCell (p := ⟨w.heap.size + 1 + 1, 1, none⟩) (by simp; omega) _)⟩
              · dsimp only
                rw [hsl.out]
                exact own_set (own_set y7 (own_blk_ne y7 b2 (by decide))) (own_blk_ne y7 b2 (by decide))
              · dsimp only
                rw [List.length_append, hol.out, HFL.out]
                exact own_set (own_set y9 (own_blk_ne y9 b2 (by decide))) (own_blk_ne y9 b2 (by decide))
          · refine plan_call (by kernel_rfl) (fun K hK => ?_)
            go_simp
            obtain ⟨V8, hV⟩ : ∃ V8, V8 = V10.alloc (.cells #[.slice B m d, .slice A6 (8 + rl) c6] 22) := ⟨_, rfl⟩
            have b8 := blk_new hV
            have hb := below_new hV
            rw [← hV]
            clear hV
            refine hK.out _ _ hb ?_
            clear hK K
            (try simp only [Act.put, List.setIfInBounds_toArray, List.set_cons_zero, List.set_cons_succ])
            replace h := (h.below hb).more hb.size
            replace h' := (h'.below hb).more hb.size
            replace hv := (hv.below hb).more hb.size
            replace b1 := blk_below b1 hb
            replace b3 := blk_below b3 hb
            replace b2 := blk_below b2 hb
            replace q6 := (q6.below hb).more hb.size
            replace b10 := blk_below b10 hb
            replace hbt := hbt.trans (hb.mono hbt.size)
            clear hb
            have c0 : ∀ x : Ext V8.heap.size V8, x.val.cell? ⟨w.heap.size, 0, none⟩ = some (.slice A n c) := fun x => (x.cell (blk_lt b1)).trans (blk_cell b1)
            have c1 : ∀ x : Ext V8.heap.size V8, x.val.cell? ⟨w.heap.size, 1, none⟩ = some (.slice B m d) := fun x => (x.cell (blk_lt b1)).trans (blk_cell b1)
            refine tree_one ?_
            simp only [pick, List.map_cons, List.map_nil, Option.map_some, Option.map_none, List.getD_cons_zero, List.getD_cons_succ]
            (repeat (go_big_quiet_step (fail)))
            refine quiet_end ?_
            clear c0 c1
            refine plan_call (by kernel_rfl) (fun K hK => ?_)
            go_simp
            refine (cloneB_any A n c s _ h (by omega)).mono ?_
            rintro e w7 ⟨v7, rfl, o7, hb⟩
            replace o7 := own_mono o7 hbt.size
            obtain ⟨A7, c7, rfl, _⟩ := own_rdB o7
            refine hK.out _ _ hb ?_
            clear hK K
            (try simp only [Act.put, List.setIfInBounds_toArray, List.set_cons_zero, List.set_cons_succ])
            replace h := (h.below hb).more hb.size
            replace h' := (h'.below hb).more hb.size
            replace hv := (hv.below hb).more hb.size
            replace b1 := blk_below b1 hb
            replace b3 := blk_below b3 hb
            replace b2 := blk_below b2 hb
            replace q6 := (q6.below hb).more hb.size
            replace b10 := blk_below b10 hb
            replace b8 := blk_below b8 hb
            replace hbt := hbt.trans (hb.mono hbt.size)
            clear hb
            have c0 : ∀ x : Ext w7.heap.size w7, x.val.cell? ⟨w.heap.size, 0, none⟩ = some (.slice A n c) := fun x => (x.cell (blk_lt b1)).trans (blk_cell b1)
            have c1 : ∀ x : Ext w7.heap.size w7, x.val.cell? ⟨w.heap.size, 1, none⟩ = some (.slice B m d) := fun x => (x.cell (blk_lt b1)).trans (blk_cell b1)
            refine tree_one ?_
            simp only [pick, List.map_cons, List.map_nil, Option.map_some, Option.map_none, List.getD_cons_zero, List.getD_cons_succ]
            (repeat (go_big_quiet_step (fail)))
            refine quiet_end ?_
            clear c0 c1
            refine plan_call (by kernel_rfl) (fun K hK => ?_)
            go_simp
            refine (concat2_any _ B m d o A6 (8 + rl) c6 fb _ b8 h' q6 (by omega) (by omega)).mono ?_
            rintro e w9 ⟨v9, rfl, o9, hb⟩
            replace o9 := own_mono o9 hbt.size
            obtain ⟨A9, c9, rfl, _⟩ := own_rdB o9
            refine hK.out _ _ hb ?_
            clear hK K
            (try simp only [Act.put, List.setIfInBounds_toArray, List.set_cons_zero, List.set_cons_succ])
            replace h := (h.below hb).more hb.size
            replace h' := (h'.below hb).more hb.size
            replace hv := (hv.below hb).more hb.size
            replace b1 := blk_below b1 hb
            replace b3 := blk_below b3 hb
            replace b2 := blk_below b2 hb
            replace q6 := (q6.below hb).more hb.size
            replace b10 := blk_below b10 hb
            replace b8 := blk_below b8 hb
            replace o7 := own_below o7 hb
            replace hbt := hbt.trans (hb.mono hbt.size)
            clear hb
            have c0 : ∀ x : Ext w9.heap.size w9, x.val.cell? ⟨w.heap.size, 0, none⟩ = some (.slice A n c) := fun x => (x.cell (blk_lt b1)).trans (blk_cell b1)
            have c1 : ∀ x : Ext w9.heap.size w9, x.val.cell? ⟨w.heap.size, 1, none⟩ = some (.slice B m d) := fun x => (x.cell (blk_lt b1)).trans (blk_cell b1)
            refine tree_sto ?_
            simp only [pick, List.map_cons, List.map_nil, Option.map_some, Option.map_none, List.getD_cons_zero, List.getD_cons_succ]
            (repeat (go_big_quiet_step (fail)))
            refine quiet_end ?_
            clear c0 c1
            have c0 := blk_cell (j := 0) b10
            simp only [List.getElem?_toArray, List.getElem?_cons_zero, List.getElem?_cons_succ] at c0
            have cf0 := blk_frozen 0 b10
            have c1 := blk_cell (j := 1) b10
            simp only [List.getElem?_toArray, List.getElem?_cons_zero, List.getElem?_cons_succ] at c1
            have cf1 := blk_frozen 1 b10
            refine late_cons ?_
            (repeat (go_big_quiet_step (fail)))
            refine late_nil ?_
            refine late_call (by kernel_rfl) (fun K hK => ?_)
            go_simp
            refine hK.out _ _ ?_
            clear hK K
            (try simp only [Act.put, List.setIfInBounds_toArray, List.set_cons_zero, List.set_cons_succ])
            clear c0 c1 cf0 cf1
            have y10 := blk_set (k := 1) (.slice A9 (m + (8 + rl)) c9) (blk_set (k := 0) (.slice A7 n c7) b10)
            simp only [List.setIfInBounds_toArray, List.set_cons_zero, List.set_cons_succ] at y10
            have y2 := blk_other (p := ⟨i10, 1, none⟩) (.slice A9 (m + (8 + rl)) c9) (blk_other (p := ⟨i10, 0, none⟩) (.slice A7 n c7) b2 (by simp; omega)) (by simp; omega)
            have hb7 := own_blk_ne o7 b10 (by decide)
            have hb9 := own_blk_ne o9 b10 (by decide)
            have y7 := own_set (p := ⟨i10, 1, none⟩) (u := .slice A9 (m + (8 + rl)) c9) (own_set (p := ⟨i10, 0, none⟩) (u := .slice A7 n c7) o7 hb7) hb7
            have y9 := own_set (p := ⟨i10, 1, none⟩) (u := .slice A9 (m + (8 + rl)) c9) (own_set (p := ⟨i10, 0, none⟩) (u := .slice A7 n c7) o9 hb9) hb9
            have hbt := (hbt.setCell (p := ⟨i10, 0, none⟩) hi.1 (.slice A7 n c7)).setCell (p := ⟨i10, 1, none⟩) hi.1 (.slice A9 (m + (8 + rl)) c9)
            generalize (w9.setCell ⟨i10, 0, none⟩ (.slice A7 n c7)).setCell ⟨i10, 1, none⟩ (.slice A9 (m + (8 + rl)) c9) = W11 at *
            refine late_end ?_
            clear b10 b2 hb7 hb9 o7 o9
            have b2 := y2
            clear y2
            have c0 := blk_cell (j := 0) y10
            simp only [List.getElem?_toArray, List.getElem?_cons_zero, List.getElem?_cons_succ] at c0
            have cf0 := blk_frozen 0 y10
            have c1 := blk_cell (j := 1) y10
            simp only [List.getElem?_toArray, List.getElem?_cons_zero, List.getElem?_cons_succ] at c1
            have cf1 := blk_frozen 1 y10
            have e0 := blk_cell (j := 0) b2
            simp only [List.getElem?_toArray, List.getElem?_cons_zero, List.getElem?_cons_succ] at e0
            have ef0 := blk_frozen 0 b2
            have e1 := blk_cell (j := 1) b2
            simp only [List.getElem?_toArray, List.getElem?_cons_zero, List.getElem?_cons_succ] at e1
            have ef1 := blk_frozen 1 b2
            by_cases hsz : 1048576 < n + (m + (8 + rl))
            · rw [if_pos hsz] at HQ2
              have HZ := HQ2
              have dS : decide (1048576 < (n : Int) + ((m : Int) + (8 + (rl : Int)))) = true := by simp; omega
              have dS2 : decide (1048576 < n + (m + (8 + rl))) = true := by simp; omega
              go_wp2_with fail
              have x2 := blk_set (k := 1) (.slice none 0 0) (blk_set (k := 0) (.slice none 0 0) b2)
              simp only [List.setIfInBounds_toArray, List.set_cons_zero, List.set_cons_succ] at x2
              refine bodyPost_ret (results_cell_row2 rfl _ _ (w.heap.size + 1 + 1) 24 #[.slice none 0 0, .slice none 0 0] (0, 0) _ rfl x2 Try.underlying24 rfl infoDisk) rfl ?_
              exact dpost_err HZ.out ((hbt.setCell (p := ⟨w.heap.size + 1 + 1, 0, none⟩) (by simp; omega) _).setCell (p := ⟨w.heap.size + 1 + 1, 1, none⟩) (by simp; omega) _)
            · rw [if_neg hsz] at HQ2
              have dS : decide (1048576 < (n : Int) + ((m : Int) + (8 + (rl : Int)))) = false := by simp; omega
              have dS2 : decide (1048576 < n + (m + (8 + rl))) = false := by simp; omega
              go_wp2_with fail
              have x2 := blk_set (k := 1) (.slice A9 (m + (8 + rl)) c9) (blk_set (k := 0) (.slice A7 n c7) b2)
              simp only [List.setIfInBounds_toArray, List.set_cons_zero, List.set_cons_succ] at x2
              refine bodyPost_ret (results_cell_row2 rfl _ _ (w.heap.size + 1 + 1) 24 #[.slice A7 n c7, .slice A9 (m + (8 + rl)) c9] (0, 0) _ rfl x2 Try.underlying24 rfl infoDisk) rfl ?_
              rw [HQ2.out]
              refine ⟨_, _, rfl, ?_, ?_, ((hbt.setCell (p := ⟨w.heap.size + 1 + 1, 0, none⟩) (by simp; omega) _).setCell (p := ⟨w.heap.size + 1 + 1, 1, none⟩) (by simp; omega) _)⟩
              · dsimp only
                rw [hsl.out]
                exact own_set (own_set y7 (own_blk_ne y7 b2 (by decide))) (own_blk_ne y7 b2 (by decide))
              · dsimp only
                rw [List.length_append, hol.out, HFL.out]
                exact own_set (own_set y9 (own_blk_ne y9 b2 (by decide))) (own_blk_ne y9 b2 (by decide))
      · have HZ : Hid (R = ([], [], 1)) := by show R = _; rw [HQ.out]; exact if_pos (fun hh => hno hh.2)
        have dN : (v.no != (k1 : Int) + (k2 : Int) + 1) = true := by simp; omega
        have c0 := blk_cell (j := 0) b2
        simp only [List.getElem?_toArray, List.getElem?_cons_zero, List.getElem?_cons_succ] at c0
        have cf0 := blk_frozen 0 b2
        have c1 := blk_cell (j := 1) b2
        simp only [List.getElem?_toArray, List.getElem?_cons_zero, List.getElem?_cons_succ] at c1
        have cf1 := blk_frozen 1 b2
        go_wp2_with fail
        have x2 := blk_set (k := 1) (.slice none 0 0) (blk_set (k := 0) (.slice none 0 0) b2)
        simp only [List.setIfInBounds_toArray, List.set_cons_zero, List.set_cons_succ] at x2
        refine bodyPost_ret (results_cell_row2 rfl _ _ (w.heap.size + 1 + 1) 24 #[.slice none 0 0, .slice none 0 0] (0, 0) _ rfl x2 Try.underlying24 rfl infoDisk) rfl ?_
        exact dpost_err HZ.out ((hbt.setCell (p := ⟨w.heap.size + 1 + 1, 0, none⟩) (by simp; omega) _).setCell (p := ⟨w.heap.size + 1 + 1, 1, none⟩) (by simp; omega) _)
    · have HZ : Hid (R = ([], [], 1)) := by show R = _; rw [HQ.out]; exact if_pos (fun hh => hmay hh.1)
      have hmf : Jn.mayB v.no v.cost v.week.length = false := by rw [← HM.out]; simpa using hmay
      rw [hmf]
      clear hmf hmay
      have c0 := blk_cell (j := 0) b2
      simp only [List.getElem?_toArray, List.getElem?_cons_zero, List.getElem?_cons_succ] at c0
      have cf0 := blk_frozen 0 b2
      have c1 := blk_cell (j := 1) b2
      simp only [List.getElem?_toArray, List.getElem?_cons_zero, List.getElem?_cons_succ] at c1
      have cf1 := blk_frozen 1 b2
      go_wp2_with fail
      have x2 := blk_set (k := 1) (.slice none 0 0) (blk_set (k := 0) (.slice none 0 0) b2)
      simp only [List.setIfInBounds_toArray, List.set_cons_zero, List.set_cons_succ] at x2
      refine bodyPost_ret (results_cell_row2 rfl _ _ (w.heap.size + 1 + 1) 24 #[.slice none 0 0, .slice none 0 0] (0, 0) _ rfl x2 Try.underlying24 rfl infoDisk) rfl ?_
      exact dpost_err HZ.out ((hbt.setCell (p := ⟨w.heap.size + 1 + 1, 0, none⟩) (by simp; omega) _).setCell (p := ⟨w.heap.size + 1 + 1, 1, none⟩) (by simp; omega) _)

end Go.Proofs.Ytfacdoemgalodaa
