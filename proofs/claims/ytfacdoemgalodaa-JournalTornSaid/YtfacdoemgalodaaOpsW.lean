/-
  The walks of the journal's Sync, Crash and Append, and of the reference's.
-/
import Derived.Test.YtfacdoemgalodaaDiskW
import Derived.Test.YtfacdoemgalodaaConcat
import Derived.Test.YtfacdoemgalodaaTree
namespace Go.Proofs.Ytfacdoemgalodaa
open Go.RowKit
set_option linter.unusedVariables false
set_option linter.unusedSimpArgs false

theorem infoDisk : (Try.prog.info? 24).map (·.size) = some 2 := by kernel_rfl
/-- A disk in new memory, and an error. -/
def DPost (R : List UInt8 × List UInt8 × Int) (w : World) (e : Ending) (w' : World) : Prop :=
  ∃ v1 v2, e = .returned (.tuple #[.agg #[v1, v2], .int .i64 R.2.2]) ∧ w'.ownsRow w.heap.size 5 1 v1 R.1.length (bv R.1) ∧ w'.ownsRow w.heap.size 5 1 v2 R.2.1.length (bv R.2.1) ∧ Below w.heap.size w w'
theorem dpost_err {R : List UInt8 × List UInt8 × Int} {er : Int} {w w' : World} (hR : R = ([], [], er)) (hb : Below w.heap.size w w') : DPost R w (.returned (.tuple #[.agg #[.slice none 0 0, .slice none 0 0], .int .i64 er])) w' := by
  subst hR
  exact ⟨_, _, rfl, World.ownsRow_nil _ _ _ _, World.ownsRow_nil _ _ _ _, hb⟩

set_option maxRecDepth 100000 in
set_option maxHeartbeats 4000000 in
theorem jSync_any (A : Option Addr) (n c : Nat) (s : List UInt8) (B : Option Addr) (m d : Nat) (o : List UInt8) (w : World) (h : RdB w w.heap.size A n c s) (h' : RdB w w.heap.size B m d o) (hn : n ≤ 140737488355328) (hm : m ≤ 140737488355328) :
    Calls Try.prog 24 #[.agg #[.slice A n c, .slice B m d]] w (DPost (Jn.syncD s o) w) := by
  have h1 := h.max
  have h2 := h.le
  have h3 := h'.max
  have h4 := h'.le
  obtain ⟨R, hR⟩ : ∃ R, R = Jn.syncD s o := ⟨_, rfl⟩
  rw [← hR]
  have HR := Lib.hid hR
  clear hR
  have hbt := Below.refl w.heap.size w
  have hsl := Lib.hid h.len
  have hol := Lib.hid h'.len
  obtain ⟨V1, hV⟩ : ∃ V1, V1 = w.alloc (.cells #[.slice A n c, .slice B m d] 24) := ⟨_, rfl⟩
  have b1 := blk_new hV
  have hb := below_new hV
  replace h := (h.below hb).more hb.size
  replace h' := (h'.below hb).more hb.size
  replace hbt := hbt.trans (hb.mono hbt.size)
  clear hb
  have HSV1 : Hid (V1.heap.size = w.heap.size + 1) := by show V1.heap.size = _; rw [hV, World.size_alloc]
  have HVV1 := Lib.hid hV.symm
  clear hV
  obtain ⟨V2, hV⟩ : ∃ V2, V2 = V1.alloc (.cells #[.slice none 0 0, .slice none 0 0] 24) := ⟨_, rfl⟩
  have b2 := blk_new hV
  have hb := below_new hV
  replace h := (h.below hb).more hb.size
  replace h' := (h'.below hb).more hb.size
  replace b1 := blk_below b1 hb
  replace hbt := hbt.trans (hb.mono hbt.size)
  clear hb
  have HSV2 : Hid (V2.heap.size = V1.heap.size + 1) := by show V2.heap.size = _; rw [hV, World.size_alloc]
  have HVV2 := Lib.hid hV.symm
  clear hV
  rw [HSV1.out] at b2
  rw [← HVV1.out] at HVV2
  go_enter Try.func24, Try.ntmps24
  have c0 := blk_cell (j := 0) b1
  simp only [List.getElem?_toArray, List.getElem?_cons_zero, List.getElem?_cons_succ] at c0
  have cf0 := blk_frozen 0 b1
  have c1 := blk_cell (j := 1) b1
  simp only [List.getElem?_toArray, List.getElem?_cons_zero, List.getElem?_cons_succ] at c1
  have cf1 := blk_frozen 1 b1
  rw [← HVV2.out] at c0 c1
  go_wp2_with fail
  rw [HVV2.out] at c0 c1 ⊢
  clear HVV2 HVV1 c0 c1 cf0 cf1
  refine (jCheck_any A n c s B m d o V2 h h' hn hm).mono ?_
  rintro e w3 ⟨rfl, hb⟩
  replace h := (h.below hb).more hb.size
  replace h' := (h'.below hb).more hb.size
  replace b1 := blk_below b1 hb
  replace b2 := blk_below b2 hb
  replace hbt := hbt.trans (hb.mono hbt.size)
  clear hb
  by_cases he : (Jn.readD s o).2.2 ≠ 0
  · have HZ : Hid (R = ([], [], (Jn.readD s o).2.2)) := by show R = _; rw [HR.out]; unfold Jn.syncD; rw [if_pos he]
    generalize (Jn.readD s o).2.2 = er at *
    have dE : (er != 0) = true := by simp; omega
    have c0 := blk_cell (j := 0) b2
    simp only [List.getElem?_toArray, List.getElem?_cons_zero, List.getElem?_cons_succ] at c0
    have cf0 := blk_frozen 0 b2
    have c1 := blk_cell (j := 1) b2
    simp only [List.getElem?_toArray, List.getElem?_cons_zero, List.getElem?_cons_succ] at c1
    have cf1 := blk_frozen 1 b2
    go_wp2_with fail
    have x2 := blk_set (k := 1) (.slice none 0 0) (blk_set (k := 0) (.slice none 0 0) b2)
    simp only [List.setIfInBounds_toArray, List.set_cons_zero, List.set_cons_succ] at x2
    refine bodyPost_ret (results_cell_row2 rfl _ _ (w.heap.size + 1) 24 #[.slice none 0 0, .slice none 0 0] (0, 0) _ rfl x2 Try.underlying24 rfl infoDisk) rfl ?_
    exact dpost_err HZ.out ((hbt.setCell (p := ⟨w.heap.size + 1, 0, none⟩) (by simp) _).setCell (p := ⟨w.heap.size + 1, 1, none⟩) (by simp) _)
  · have he0 : (Jn.readD s o).2.2 = 0 := by omega
    have hsm := Jn.readD_small he0
    rw [hsl.out, hol.out] at hsm
    have HZ : Hid (R = (s ++ o, [], 0)) := by show R = _; rw [HR.out]; unfold Jn.syncD; rw [if_neg he]
    rw [he0]
    clear he he0
    have c0 := blk_cell (j := 0) b1
    simp only [List.getElem?_toArray, List.getElem?_cons_zero, List.getElem?_cons_succ] at c0
    have cf0 := blk_frozen 0 b1
    have c1 := blk_cell (j := 1) b1
    simp only [List.getElem?_toArray, List.getElem?_cons_zero, List.getElem?_cons_succ] at c1
    have cf1 := blk_frozen 1 b1
    obtain ⟨V4, hV⟩ : ∃ V4, V4 = w3.alloc (.cells #[.slice A n c, .slice B m d] 22) := ⟨_, rfl⟩
    have b4 := blk_new hV
    have hb := below_new hV
    have HV := Lib.hid hV.symm
    clear hV
    go_wp2_with fail
    rw [HV.out]
    clear HV c0 c1 cf0 cf1
    replace h := (h.below hb).more hb.size
    replace h' := (h'.below hb).more hb.size
    replace b1 := blk_below b1 hb
    replace b2 := blk_below b2 hb
    replace hbt := hbt.trans (hb.mono hbt.size)
    clear hb
    refine (concat2_any w3.heap.size A n c s B m d o V4 b4 h h' (by omega) (by omega)).mono ?_
    rintro e w5 ⟨v, rfl, ho, hb⟩
    replace ho := own_mono ho hbt.size
    obtain ⟨Av, cv, rfl, _⟩ := own_rdB ho
    replace h := (h.below hb).more hb.size
    replace h' := (h'.below hb).more hb.size
    replace b1 := blk_below b1 hb
    replace b2 := blk_below b2 hb
    replace b4 := blk_below b4 hb
    replace hbt := hbt.trans (hb.mono hbt.size)
    clear hb
    have c0 := blk_cell (j := 0) b2
    simp only [List.getElem?_toArray, List.getElem?_cons_zero, List.getElem?_cons_succ] at c0
    have cf0 := blk_frozen 0 b2
    have c1 := blk_cell (j := 1) b2
    simp only [List.getElem?_toArray, List.getElem?_cons_zero, List.getElem?_cons_succ] at c1
    have cf1 := blk_frozen 1 b2
    go_wp2_with fail
    have x2 := blk_set (k := 1) (.slice none 0 0) (blk_set (k := 0) (.slice Av (n + m) cv) b2)
    simp only [List.setIfInBounds_toArray, List.set_cons_zero, List.set_cons_succ] at x2
    refine bodyPost_ret (results_cell_row2 rfl _ _ (w.heap.size + 1) 24 #[.slice Av (n + m) cv, .slice none 0 0] (0, 0) _ rfl x2 Try.underlying24 rfl infoDisk) rfl ?_
    have hbv := own_blk_ne ho b2 (by decide)
    rw [HZ.out]
    refine ⟨_, _, rfl, ?_, World.ownsRow_nil _ _ _ _, ((hbt.setCell (p := ⟨w.heap.size + 1, 0, none⟩) (by simp) _).setCell (p := ⟨w.heap.size + 1, 1, none⟩) (by simp) _)⟩
    dsimp only
    rw [List.length_append, hsl.out, hol.out]
    exact own_set (own_set ho hbv) hbv

set_option maxRecDepth 100000 in
set_option maxHeartbeats 4000000 in
theorem jCrash_any (A : Option Addr) (n c : Nat) (s : List UInt8) (B : Option Addr) (m d : Nat) (o : List UInt8) (keep : Int) (w : World) (h : RdB w w.heap.size A n c s) (h' : RdB w w.heap.size B m d o) (hn : n ≤ 140737488355328) (hm : m ≤ 140737488355328) (hk : okI keep) :
    Calls Try.prog 17 #[.agg #[.slice A n c, .slice B m d], .int .i64 keep] w (DPost (Jn.crashD s o keep) w) := by
  unfold okI at hk
  have h1 := h.max
  have h2 := h.le
  have h3 := h'.max
  have h4 := h'.le
  obtain ⟨R, hR⟩ : ∃ R, R = Jn.crashD s o keep := ⟨_, rfl⟩
  rw [← hR]
  have HR := Lib.hid hR
  clear hR
  have hbt := Below.refl w.heap.size w
  have hsl := Lib.hid h.len
  have hol := Lib.hid h'.len
  obtain ⟨V1, hV⟩ : ∃ V1, V1 = w.alloc (.cells #[.slice A n c, .slice B m d] 24) := ⟨_, rfl⟩
  have b1 := blk_new hV
  have hb := below_new hV
  replace h := (h.below hb).more hb.size
  replace h' := (h'.below hb).more hb.size
  replace hbt := hbt.trans (hb.mono hbt.size)
  clear hb
  have HSV1 : Hid (V1.heap.size = w.heap.size + 1) := by show V1.heap.size = _; rw [hV, World.size_alloc]
  have HVV1 := Lib.hid hV.symm
  clear hV
  obtain ⟨V2, hV⟩ : ∃ V2, V2 = V1.alloc (.cells #[.slice none 0 0, .slice none 0 0] 24) := ⟨_, rfl⟩
  have b2 := blk_new hV
  have hb := below_new hV
  replace h := (h.below hb).more hb.size
  replace h' := (h'.below hb).more hb.size
  replace b1 := blk_below b1 hb
  replace hbt := hbt.trans (hb.mono hbt.size)
  clear hb
  have HSV2 : Hid (V2.heap.size = V1.heap.size + 1) := by show V2.heap.size = _; rw [hV, World.size_alloc]
  have HVV2 := Lib.hid hV.symm
  clear hV
  rw [HSV1.out] at b2
  rw [← HVV1.out] at HVV2
  go_enter Try.func17, Try.ntmps17
  have c0 := blk_cell (j := 0) b1
  simp only [List.getElem?_toArray, List.getElem?_cons_zero, List.getElem?_cons_succ] at c0
  have cf0 := blk_frozen 0 b1
  have c1 := blk_cell (j := 1) b1
  simp only [List.getElem?_toArray, List.getElem?_cons_zero, List.getElem?_cons_succ] at c1
  have cf1 := blk_frozen 1 b1
  rw [← HVV2.out] at c0 c1
  go_wp2_with fail
  rw [HVV2.out] at c0 c1 ⊢
  clear HVV2 HVV1 c0 c1 cf0 cf1
  refine (jCheck_any A n c s B m d o V2 h h' hn hm).mono ?_
  rintro e w3 ⟨rfl, hb⟩
  replace h := (h.below hb).more hb.size
  replace h' := (h'.below hb).more hb.size
  replace b1 := blk_below b1 hb
  replace b2 := blk_below b2 hb
  replace hbt := hbt.trans (hb.mono hbt.size)
  clear hb
  by_cases he : (Jn.readD s o).2.2 ≠ 0
  · have HZ : Hid (R = ([], [], (Jn.readD s o).2.2)) := by show R = _; rw [HR.out]; unfold Jn.crashD; rw [if_pos he]
    generalize (Jn.readD s o).2.2 = er at *
    have dE : (er != 0) = true := by simp; omega
    have c0 := blk_cell (j := 0) b2
    simp only [List.getElem?_toArray, List.getElem?_cons_zero, List.getElem?_cons_succ] at c0
    have cf0 := blk_frozen 0 b2
    have c1 := blk_cell (j := 1) b2
    simp only [List.getElem?_toArray, List.getElem?_cons_zero, List.getElem?_cons_succ] at c1
    have cf1 := blk_frozen 1 b2
    go_wp2_with fail
    have x2 := blk_set (k := 1) (.slice none 0 0) (blk_set (k := 0) (.slice none 0 0) b2)
    simp only [List.setIfInBounds_toArray, List.set_cons_zero, List.set_cons_succ] at x2
    refine bodyPost_ret (results_cell_row2 rfl _ _ (w.heap.size + 1) 24 #[.slice none 0 0, .slice none 0 0] (0, 0) _ rfl x2 Try.underlying24 rfl infoDisk) rfl ?_
    exact dpost_err HZ.out ((hbt.setCell (p := ⟨w.heap.size + 1, 0, none⟩) (by simp) _).setCell (p := ⟨w.heap.size + 1, 1, none⟩) (by simp) _)
  · have he0 : (Jn.readD s o).2.2 = 0 := by omega
    have hsm := Jn.readD_small he0
    rw [hsl.out, hol.out] at hsm
    rw [he0]
    by_cases hk0 : keep < 0
    · have HZ : Hid (R = ([], [], 1)) := by show R = _; rw [HR.out]; unfold Jn.crashD; rw [if_neg he, if_pos hk0]
      clear he he0
      have dK : decide (keep < 0) = true := by simp; omega
      have c0 := blk_cell (j := 0) b2
      simp only [List.getElem?_toArray, List.getElem?_cons_zero, List.getElem?_cons_succ] at c0
      have cf0 := blk_frozen 0 b2
      have c1 := blk_cell (j := 1) b2
      simp only [List.getElem?_toArray, List.getElem?_cons_zero, List.getElem?_cons_succ] at c1
      have cf1 := blk_frozen 1 b2
      go_wp2_with fail
      have x2 := blk_set (k := 1) (.slice none 0 0) (blk_set (k := 0) (.slice none 0 0) b2)
      simp only [List.setIfInBounds_toArray, List.set_cons_zero, List.set_cons_succ] at x2
      refine bodyPost_ret (results_cell_row2 rfl _ _ (w.heap.size + 1) 24 #[.slice none 0 0, .slice none 0 0] (0, 0) _ rfl x2 Try.underlying24 rfl infoDisk) rfl ?_
      exact dpost_err HZ.out ((hbt.setCell (p := ⟨w.heap.size + 1, 0, none⟩) (by simp) _).setCell (p := ⟨w.heap.size + 1, 1, none⟩) (by simp) _)
    · have HZ : Hid (R = (s ++ o.take (Jn.keepN o keep), [], 0)) := by show R = _; rw [HR.out]; unfold Jn.crashD; rw [if_neg he, if_neg hk0]
      clear he he0
      have dK : decide (keep < 0) = false := by simp; omega
      by_cases hkm : keep ≤ (m : Int)
      · obtain ⟨k, rfl⟩ : ∃ k : Nat, keep = k := ⟨keep.toNat, by omega⟩
        have dM : decide ((k : Int) ≤ (m : Int)) = true := by simp; omega
        have HKN : Hid (Jn.keepN o (k : Int) = Jn.goodN (o.take k)) := by show _ = _; unfold Jn.keepN; rw [hol.out, show (min (k : Int) (m : Int)).toNat = k by omega]
        have hgl := Jn.goodN_le (o.take k)
        rw [List.length_take, hol.out] at hgl
        have hsc := Jn.scanL_len (o.take k)
        rw [List.length_take, hol.out] at hsc
        have c0 := blk_cell (j := 0) b1
        simp only [List.getElem?_toArray, List.getElem?_cons_zero, List.getElem?_cons_succ] at c0
        have cf0 := blk_frozen 0 b1
        have c1 := blk_cell (j := 1) b1
        simp only [List.getElem?_toArray, List.getElem?_cons_zero, List.getElem?_cons_succ] at c1
        have cf1 := blk_frozen 1 b1
        go_wp2_with fail
        clear c0 c1 cf0 cf1
        refine (scan_any B k d (o.take k) (Jn.scanL (o.take k)) w3 (h'.upto (by omega)) (by omega) (Jn.scanL_ok _) (by omega)).mono ?_
        intro e w4 hpost
        obtain ⟨v, rfl, hs, hb⟩ := hpost.own
        obtain ⟨As, cs, rfl, _⟩ := hs.rd
        clear hpost hs
        have hG : (((Jn.scanL (o.take k)).getLast?.map (·.2)).getD 0) = Jn.goodN (o.take k) := rfl
        rw [hG]
        clear hG
        replace h := (h.below hb).more hb.size
        replace h' := (h'.below hb).more hb.size
        replace b1 := blk_below b1 hb
        replace b2 := blk_below b2 hb
        replace hbt := hbt.trans (hb.mono hbt.size)
        clear hb
        generalize Jn.goodN (o.take k) = G at *
        generalize List.length (List.map (fun x => x.fst) (Jn.scanL (o.take k))) = sl at *
        have hGm : G ≤ m := by omega
        go_wp2_with fail
        refine wp_region_stage 10 [([0, 1, 2, 3, 4, 5, 9], some 6), ([], some 7), ([8], none)] [([], some 10), ([11], none)] (by kernel_rfl) (by kernel_rfl) ?_
        intro wd hsz hb
        clear hsz
        replace h := (h.below hb).more hb.size
        replace h' := (h'.below hb).more hb.size
        replace b1 := blk_below b1 hb
        replace b2 := blk_below b2 hb
        replace hbt := hbt.trans (hb.mono hbt.size)
        clear hb
        simp only [pickP, pick, List.map_cons, List.map_nil, Option.map_some, Option.map_none, List.getD_cons_zero, List.getD_cons_succ]
        have c0 : ∀ x : Ext wd.heap.size wd, x.val.cell? ⟨w.heap.size, 0, none⟩ = some (.slice A n c) := fun x => (x.cell (blk_lt b1)).trans (blk_cell b1)
        have c1 : ∀ x : Ext wd.heap.size wd, x.val.cell? ⟨w.heap.size, 1, none⟩ = some (.slice B m d) := fun x => (x.cell (blk_lt b1)).trans (blk_cell b1)
        refine stage_cons ?_
        (repeat (go_big_quiet_step (fail)))
        refine plan_nil ?_
        clear c0 c1
        refine plan_call (by kernel_rfl) (fun K hK => ?_)
        go_simp
        obtain ⟨V5, hV⟩ : ∃ V5, V5 = wd.alloc (.cells #[.slice A n c, .slice B G d] 22) := ⟨_, rfl⟩
        have b5 := blk_new hV
        have hb := below_new hV
        rw [← hV]
        clear hV
        refine hK.out _ _ hb ?_
        clear hK K
        (try simp only [Act.put, List.setIfInBounds_toArray, List.set_cons_zero, List.set_cons_succ])
        replace h := (h.below hb).more hb.size
        replace h' := (h'.below hb).more hb.size
        replace b1 := blk_below b1 hb
        replace b2 := blk_below b2 hb
        replace hbt := hbt.trans (hb.mono hbt.size)
        clear hb
        refine stage_cons ?_
        (repeat (go_big_quiet_step (fail)))
        refine plan_nil ?_
        refine plan_call (by kernel_rfl) (fun K hK => ?_)
        go_simp
        refine (concat2_any wd.heap.size A n c s B G d (o.take G) _ b5 h (h'.upto hGm) (by omega) (by omega)).mono ?_
        rintro e w6 ⟨v, rfl, ho, hb⟩
        replace ho := own_mono ho hbt.size
        obtain ⟨Av, cv, rfl, _⟩ := own_rdB ho
        refine hK.out _ _ hb ?_
        clear hK K
        (try simp only [Act.put, List.setIfInBounds_toArray, List.set_cons_zero, List.set_cons_succ])
        replace h := (h.below hb).more hb.size
        replace h' := (h'.below hb).more hb.size
        replace b1 := blk_below b1 hb
        replace b2 := blk_below b2 hb
        replace b5 := blk_below b5 hb
        replace hbt := hbt.trans (hb.mono hbt.size)
        clear hb
        refine stage_cons ?_
        (repeat (go_big_quiet_step (fail)))
        refine plan_nil ?_
        refine plan_none (stage_late ?_)
        have c0 := blk_cell (j := 0) b2
        simp only [List.getElem?_toArray, List.getElem?_cons_zero, List.getElem?_cons_succ] at c0
        have cf0 := blk_frozen 0 b2
        have c1 := blk_cell (j := 1) b2
        simp only [List.getElem?_toArray, List.getElem?_cons_zero, List.getElem?_cons_succ] at c1
        have cf1 := blk_frozen 1 b2
        refine late_cons ?_
        (repeat (go_big_quiet_step (fail)))
        refine late_nil ?_
        refine late_call (by kernel_rfl) (fun K hK => ?_)
        go_simp
        refine hK.out _ _ ?_
        clear hK K
        (try simp only [Act.put, List.setIfInBounds_toArray, List.set_cons_zero, List.set_cons_succ])
        clear c0 c1 cf0 cf1
        refine late_cons ?_
        (repeat (go_big_quiet_step (fail)))
        refine late_nil ?_
        refine late_none ?_
        go_wp2_with fail
        have x2 := blk_set (k := 1) (.slice none 0 0) (blk_set (k := 0) (.slice Av (n + G) cv) b2)
        simp only [List.setIfInBounds_toArray, List.set_cons_zero, List.set_cons_succ] at x2
        refine bodyPost_ret (results_cell_row2 rfl _ _ (w.heap.size + 1) 24 #[.slice Av (n + G) cv, .slice none 0 0] (0, 0) _ rfl x2 Try.underlying24 rfl infoDisk) rfl ?_
        have hbv := own_blk_ne ho b2 (by decide)
        rw [HZ.out]
        refine ⟨_, _, rfl, ?_, World.ownsRow_nil _ _ _ _, ((hbt.setCell (p := ⟨w.heap.size + 1, 0, none⟩) (by simp) _).setCell (p := ⟨w.heap.size + 1, 1, none⟩) (by simp) _)⟩
        dsimp only
        rw [HKN.out, List.length_append, List.length_take, hsl.out, hol.out, Nat.min_eq_left hGm]
        exact own_set (own_set ho hbv) hbv
      · have dM : decide (keep ≤ (m : Int)) = false := by simp; omega
        have HKN : Hid (Jn.keepN o keep = Jn.goodN (o.take m)) := by show _ = _; unfold Jn.keepN; rw [hol.out, show (min keep (m : Int)).toNat = m by omega]
        have hgl := Jn.goodN_le (o.take m)
        rw [List.length_take, hol.out] at hgl
        have hsc := Jn.scanL_len (o.take m)
        rw [List.length_take, hol.out] at hsc
        have c0 := blk_cell (j := 0) b1
        simp only [List.getElem?_toArray, List.getElem?_cons_zero, List.getElem?_cons_succ] at c0
        have cf0 := blk_frozen 0 b1
        have c1 := blk_cell (j := 1) b1
        simp only [List.getElem?_toArray, List.getElem?_cons_zero, List.getElem?_cons_succ] at c1
        have cf1 := blk_frozen 1 b1
        go_wp2_with fail
        clear c0 c1 cf0 cf1
        refine (scan_any B m d (o.take m) (Jn.scanL (o.take m)) w3 (h'.upto (by omega)) (by omega) (Jn.scanL_ok _) (by omega)).mono ?_
        intro e w4 hpost
        obtain ⟨v, rfl, hs, hb⟩ := hpost.own
        obtain ⟨As, cs, rfl, _⟩ := hs.rd
        clear hpost hs
        have hG : (((Jn.scanL (o.take m)).getLast?.map (·.2)).getD 0) = Jn.goodN (o.take m) := rfl
        rw [hG]
        clear hG
        replace h := (h.below hb).more hb.size
        replace h' := (h'.below hb).more hb.size
        replace b1 := blk_below b1 hb
        replace b2 := blk_below b2 hb
        replace hbt := hbt.trans (hb.mono hbt.size)
        clear hb
        generalize Jn.goodN (o.take m) = G at *
        generalize List.length (List.map (fun x => x.fst) (Jn.scanL (o.take m))) = sl at *
        have hGm : G ≤ m := by omega
        go_wp2_with fail
        refine wp_region_stage 10 [([0, 1, 2, 3, 4, 5, 9], some 6), ([], some 7), ([8], none)] [([], some 10), ([11], none)] (by kernel_rfl) (by kernel_rfl) ?_
        intro wd hsz hb
        clear hsz
        replace h := (h.below hb).more hb.size
        replace h' := (h'.below hb).more hb.size
        replace b1 := blk_below b1 hb
        replace b2 := blk_below b2 hb
        replace hbt := hbt.trans (hb.mono hbt.size)
        clear hb
        simp only [pickP, pick, List.map_cons, List.map_nil, Option.map_some, Option.map_none, List.getD_cons_zero, List.getD_cons_succ]
        have c0 : ∀ x : Ext wd.heap.size wd, x.val.cell? ⟨w.heap.size, 0, none⟩ = some (.slice A n c) := fun x => (x.cell (blk_lt b1)).trans (blk_cell b1)
        have c1 : ∀ x : Ext wd.heap.size wd, x.val.cell? ⟨w.heap.size, 1, none⟩ = some (.slice B m d) := fun x => (x.cell (blk_lt b1)).trans (blk_cell b1)
        refine stage_cons ?_
        (repeat (go_big_quiet_step (fail)))
        refine plan_nil ?_
        clear c0 c1
        refine plan_call (by kernel_rfl) (fun K hK => ?_)
        go_simp
        obtain ⟨V5, hV⟩ : ∃ V5, V5 = wd.alloc (.cells #[.slice A n c, .slice B G d] 22) := ⟨_, rfl⟩
        have b5 := blk_new hV
        have hb := below_new hV
        rw [← hV]
        clear hV
        refine hK.out _ _ hb ?_
        clear hK K
        (try simp only [Act.put, List.setIfInBounds_toArray, List.set_cons_zero, List.set_cons_succ])
        replace h := (h.below hb).more hb.size
        replace h' := (h'.below hb).more hb.size
        replace b1 := blk_below b1 hb
        replace b2 := blk_below b2 hb
        replace hbt := hbt.trans (hb.mono hbt.size)
        clear hb
        refine stage_cons ?_
        (repeat (go_big_quiet_step (fail)))
        refine plan_nil ?_
        refine plan_call (by kernel_rfl) (fun K hK => ?_)
        go_simp
        refine (concat2_any wd.heap.size A n c s B G d (o.take G) _ b5 h (h'.upto hGm) (by omega) (by omega)).mono ?_
        rintro e w6 ⟨v, rfl, ho, hb⟩
        replace ho := own_mono ho hbt.size
        obtain ⟨Av, cv, rfl, _⟩ := own_rdB ho
        refine hK.out _ _ hb ?_
        clear hK K
        (try simp only [Act.put, List.setIfInBounds_toArray, List.set_cons_zero, List.set_cons_succ])
        replace h := (h.below hb).more hb.size
        replace h' := (h'.below hb).more hb.size
        replace b1 := blk_below b1 hb
        replace b2 := blk_below b2 hb
        replace b5 := blk_below b5 hb
        replace hbt := hbt.trans (hb.mono hbt.size)
        clear hb
        refine stage_cons ?_
        (repeat (go_big_quiet_step (fail)))
        refine plan_nil ?_
        refine plan_none (stage_late ?_)
        have c0 := blk_cell (j := 0) b2
        simp only [List.getElem?_toArray, List.getElem?_cons_zero, List.getElem?_cons_succ] at c0
        have cf0 := blk_frozen 0 b2
        have c1 := blk_cell (j := 1) b2
        simp only [List.getElem?_toArray, List.getElem?_cons_zero, List.getElem?_cons_succ] at c1
        have cf1 := blk_frozen 1 b2
        refine late_cons ?_
        (repeat (go_big_quiet_step (fail)))
        refine late_nil ?_
        refine late_call (by kernel_rfl) (fun K hK => ?_)
        go_simp
        refine hK.out _ _ ?_
        clear hK K
        (try simp only [Act.put, List.setIfInBounds_toArray, List.set_cons_zero, List.set_cons_succ])
        clear c0 c1 cf0 cf1
        refine late_cons ?_
        (repeat (go_big_quiet_step (fail)))
        refine late_nil ?_
        refine late_none ?_
        go_wp2_with fail
        have x2 := blk_set (k := 1) (.slice none 0 0) (blk_set (k := 0) (.slice Av (n + G) cv) b2)
        simp only [List.setIfInBounds_toArray, List.set_cons_zero, List.set_cons_succ] at x2
        refine bodyPost_ret (results_cell_row2 rfl _ _ (w.heap.size + 1) 24 #[.slice Av (n + G) cv, .slice none 0 0] (0, 0) _ rfl x2 Try.underlying24 rfl infoDisk) rfl ?_
        have hbv := own_blk_ne ho b2 (by decide)
        rw [HZ.out]
        refine ⟨_, _, rfl, ?_, World.ownsRow_nil _ _ _ _, ((hbt.setCell (p := ⟨w.heap.size + 1, 0, none⟩) (by simp) _).setCell (p := ⟨w.heap.size + 1, 1, none⟩) (by simp) _)⟩
        dsimp only
        rw [HKN.out, List.length_append, List.length_take, hsl.out, hol.out, Nat.min_eq_left hGm]
        exact own_set (own_set ho hbv) hbv

set_option maxRecDepth 100000 in
set_option maxHeartbeats 4000000 in
theorem rSync_any (A : Option Addr) (n c : Nat) (s : List UInt8) (B : Option Addr) (m d : Nat) (o : List UInt8) (w : World) (h : RdB w w.heap.size A n c s) (h' : RdB w w.heap.size B m d o) (hn : n ≤ 140737488355328) (hm : m ≤ 140737488355328) :
    Calls Try.prog 25 #[.agg #[.slice A n c, .slice B m d]] w (DPost (Jn.syncD s o) w) := by
  have h1 := h.max
  have h2 := h.le
  have h3 := h'.max
  have h4 := h'.le
  obtain ⟨R, hR⟩ : ∃ R, R = Jn.syncD s o := ⟨_, rfl⟩
  rw [← hR]
  have HR := Lib.hid hR
  clear hR
  have hbt := Below.refl w.heap.size w
  have hsl := Lib.hid h.len
  have hol := Lib.hid h'.len
  obtain ⟨V1, hV⟩ : ∃ V1, V1 = w.alloc (.cells #[.slice A n c, .slice B m d] 24) := ⟨_, rfl⟩
  have b1 := blk_new hV
  have hb := below_new hV
  replace h := (h.below hb).more hb.size
  replace h' := (h'.below hb).more hb.size
  replace hbt := hbt.trans (hb.mono hbt.size)
  clear hb
  have HSV1 : Hid (V1.heap.size = w.heap.size + 1) := by show V1.heap.size = _; rw [hV, World.size_alloc]
  have HVV1 := Lib.hid hV.symm
  clear hV
  obtain ⟨V2, hV⟩ : ∃ V2, V2 = V1.alloc (.cells #[.slice none 0 0, .slice none 0 0] 24) := ⟨_, rfl⟩
  have b2 := blk_new hV
  have hb := below_new hV
  replace h := (h.below hb).more hb.size
  replace h' := (h'.below hb).more hb.size
  replace b1 := blk_below b1 hb
  replace hbt := hbt.trans (hb.mono hbt.size)
  clear hb
  have HSV2 : Hid (V2.heap.size = V1.heap.size + 1) := by show V2.heap.size = _; rw [hV, World.size_alloc]
  have HVV2 := Lib.hid hV.symm
  clear hV
  rw [HSV1.out] at b2
  rw [← HVV1.out] at HVV2
  go_enter Try.func25, Try.ntmps25
  have c0 := blk_cell (j := 0) b1
  simp only [List.getElem?_toArray, List.getElem?_cons_zero, List.getElem?_cons_succ] at c0
  have cf0 := blk_frozen 0 b1
  have c1 := blk_cell (j := 1) b1
  simp only [List.getElem?_toArray, List.getElem?_cons_zero, List.getElem?_cons_succ] at c1
  have cf1 := blk_frozen 1 b1
  rw [← HVV2.out] at c0 c1
  go_wp2_with fail
  rw [HVV2.out] at c0 c1 ⊢
  clear HVV2 HVV1 c0 c1 cf0 cf1
  refine (rCheck_any A n c s B m d o V2 h h' hn hm).mono ?_
  rintro e w3 ⟨rfl, hb⟩
  replace h := (h.below hb).more hb.size
  replace h' := (h'.below hb).more hb.size
  replace b1 := blk_below b1 hb
  replace b2 := blk_below b2 hb
  replace hbt := hbt.trans (hb.mono hbt.size)
  clear hb
  by_cases he : (Jn.readD s o).2.2 ≠ 0
  · have HZ : Hid (R = ([], [], (Jn.readD s o).2.2)) := by show R = _; rw [HR.out]; unfold Jn.syncD; rw [if_pos he]
    generalize (Jn.readD s o).2.2 = er at *
    have dE : (er != 0) = true := by simp; omega
    have c0 := blk_cell (j := 0) b2
    simp only [List.getElem?_toArray, List.getElem?_cons_zero, List.getElem?_cons_succ] at c0
    have cf0 := blk_frozen 0 b2
    have c1 := blk_cell (j := 1) b2
    simp only [List.getElem?_toArray, List.getElem?_cons_zero, List.getElem?_cons_succ] at c1
    have cf1 := blk_frozen 1 b2
    go_wp2_with fail
    have x2 := blk_set (k := 1) (.slice none 0 0) (blk_set (k := 0) (.slice none 0 0) b2)
    simp only [List.setIfInBounds_toArray, List.set_cons_zero, List.set_cons_succ] at x2
    refine bodyPost_ret (results_cell_row2 rfl _ _ (w.heap.size + 1) 24 #[.slice none 0 0, .slice none 0 0] (0, 0) _ rfl x2 Try.underlying24 rfl infoDisk) rfl ?_
    exact dpost_err HZ.out ((hbt.setCell (p := ⟨w.heap.size + 1, 0, none⟩) (by simp) _).setCell (p := ⟨w.heap.size + 1, 1, none⟩) (by simp) _)
  · have he0 : (Jn.readD s o).2.2 = 0 := by omega
    have hsm := Jn.readD_small he0
    rw [hsl.out, hol.out] at hsm
    have HZ : Hid (R = (s ++ o, [], 0)) := by show R = _; rw [HR.out]; unfold Jn.syncD; rw [if_neg he]
    rw [he0]
    clear he he0
    have c0 := blk_cell (j := 0) b1
    simp only [List.getElem?_toArray, List.getElem?_cons_zero, List.getElem?_cons_succ] at c0
    have cf0 := blk_frozen 0 b1
    have c1 := blk_cell (j := 1) b1
    simp only [List.getElem?_toArray, List.getElem?_cons_zero, List.getElem?_cons_succ] at c1
    have cf1 := blk_frozen 1 b1
    go_wp2_with fail
    clear c0 c1 cf0 cf1
    refine (rjoin_any A n c s B m d o w3 h h' (by omega) (by omega)).mono ?_
    rintro e w5 ⟨v, rfl, ho, hb⟩
    replace ho := own_mono ho hbt.size
    obtain ⟨Av, cv, rfl, _⟩ := own_rdB ho
    replace h := (h.below hb).more hb.size
    replace h' := (h'.below hb).more hb.size
    replace b1 := blk_below b1 hb
    replace b2 := blk_below b2 hb
    replace hbt := hbt.trans (hb.mono hbt.size)
    clear hb
    have c0 := blk_cell (j := 0) b2
    simp only [List.getElem?_toArray, List.getElem?_cons_zero, List.getElem?_cons_succ] at c0
    have cf0 := blk_frozen 0 b2
    have c1 := blk_cell (j := 1) b2
    simp only [List.getElem?_toArray, List.getElem?_cons_zero, List.getElem?_cons_succ] at c1
    have cf1 := blk_frozen 1 b2
    go_wp2_with fail
    have x2 := blk_set (k := 1) (.slice none 0 0) (blk_set (k := 0) (.slice Av (n + m) cv) b2)
    simp only [List.setIfInBounds_toArray, List.set_cons_zero, List.set_cons_succ] at x2
    refine bodyPost_ret (results_cell_row2 rfl _ _ (w.heap.size + 1) 24 #[.slice Av (n + m) cv, .slice none 0 0] (0, 0) _ rfl x2 Try.underlying24 rfl infoDisk) rfl ?_
    have hbv := own_blk_ne ho b2 (by decide)
    rw [HZ.out]
    refine ⟨_, _, rfl, ?_, World.ownsRow_nil _ _ _ _, ((hbt.setCell (p := ⟨w.heap.size + 1, 0, none⟩) (by simp) _).setCell (p := ⟨w.heap.size + 1, 1, none⟩) (by simp) _)⟩
    dsimp only
    rw [List.length_append, hsl.out, hol.out]
    exact own_set (own_set ho hbv) hbv

set_option maxRecDepth 100000 in
set_option maxHeartbeats 4000000 in
theorem rCrash_any (A : Option Addr) (n c : Nat) (s : List UInt8) (B : Option Addr) (m d : Nat) (o : List UInt8) (keep : Int) (w : World) (h : RdB w w.heap.size A n c s) (h' : RdB w w.heap.size B m d o) (hn : n ≤ 140737488355328) (hm : m ≤ 140737488355328) (hk : okI keep) :
    Calls Try.prog 18 #[.agg #[.slice A n c, .slice B m d], .int .i64 keep] w (DPost (Jn.crashD s o keep) w) := by
  unfold okI at hk
  have h1 := h.max
  have h2 := h.le
  have h3 := h'.max
  have h4 := h'.le
  obtain ⟨R, hR⟩ : ∃ R, R = Jn.crashD s o keep := ⟨_, rfl⟩
  rw [← hR]
  have HR := Lib.hid hR
  clear hR
  have hbt := Below.refl w.heap.size w
  have hsl := Lib.hid h.len
  have hol := Lib.hid h'.len
  obtain ⟨V1, hV⟩ : ∃ V1, V1 = w.alloc (.cells #[.slice A n c, .slice B m d] 24) := ⟨_, rfl⟩
  have b1 := blk_new hV
  have hb := below_new hV
  replace h := (h.below hb).more hb.size
  replace h' := (h'.below hb).more hb.size
  replace hbt := hbt.trans (hb.mono hbt.size)
  clear hb
  have HSV1 : Hid (V1.heap.size = w.heap.size + 1) := by show V1.heap.size = _; rw [hV, World.size_alloc]
  have HVV1 := Lib.hid hV.symm
  clear hV
  obtain ⟨V2, hV⟩ : ∃ V2, V2 = V1.alloc (.cells #[.slice none 0 0, .slice none 0 0] 24) := ⟨_, rfl⟩
  have b2 := blk_new hV
  have hb := below_new hV
  replace h := (h.below hb).more hb.size
  replace h' := (h'.below hb).more hb.size
  replace b1 := blk_below b1 hb
  replace hbt := hbt.trans (hb.mono hbt.size)
  clear hb
  have HSV2 : Hid (V2.heap.size = V1.heap.size + 1) := by show V2.heap.size = _; rw [hV, World.size_alloc]
  have HVV2 := Lib.hid hV.symm
  clear hV
  rw [HSV1.out] at b2
  rw [← HVV1.out] at HVV2
  go_enter Try.func18, Try.ntmps18
  have c0 := blk_cell (j := 0) b1
  simp only [List.getElem?_toArray, List.getElem?_cons_zero, List.getElem?_cons_succ] at c0
  have cf0 := blk_frozen 0 b1
  have c1 := blk_cell (j := 1) b1
  simp only [List.getElem?_toArray, List.getElem?_cons_zero, List.getElem?_cons_succ] at c1
  have cf1 := blk_frozen 1 b1
  rw [← HVV2.out] at c0 c1
  go_wp2_with fail
  rw [HVV2.out] at c0 c1 ⊢
  clear HVV2 HVV1 c0 c1 cf0 cf1
  refine (rCheck_any A n c s B m d o V2 h h' hn hm).mono ?_
  rintro e w3 ⟨rfl, hb⟩
  replace h := (h.below hb).more hb.size
  replace h' := (h'.below hb).more hb.size
  replace b1 := blk_below b1 hb
  replace b2 := blk_below b2 hb
  replace hbt := hbt.trans (hb.mono hbt.size)
  clear hb
  by_cases he : (Jn.readD s o).2.2 ≠ 0
  · have HZ : Hid (R = ([], [], (Jn.readD s o).2.2)) := by show R = _; rw [HR.out]; unfold Jn.crashD; rw [if_pos he]
    generalize (Jn.readD s o).2.2 = er at *
    have dE : (er != 0) = true := by simp; omega
    have c0 := blk_cell (j := 0) b2
    simp only [List.getElem?_toArray, List.getElem?_cons_zero, List.getElem?_cons_succ] at c0
    have cf0 := blk_frozen 0 b2
    have c1 := blk_cell (j := 1) b2
    simp only [List.getElem?_toArray, List.getElem?_cons_zero, List.getElem?_cons_succ] at c1
    have cf1 := blk_frozen 1 b2
    go_wp2_with fail
    have x2 := blk_set (k := 1) (.slice none 0 0) (blk_set (k := 0) (.slice none 0 0) b2)
    simp only [List.setIfInBounds_toArray, List.set_cons_zero, List.set_cons_succ] at x2
    refine bodyPost_ret (results_cell_row2 rfl _ _ (w.heap.size + 1) 24 #[.slice none 0 0, .slice none 0 0] (0, 0) _ rfl x2 Try.underlying24 rfl infoDisk) rfl ?_
    exact dpost_err HZ.out ((hbt.setCell (p := ⟨w.heap.size + 1, 0, none⟩) (by simp) _).setCell (p := ⟨w.heap.size + 1, 1, none⟩) (by simp) _)
  · have he0 : (Jn.readD s o).2.2 = 0 := by omega
    have hsm := Jn.readD_small he0
    rw [hsl.out, hol.out] at hsm
    rw [he0]
    by_cases hk0 : keep < 0
    · have HZ : Hid (R = ([], [], 1)) := by show R = _; rw [HR.out]; unfold Jn.crashD; rw [if_neg he, if_pos hk0]
      clear he he0
      have dK : decide (keep < 0) = true := by simp; omega
      have c0 := blk_cell (j := 0) b2
      simp only [List.getElem?_toArray, List.getElem?_cons_zero, List.getElem?_cons_succ] at c0
      have cf0 := blk_frozen 0 b2
      have c1 := blk_cell (j := 1) b2
      simp only [List.getElem?_toArray, List.getElem?_cons_zero, List.getElem?_cons_succ] at c1
      have cf1 := blk_frozen 1 b2
      go_wp2_with fail
      have x2 := blk_set (k := 1) (.slice none 0 0) (blk_set (k := 0) (.slice none 0 0) b2)
      simp only [List.setIfInBounds_toArray, List.set_cons_zero, List.set_cons_succ] at x2
      refine bodyPost_ret (results_cell_row2 rfl _ _ (w.heap.size + 1) 24 #[.slice none 0 0, .slice none 0 0] (0, 0) _ rfl x2 Try.underlying24 rfl infoDisk) rfl ?_
      exact dpost_err HZ.out ((hbt.setCell (p := ⟨w.heap.size + 1, 0, none⟩) (by simp) _).setCell (p := ⟨w.heap.size + 1, 1, none⟩) (by simp) _)
    · have HZ : Hid (R = (s ++ o.take (Jn.keepN o keep), [], 0)) := by show R = _; rw [HR.out]; unfold Jn.crashD; rw [if_neg he, if_neg hk0]
      clear he he0
      have dK : decide (keep < 0) = false := by simp; omega
      by_cases hkm : keep ≤ (m : Int)
      · obtain ⟨k, rfl⟩ : ∃ k : Nat, keep = k := ⟨keep.toNat, by omega⟩
        have dM : decide ((k : Int) ≤ (m : Int)) = true := by simp; omega
        have HKN : Hid (Jn.keepN o (k : Int) = Jn.goodN (o.take k)) := by show _ = _; unfold Jn.keepN; rw [hol.out, show (min (k : Int) (m : Int)).toNat = k by omega]
        have hgl := Jn.goodN_le (o.take k)
        rw [List.length_take, hol.out] at hgl
        have hsc := Jn.scanL_len (o.take k)
        rw [List.length_take, hol.out] at hsc
        have c0 := blk_cell (j := 0) b1
        simp only [List.getElem?_toArray, List.getElem?_cons_zero, List.getElem?_cons_succ] at c0
        have cf0 := blk_frozen 0 b1
        have c1 := blk_cell (j := 1) b1
        simp only [List.getElem?_toArray, List.getElem?_cons_zero, List.getElem?_cons_succ] at c1
        have cf1 := blk_frozen 1 b1
        go_wp2_with fail
        clear c0 c1 cf0 cf1
        refine (rscan_any B k d (o.take k) (Jn.scanL (o.take k)) w3 (h'.upto (by omega)) (by omega) (Jn.scanL_ok _) (by omega)).mono ?_
        intro e w4 hpost
        obtain ⟨v, rfl, hs, hb⟩ := hpost.own
        obtain ⟨As, cs, rfl, _⟩ := hs.rd
        clear hpost hs
        have hG : (((Jn.scanL (o.take k)).getLast?.map (·.2)).getD 0) = Jn.goodN (o.take k) := rfl
        rw [hG]
        clear hG
        replace h := (h.below hb).more hb.size
        replace h' := (h'.below hb).more hb.size
        replace b1 := blk_below b1 hb
        replace b2 := blk_below b2 hb
        replace hbt := hbt.trans (hb.mono hbt.size)
        clear hb
        generalize Jn.goodN (o.take k) = G at *
        generalize List.length (List.map (fun x => x.fst) (Jn.scanL (o.take k))) = sl at *
        have hGm : G ≤ m := by omega
        go_wp2_with fail
        refine wp_region_stage 8 [([0, 1, 2, 3, 4, 5], some 6), ([7], none)] [([], some 8), ([9], none)] (by kernel_rfl) (by kernel_rfl) ?_
        intro wd hsz hb
        clear hsz
        replace h := (h.below hb).more hb.size
        replace h' := (h'.below hb).more hb.size
        replace b1 := blk_below b1 hb
        replace b2 := blk_below b2 hb
        replace hbt := hbt.trans (hb.mono hbt.size)
        clear hb
        simp only [pickP, pick, List.map_cons, List.map_nil, Option.map_some, Option.map_none, List.getD_cons_zero, List.getD_cons_succ]
        have c0 : ∀ x : Ext wd.heap.size wd, x.val.cell? ⟨w.heap.size, 0, none⟩ = some (.slice A n c) := fun x => (x.cell (blk_lt b1)).trans (blk_cell b1)
        have c1 : ∀ x : Ext wd.heap.size wd, x.val.cell? ⟨w.heap.size, 1, none⟩ = some (.slice B m d) := fun x => (x.cell (blk_lt b1)).trans (blk_cell b1)
        refine stage_cons ?_
        (repeat (go_big_quiet_step (fail)))
        refine plan_nil ?_
        clear c0 c1
        refine plan_call (by kernel_rfl) (fun K hK => ?_)
        go_simp
        refine (rjoin_any A n c s B G d (o.take G) _ h (h'.upto hGm) (by omega) (by omega)).mono ?_
        rintro e w6 ⟨v, rfl, ho, hb⟩
        replace ho := own_mono ho hbt.size
        obtain ⟨Av, cv, rfl, _⟩ := own_rdB ho
        refine hK.out _ _ hb ?_
        clear hK K
        (try simp only [Act.put, List.setIfInBounds_toArray, List.set_cons_zero, List.set_cons_succ])
        replace h := (h.below hb).more hb.size
        replace h' := (h'.below hb).more hb.size
        replace b1 := blk_below b1 hb
        replace b2 := blk_below b2 hb
        replace hbt := hbt.trans (hb.mono hbt.size)
        clear hb
        refine stage_cons ?_
        (repeat (go_big_quiet_step (fail)))
        refine plan_nil ?_
        refine plan_none (stage_late ?_)
        have c0 := blk_cell (j := 0) b2
        simp only [List.getElem?_toArray, List.getElem?_cons_zero, List.getElem?_cons_succ] at c0
        have cf0 := blk_frozen 0 b2
        have c1 := blk_cell (j := 1) b2
        simp only [List.getElem?_toArray, List.getElem?_cons_zero, List.getElem?_cons_succ] at c1
        have cf1 := blk_frozen 1 b2
        refine late_cons ?_
        (repeat (go_big_quiet_step (fail)))
        refine late_nil ?_
        refine late_call (by kernel_rfl) (fun K hK => ?_)
        go_simp
        refine hK.out _ _ ?_
        clear hK K
        (try simp only [Act.put, List.setIfInBounds_toArray, List.set_cons_zero, List.set_cons_succ])
        clear c0 c1 cf0 cf1
        refine late_cons ?_
        (repeat (go_big_quiet_step (fail)))
        refine late_nil ?_
        refine late_none ?_
        go_wp2_with fail
        have x2 := blk_set (k := 1) (.slice none 0 0) (blk_set (k := 0) (.slice Av (n + G) cv) b2)
        simp only [List.setIfInBounds_toArray, List.set_cons_zero, List.set_cons_succ] at x2
        refine bodyPost_ret (results_cell_row2 rfl _ _ (w.heap.size + 1) 24 #[.slice Av (n + G) cv, .slice none 0 0] (0, 0) _ rfl x2 Try.underlying24 rfl infoDisk) rfl ?_
        have hbv := own_blk_ne ho b2 (by decide)
        rw [HZ.out]
        refine ⟨_, _, rfl, ?_, World.ownsRow_nil _ _ _ _, ((hbt.setCell (p := ⟨w.heap.size + 1, 0, none⟩) (by simp) _).setCell (p := ⟨w.heap.size + 1, 1, none⟩) (by simp) _)⟩
        dsimp only
        rw [HKN.out, List.length_append, List.length_take, hsl.out, hol.out, Nat.min_eq_left hGm]
        exact own_set (own_set ho hbv) hbv
      · have dM : decide (keep ≤ (m : Int)) = false := by simp; omega
        have HKN : Hid (Jn.keepN o keep = Jn.goodN (o.take m)) := by show _ = _; unfold Jn.keepN; rw [hol.out, show (min keep (m : Int)).toNat = m by omega]
        have hgl := Jn.goodN_le (o.take m)
        rw [List.length_take, hol.out] at hgl
        have hsc := Jn.scanL_len (o.take m)
        rw [List.length_take, hol.out] at hsc
        have c0 := blk_cell (j := 0) b1
        simp only [List.getElem?_toArray, List.getElem?_cons_zero, List.getElem?_cons_succ] at c0
        have cf0 := blk_frozen 0 b1
        have c1 := blk_cell (j := 1) b1
        simp only [List.getElem?_toArray, List.getElem?_cons_zero, List.getElem?_cons_succ] at c1
        have cf1 := blk_frozen 1 b1
        go_wp2_with fail
        clear c0 c1 cf0 cf1
        refine (rscan_any B m d (o.take m) (Jn.scanL (o.take m)) w3 (h'.upto (by omega)) (by omega) (Jn.scanL_ok _) (by omega)).mono ?_
        intro e w4 hpost
        obtain ⟨v, rfl, hs, hb⟩ := hpost.own
        obtain ⟨As, cs, rfl, _⟩ := hs.rd
        clear hpost hs
        have hG : (((Jn.scanL (o.take m)).getLast?.map (·.2)).getD 0) = Jn.goodN (o.take m) := rfl
        rw [hG]
        clear hG
        replace h := (h.below hb).more hb.size
        replace h' := (h'.below hb).more hb.size
        replace b1 := blk_below b1 hb
        replace b2 := blk_below b2 hb
        replace hbt := hbt.trans (hb.mono hbt.size)
        clear hb
        generalize Jn.goodN (o.take m) = G at *
        generalize List.length (List.map (fun x => x.fst) (Jn.scanL (o.take m))) = sl at *
        have hGm : G ≤ m := by omega
        go_wp2_with fail
        refine wp_region_stage 8 [([0, 1, 2, 3, 4, 5], some 6), ([7], none)] [([], some 8), ([9], none)] (by kernel_rfl) (by kernel_rfl) ?_
        intro wd hsz hb
        clear hsz
        replace h := (h.below hb).more hb.size
        replace h' := (h'.below hb).more hb.size
        replace b1 := blk_below b1 hb
        replace b2 := blk_below b2 hb
        replace hbt := hbt.trans (hb.mono hbt.size)
        clear hb
        simp only [pickP, pick, List.map_cons, List.map_nil, Option.map_some, Option.map_none, List.getD_cons_zero, List.getD_cons_succ]
        have c0 : ∀ x : Ext wd.heap.size wd, x.val.cell? ⟨w.heap.size, 0, none⟩ = some (.slice A n c) := fun x => (x.cell (blk_lt b1)).trans (blk_cell b1)
        have c1 : ∀ x : Ext wd.heap.size wd, x.val.cell? ⟨w.heap.size, 1, none⟩ = some (.slice B m d) := fun x => (x.cell (blk_lt b1)).trans (blk_cell b1)
        refine stage_cons ?_
        (repeat (go_big_quiet_step (fail)))
        refine plan_nil ?_
        clear c0 c1
        refine plan_call (by kernel_rfl) (fun K hK => ?_)
        go_simp
        refine (rjoin_any A n c s B G d (o.take G) _ h (h'.upto hGm) (by omega) (by omega)).mono ?_
        rintro e w6 ⟨v, rfl, ho, hb⟩
        replace ho := own_mono ho hbt.size
        obtain ⟨Av, cv, rfl, _⟩ := own_rdB ho
        refine hK.out _ _ hb ?_
        clear hK K
        (try simp only [Act.put, List.setIfInBounds_toArray, List.set_cons_zero, List.set_cons_succ])
        replace h := (h.below hb).more hb.size
        replace h' := (h'.below hb).more hb.size
        replace b1 := blk_below b1 hb
        replace b2 := blk_below b2 hb
        replace hbt := hbt.trans (hb.mono hbt.size)
        clear hb
        refine stage_cons ?_
        (repeat (go_big_quiet_step (fail)))
        refine plan_nil ?_
        refine plan_none (stage_late ?_)
        have c0 := blk_cell (j := 0) b2
        simp only [List.getElem?_toArray, List.getElem?_cons_zero, List.getElem?_cons_succ] at c0
        have cf0 := blk_frozen 0 b2
        have c1 := blk_cell (j := 1) b2
        simp only [List.getElem?_toArray, List.getElem?_cons_zero, List.getElem?_cons_succ] at c1
        have cf1 := blk_frozen 1 b2
        refine late_cons ?_
        (repeat (go_big_quiet_step (fail)))
        refine late_nil ?_
        refine late_call (by kernel_rfl) (fun K hK => ?_)
        go_simp
        refine hK.out _ _ ?_
        clear hK K
        (try simp only [Act.put, List.setIfInBounds_toArray, List.set_cons_zero, List.set_cons_succ])
        clear c0 c1 cf0 cf1
        refine late_cons ?_
        (repeat (go_big_quiet_step (fail)))
        refine late_nil ?_
        refine late_none ?_
        go_wp2_with fail
        have x2 := blk_set (k := 1) (.slice none 0 0) (blk_set (k := 0) (.slice Av (n + G) cv) b2)
        simp only [List.setIfInBounds_toArray, List.set_cons_zero, List.set_cons_succ] at x2
        refine bodyPost_ret (results_cell_row2 rfl _ _ (w.heap.size + 1) 24 #[.slice Av (n + G) cv, .slice none 0 0] (0, 0) _ rfl x2 Try.underlying24 rfl infoDisk) rfl ?_
        have hbv := own_blk_ne ho b2 (by decide)
        rw [HZ.out]
        refine ⟨_, _, rfl, ?_, World.ownsRow_nil _ _ _ _, ((hbt.setCell (p := ⟨w.heap.size + 1, 0, none⟩) (by simp) _).setCell (p := ⟨w.heap.size + 1, 1, none⟩) (by simp) _)⟩
        dsimp only
        rw [HKN.out, List.length_append, List.length_take, hsl.out, hol.out, Nat.min_eq_left hGm]
        exact own_set (own_set ho hbv) hbv

end Go.Proofs.Ytfacdoemgalodaa
