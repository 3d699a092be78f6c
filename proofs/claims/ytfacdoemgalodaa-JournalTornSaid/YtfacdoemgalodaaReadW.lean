/-
  The walks of the journal's reader.
-/
import Derived.Test.YtfacdoemgalodaaRecW
namespace Go.Proofs.Ytfacdoemgalodaa
open Go.RowKit
set_option linter.unusedVariables false
set_option linter.unusedSimpArgs false

theorem infoVer : (Try.prog.info? 42).map (·.size) = some 4 := by kernel_rfl

set_option maxRecDepth 100000 in
set_option maxHeartbeats 4000000 in
theorem jnumber_any (bR : Nat) (A : Option Addr) (m c : Nat) (l : List UInt8) (at_ er : Int) (w : World) (b : w.heap[bR]? = some (.cells #[.slice A m c, .int .i64 at_, .int .i64 er] 94)) (h : RdB w w.heap.size A m c l) (ha : okI at_) :
    Calls Try.prog 65 #[.pointer (some ⟨bR, 0, none⟩)] w fun e w' => e = .returned (.int .i64 (Jn.nextI l at_ er).1) ∧ w'.heap[bR]? = some (.cells #[.slice A m c, .int .i64 (Jn.nextI l at_ er).2.1, .int .i64 (Jn.nextI l at_ er).2.2] 94) ∧ w.grownBy w' (some bR) := by
  unfold okI at ha
  have c0 := blk_cell (j := 0) b
  simp only [List.getElem?_toArray, List.getElem?_cons_zero, List.getElem?_cons_succ] at c0
  have c1 := blk_cell (j := 1) b
  simp only [List.getElem?_toArray, List.getElem?_cons_zero, List.getElem?_cons_succ] at c1
  have c2 := blk_cell (j := 2) b
  simp only [List.getElem?_toArray, List.getElem?_cons_zero, List.getElem?_cons_succ] at c2
  by_cases he : er = 0
  · subst he
    have HN : Hid (Jn.nextI l at_ 0 = Vi.getI l at_) := by show _ = _; unfold Jn.nextI; rw [if_pos rfl]
    rw [HN.out]
    clear HN
    obtain ⟨G, hG⟩ : ∃ G, Vi.getI l at_ = G := ⟨_, rfl⟩
    rw [hG]
    have HG := Lib.hid hG
    clear hG
    obtain ⟨n, nx, e⟩ := G
    dsimp only
    go_enter Try.func65, Try.ntmps65
    have hbt := Below.refl w.heap.size w
    go_wp2_with fail
    refine wp_region_stage 18 [([0, 1, 2, 3, 4, 5, 6, 7, 8, 9], some 10), ([11, 12, 13, 14, 15, 16, 17], none)] [([], some 18), ([19, 20], some 21)] (by kernel_rfl) (by kernel_rfl) ?_
    intro wd hsz hb
    clear hsz
    replace h := (h.below hb).more hb.size
    replace b := blk_below b hb
    replace hbt := hbt.trans (hb.mono hbt.size)
    clear hb
    simp only [pickP, pick, List.map_cons, List.map_nil, Option.map_some, Option.map_none, List.getD_cons_zero, List.getD_cons_succ]
    clear c0 c1 c2
    have c0 : ∀ x : Ext wd.heap.size wd, x.val.cell? ⟨bR, 0, none⟩ = some (.slice A m c) := fun x => (x.cell (blk_lt b)).trans (blk_cell b)
    have c1 : ∀ x : Ext wd.heap.size wd, x.val.cell? ⟨bR, 1, none⟩ = some (.int .i64 at_) := fun x => (x.cell (blk_lt b)).trans (blk_cell b)
    have c2 : ∀ x : Ext wd.heap.size wd, x.val.cell? ⟨bR, 2, none⟩ = some (.int .i64 0) := fun x => (x.cell (blk_lt b)).trans (blk_cell b)
    refine stage_cons ?_
    (repeat (go_big_quiet_step (fail)))
    refine plan_nil ?_
    refine plan_call (by kernel_rfl) (fun K hK => ?_)
    go_simp
    refine (getInt_any A m c l at_ _ h ha).mono ?_
    rintro e w' ⟨rfl, rfl⟩
    have hb := Below.refl wd.heap.size wd
    refine hK.out _ _ hb ?_
    clear hK K hb
    (try simp only [Act.put, List.setIfInBounds_toArray, List.set_cons_zero, List.set_cons_succ])
    rw [HG.out]
    dsimp only
    refine stage_cons ?_
    (repeat (go_big_quiet_step (fail)))
    refine plan_nil ?_
    refine plan_none (stage_late ?_)
    clear c0 c1 c2
    have c1 := blk_cell (j := 1) b
    simp only [List.getElem?_toArray, List.getElem?_cons_zero, List.getElem?_cons_succ] at c1
    have f1 := blk_frozen 1 b
    refine late_cons ?_
    (repeat (go_big_quiet_step (fail)))
    refine late_nil ?_
    refine late_call (by kernel_rfl) (fun K hK => ?_)
    go_simp
    refine hK.out _ _ ?_
    clear hK K
    (try simp only [Act.put, List.setIfInBounds_toArray, List.set_cons_zero, List.set_cons_succ])
    replace b := blk_set (k := 1) (.int .i64 nx) b
    simp only [List.setIfInBounds_toArray, List.set_cons_zero, List.set_cons_succ] at b
    have hg : w.grownBy (wd.setCell ⟨bR, 1, none⟩ (.int .i64 nx)) (some bR) := grown_set (grown_of_below hbt)
    clear c1 f1 h hbt
    generalize wd.setCell ⟨bR, 1, none⟩ (.int .i64 nx) = w1 at *
    have c1 := blk_cell (j := 2) b
    simp only [List.getElem?_toArray, List.getElem?_cons_zero, List.getElem?_cons_succ] at c1
    have f1 := blk_frozen 2 b
    refine late_cons ?_
    (repeat (go_big_quiet_step (fail)))
    refine late_nil ?_
    refine late_call (by kernel_rfl) (fun K hK => ?_)
    go_simp
    refine hK.out _ _ ?_
    clear hK K
    (try simp only [Act.put, List.setIfInBounds_toArray, List.set_cons_zero, List.set_cons_succ])
    replace b := blk_set (k := 2) (.int .i64 e) b
    simp only [List.setIfInBounds_toArray, List.set_cons_zero, List.set_cons_succ] at b
    replace hg : w.grownBy (w1.setCell ⟨bR, 2, none⟩ (.int .i64 e)) (some bR) := grown_set hg
    clear c1 f1
    generalize w1.setCell ⟨bR, 2, none⟩ (.int .i64 e) = w2 at *
    refine late_end ?_
    go_wp2_with fail
    go_ret
    exact ⟨rfl, b, hg⟩
  · have HN : Hid (Jn.nextI l at_ er = (0, at_, er)) := by show _ = _; unfold Jn.nextI; rw [if_neg he]
    rw [HN.out]
    clear HN
    have d1 : (er == 0) = false := by simp; omega
    go_enter Try.func65, Try.ntmps65
    go_wp2_with fail
    go_ret
    exact ⟨rfl, b, World.grownBy.refl _ _⟩

set_option maxRecDepth 100000 in
set_option maxHeartbeats 4000000 in
theorem jweek_any (bR : Nat) (A : Option Addr) (m c : Nat) (l : List UInt8) (at_ er : Int) (w : World) (b : w.heap[bR]? = some (.cells #[.slice A m c, .int .i64 at_, .int .i64 er] 94)) (h : RdB w w.heap.size A m c l) (ha : okI at_) (hm : m ≤ 1073741824) :
    Calls Try.prog 66 #[.pointer (some ⟨bR, 0, none⟩)] w fun e w' => ∃ v, e = .returned (.agg #[v]) ∧ w'.ownsRow w.heap.size 76 2 v (Jn.nextW l at_ er).1.length (pv (Jn.nextW l at_ er).1) ∧ w'.heap[bR]? = some (.cells #[.slice A m c, .int .i64 (Jn.nextW l at_ er).2.1, .int .i64 (Jn.nextW l at_ er).2.2] 94) ∧ w.grownBy w' (some bR) := by
  unfold okI at ha
  have hbR := blk_lt b
  have hbt := Below.refl w.heap.size w
  obtain ⟨V1, hV⟩ : ∃ V1, V1 = w.alloc (.cells #[.slice none 0 0] 40) := ⟨_, rfl⟩
  have b1 := blk_new hV
  have hb := below_new hV
  replace h := (h.below hb).more hb.size
  replace b := blk_below b hb
  replace hbt := hbt.trans (hb.mono hbt.size)
  clear hb
  have HSV1 : Hid (V1.heap.size = w.heap.size + 1) := by show V1.heap.size = _; rw [hV, World.size_alloc]
  have HVV1 := Lib.hid hV.symm
  clear hV
  rw [← HVV1.out] at b
  have c0 := blk_cell (j := 0) b
  simp only [List.getElem?_toArray, List.getElem?_cons_zero, List.getElem?_cons_succ] at c0
  have c1 := blk_cell (j := 1) b
  simp only [List.getElem?_toArray, List.getElem?_cons_zero, List.getElem?_cons_succ] at c1
  have c2 := blk_cell (j := 2) b
  simp only [List.getElem?_toArray, List.getElem?_cons_zero, List.getElem?_cons_succ] at c2
  by_cases he : er = 0
  · subst he
    have HN : Hid (Jn.nextW l at_ 0 = Vi.getW l at_) := by show _ = _; unfold Jn.nextW; rw [if_pos rfl]
    rw [HN.out]
    clear HN
    obtain ⟨G, hG⟩ : ∃ G, Vi.getW l at_ = G := ⟨_, rfl⟩
    rw [hG]
    have HG := Lib.hid hG
    clear hG
    obtain ⟨ps, nx, e⟩ := G
    dsimp only
    go_enter Try.func66, Try.ntmps66
    go_wp2_with fail
    rw [HVV1.out] at b ⊢
    clear HVV1 c0 c1 c2
    refine wp_region_stage 15 [([0, 1, 2, 3, 4, 5, 6, 7, 8, 9], some 10), ([11, 12, 13, 14], none)] [([], some 15), ([16, 17], some 18), ([19, 20], some 21)] (by kernel_rfl) (by kernel_rfl) ?_
    intro wd hsz hb
    clear hsz
    replace h := (h.below hb).more hb.size
    replace b := blk_below b hb
    replace b1 := blk_below b1 hb
    replace hbt := hbt.trans (hb.mono hbt.size)
    clear hb
    simp only [pickP, pick, List.map_cons, List.map_nil, Option.map_some, Option.map_none, List.getD_cons_zero, List.getD_cons_succ]
    have c0 : ∀ x : Ext wd.heap.size wd, x.val.cell? ⟨bR, 0, none⟩ = some (.slice A m c) := fun x => (x.cell (blk_lt b)).trans (blk_cell b)
    have c1 : ∀ x : Ext wd.heap.size wd, x.val.cell? ⟨bR, 1, none⟩ = some (.int .i64 at_) := fun x => (x.cell (blk_lt b)).trans (blk_cell b)
    have c2 : ∀ x : Ext wd.heap.size wd, x.val.cell? ⟨bR, 2, none⟩ = some (.int .i64 0) := fun x => (x.cell (blk_lt b)).trans (blk_cell b)
    refine stage_cons ?_
    (repeat (go_big_quiet_step (fail)))
    refine plan_nil ?_
    refine plan_call (by kernel_rfl) (fun K hK => ?_)
    go_simp
    refine (wGet_any A m c l at_ _ h ha hm).mono ?_
    rintro e' w3 ⟨v, rfl, ho, hb⟩
    rw [HG.out] at ho ⊢
    dsimp only at ho ⊢
    obtain ⟨Av, cv, rfl, _⟩ := own_rdK ho
    replace ho := own_mono ho hbt.size
    clear c0 c1 c2
    refine hK.out _ _ hb ?_
    clear hK K
    (try simp only [Act.put, List.setIfInBounds_toArray, List.set_cons_zero, List.set_cons_succ])
    replace h := (h.below hb).more hb.size
    replace b := blk_below b hb
    replace b1 := blk_below b1 hb
    replace hbt := hbt.trans (hb.mono hbt.size)
    clear hb
    refine stage_cons ?_
    (repeat (go_big_quiet_step (fail)))
    refine plan_nil ?_
    refine plan_none (stage_late ?_)
    have c1 := blk_cell (j := 0) b1
    simp only [List.getElem?_toArray, List.getElem?_cons_zero, List.getElem?_cons_succ] at c1
    have f1 := blk_frozen 0 b1
    refine late_cons ?_
    (repeat (go_big_quiet_step (fail)))
    refine late_nil ?_
    refine late_call (by kernel_rfl) (fun K hK => ?_)
    go_simp
    refine hK.out _ _ ?_
    clear hK K
    (try simp only [Act.put, List.setIfInBounds_toArray, List.set_cons_zero, List.set_cons_succ])
    have hg : w.grownBy (w3.setCell ⟨w.heap.size, 0, none⟩ (.slice Av ps.length cv)) (some bR) := grown_of_below (hbt.setCell (p := ⟨w.heap.size, 0, none⟩) (Nat.le_refl _) _)
    replace ho := own_set (p := ⟨w.heap.size, 0, none⟩) (u := .slice Av ps.length cv) ho (own_blk_ne ho b1 (by decide))
    replace b := blk_other (p := ⟨w.heap.size, 0, none⟩) (.slice Av ps.length cv) b (by simp; omega)
    replace b1 := blk_set (k := 0) (.slice Av ps.length cv) b1
    simp only [List.setIfInBounds_toArray, List.set_cons_zero, List.set_cons_succ] at b1
    clear c1 f1 h hbt
    generalize w3.setCell ⟨w.heap.size, 0, none⟩ (.slice Av ps.length cv) = w4 at *
    have c1 := blk_cell (j := 1) b
    simp only [List.getElem?_toArray, List.getElem?_cons_zero, List.getElem?_cons_succ] at c1
    have f1 := blk_frozen 1 b
    refine late_cons ?_
    (repeat (go_big_quiet_step (fail)))
    refine late_nil ?_
    refine late_call (by kernel_rfl) (fun K hK => ?_)
    go_simp
    refine hK.out _ _ ?_
    clear hK K
    (try simp only [Act.put, List.setIfInBounds_toArray, List.set_cons_zero, List.set_cons_succ])
    replace ho := own_set (p := ⟨bR, 1, none⟩) (u := .int .i64 nx) ho (own_blk_ne ho b (by decide))
    replace b1 := blk_other (p := ⟨bR, 1, none⟩) (.int .i64 nx) b1 (by simp; omega)
    replace b := blk_set (k := 1) (.int .i64 nx) b
    simp only [List.setIfInBounds_toArray, List.set_cons_zero, List.set_cons_succ] at b
    replace hg : w.grownBy (w4.setCell ⟨bR, 1, none⟩ (.int .i64 nx)) (some bR) := grown_set hg
    clear c1 f1
    generalize w4.setCell ⟨bR, 1, none⟩ (.int .i64 nx) = w5 at *
    have c1 := blk_cell (j := 2) b
    simp only [List.getElem?_toArray, List.getElem?_cons_zero, List.getElem?_cons_succ] at c1
    have f1 := blk_frozen 2 b
    refine late_cons ?_
    (repeat (go_big_quiet_step (fail)))
    refine late_nil ?_
    refine late_call (by kernel_rfl) (fun K hK => ?_)
    go_simp
    refine hK.out _ _ ?_
    clear hK K
    (try simp only [Act.put, List.setIfInBounds_toArray, List.set_cons_zero, List.set_cons_succ])
    replace ho := own_set (p := ⟨bR, 2, none⟩) (u := .int .i64 e) ho (own_blk_ne ho b (by decide))
    replace b1 := blk_other (p := ⟨bR, 2, none⟩) (.int .i64 e) b1 (by simp; omega)
    replace b := blk_set (k := 2) (.int .i64 e) b
    simp only [List.setIfInBounds_toArray, List.set_cons_zero, List.set_cons_succ] at b
    replace hg : w.grownBy (w5.setCell ⟨bR, 2, none⟩ (.int .i64 e)) (some bR) := grown_set hg
    clear c1 f1
    generalize w5.setCell ⟨bR, 2, none⟩ (.int .i64 e) = w6 at *
    refine late_end ?_
    have c1 := blk_cell (j := 0) b1
    simp only [List.getElem?_toArray, List.getElem?_cons_zero, List.getElem?_cons_succ] at c1
    have f1 := blk_frozen 0 b1
    have hend := blk_set (k := 0) (.slice Av ps.length cv) b1
    simp only [List.setIfInBounds_toArray, List.set_cons_zero] at hend
    go_wp2_with fail
    refine bodyPost_ret (results_cell_row rfl _ _ w.heap.size 40 #[.slice Av ps.length cv] (0, 0) _ rfl hend Try.underlying40 rfl infoWeek) rfl ?_
    refine ⟨_, rfl, own_set (p := ⟨w.heap.size, 0, none⟩) ho (own_blk_ne ho b1 (by decide)), blk_other (p := ⟨w.heap.size, 0, none⟩) _ b (by simp; omega), grown_set_new hg (Nat.le_refl _)⟩
  · have HN : Hid (Jn.nextW l at_ er = ([], at_, er)) := by show _ = _; unfold Jn.nextW; rw [if_neg he]
    rw [HN.out]
    clear HN
    have d1 : (er == 0) = false := by simp; omega
    have c3 := blk_cell (j := 0) b1
    simp only [List.getElem?_toArray, List.getElem?_cons_zero, List.getElem?_cons_succ] at c3
    have f3 := blk_frozen 0 b1
    rw [← HVV1.out] at c3 f3 b1
    go_enter Try.func66, Try.ntmps66
    go_wp2_with fail
    refine bodyPost_ret (results_cell_row rfl _ _ w.heap.size 40 #[.slice none 0 0] (0, 0) _ rfl b1 Try.underlying40 rfl infoWeek) rfl ?_
    refine ⟨_, rfl, World.ownsRow_nil _ _ _ _, b, ?_⟩
    rw [HVV1.out]
    exact grown_of_below hbt

end Go.Proofs.Ytfacdoemgalodaa
