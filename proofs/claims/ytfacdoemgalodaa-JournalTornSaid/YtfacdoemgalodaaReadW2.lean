/-
  The walks of the journal's read and of the reference's.
-/
import Derived.Test.YtfacdoemgalodaaReadW
namespace Go.Proofs.Ytfacdoemgalodaa
open Go.RowKit
set_option linter.unusedVariables false
set_option linter.unusedSimpArgs false

/-- A version in new memory, and whether the record reads. -/
def ReadPost (r : Option Ver) (w : World) (e : Ending) (w' : World) : Prop :=
  ∃ no v cost bst ps, e = .returned (.tuple #[.agg #[.int .i64 no, v, .int .i64 cost, .bool bst], .bool r.isSome]) ∧ w'.ownsRow w.heap.size 76 2 v ps.length (pv ps) ∧ okPs ps ∧ okI no ∧ okI cost ∧ (∀ u, r = some u → u = ⟨no, ps, cost, bst⟩) ∧ Below w.heap.size w w'

set_option maxRecDepth 100000 in
set_option maxHeartbeats 4000000 in
theorem jread_any (A : Option Addr) (m c : Nat) (l : List UInt8) (w : World) (h : RdB w w.heap.size A m c l) (hm : m ≤ 1073741824) :
    Calls Try.prog 50 #[.slice A m c] w (ReadPost (Jn.readV l) w) := by
  have h1 := h.max
  have h2 := h.le
  have hlen := Lib.hid h.len
  have hll : l.length ≤ 1073741824 := by rw [hlen.out]; exact hm
  have k1 := Jn.nextI_ok (l := l) (a := 0) 0 (by unfold okI; omega) hll
  have k2 := Jn.nextW_ok (l := l) (a := (Jn.st1 l).2.1) (Jn.st1 l).2.2 k1.2 hll
  have k3 := Jn.nextI_ok (l := l) (a := (Jn.st2 l).2.1) (Jn.st2 l).2.2 k2.2 hll
  have k4 := Jn.nextI_ok (l := l) (a := (Jn.st3 l).2.1) (Jn.st3 l).2.2 k3.2 hll
  have e1 : Jn.nextI l 0 0 = Jn.st1 l := rfl
  have e2 : Jn.nextW l (Jn.st1 l).2.1 (Jn.st1 l).2.2 = Jn.st2 l := rfl
  have e3 : Jn.nextI l (Jn.st2 l).2.1 (Jn.st2 l).2.2 = Jn.st3 l := rfl
  have e4 : Jn.nextI l (Jn.st3 l).2.1 (Jn.st3 l).2.2 = Jn.st4 l := rfl
  rw [e1] at k1
  rw [e2] at k2
  rw [e3] at k3
  rw [e4] at k4
  have HR := Lib.hid (Jn.readV_st l)
  rw [hlen.out] at HR
  generalize Jn.readV l = R at *
  generalize Jn.st1 l = s1 at *
  generalize Jn.st2 l = s2 at *
  generalize Jn.st3 l = s3 at *
  generalize Jn.st4 l = s4 at *
  obtain ⟨no, a1, er1⟩ := s1
  obtain ⟨ps, a2, er2⟩ := s2
  obtain ⟨cost, a3, er3⟩ := s3
  obtain ⟨best, a4, er4⟩ := s4
  dsimp only at *
  have E1 := Lib.hid e1
  clear e1
  have E2 := Lib.hid e2
  clear e2
  have E3 := Lib.hid e3
  clear e3
  have E4 := Lib.hid e4
  clear e4
  clear hll
  have hbt := Below.refl w.heap.size w
  have h0 := h
  obtain ⟨V1, hV⟩ : ∃ V1, V1 = w.alloc (.cells #[.int .i64 0, .slice none 0 0, .int .i64 0, .bool false] 42) := ⟨_, rfl⟩
  have b1 := blk_new hV
  have hb := below_new hV
  replace hbt := hbt.trans (hb.mono hbt.size)
  clear hb
  have HSV1 : Hid (V1.heap.size = w.heap.size + 1) := by show V1.heap.size = _; rw [hV, World.size_alloc]
  have HVV1 := Lib.hid hV.symm
  clear hV
  obtain ⟨V2, hV⟩ : ∃ V2, V2 = V1.alloc (.cells #[.slice A m c, .int .i64 0, .int .i64 0] 94) := ⟨_, rfl⟩
  have b2 := blk_new hV
  have hb := below_new hV
  replace b1 := blk_below b1 hb
  replace hbt := hbt.trans (hb.mono hbt.size)
  clear hb
  have HSV2 : Hid (V2.heap.size = V1.heap.size + 1) := by show V2.heap.size = _; rw [hV, World.size_alloc]
  have HVV2 := Lib.hid hV.symm
  clear hV
  rw [← HVV1.out] at HVV2
  have hz1 : w.heap.size < w.heap.size + 1 := by omega
  rw [HSV1.out] at b2
  go_enter Try.func50, Try.ntmps50
  go_wp2_with fail
  rw [HVV2.out]
  clear HVV2 HVV1 HSV1 HSV2
  generalize w.heap.size + 1 = bR at *
  refine (jnumber_any bR A m c l 0 0 V2 b2 ((h0.below hbt).more hbt.size) (by unfold okI; omega)).mono ?_
  rintro e w3 ⟨rfl, b3, hg⟩
  rw [E1.out] at b3 ⊢
  dsimp only at b3 ⊢
  clear b2
  replace b1 := blk_grown b1 hg (by simp; omega)
  replace hbt := hbt.grown hg hbt.size (fun g hg => by cases hg; omega)

  clear hg
  go_wp2_with fail
  refine (jweek_any bR A m c l a1 er1 w3 b3 ((h0.below hbt).more hbt.size) k1.2 hm).mono ?_
  rintro e w4 ⟨v, rfl, ho, b4, hg⟩
  rw [E2.out] at ho b4
  dsimp only at ho b4
  replace ho := own_mono ho hbt.size
  clear b3
  replace b1 := blk_grown b1 hg (by simp; omega)
  replace hbt := hbt.grown hg hbt.size (fun g hg => by cases hg; omega)

  clear hg
  obtain ⟨Av, cv, rfl, _⟩ := own_rdK ho
  go_wp2_with fail
  refine (jnumber_any bR A m c l a2 er2 w4 b4 ((h0.below hbt).more hbt.size) k2.2).mono ?_
  rintro e w5 ⟨rfl, b5, hg⟩
  rw [E3.out] at b5 ⊢
  dsimp only at b5 ⊢
  replace ho := own_grown' ho hg (fun g hg' e => own_blk_ne ho b4 (by decide) g hg' (by injection e with e; exact e.symm))
  clear b4
  replace b1 := blk_grown b1 hg (by simp; omega)
  replace hbt := hbt.grown hg hbt.size (fun g hg => by cases hg; omega)

  clear hg
  have c0 := blk_cell (j := 0) b1
  have c1 := blk_cell (j := 1) b1
  have c2 := blk_cell (j := 2) b1
  simp only [List.getElem?_toArray, List.getElem?_cons_zero, List.getElem?_cons_succ] at c0 c1 c2
  have f0 := blk_frozen 0 b1
  have f1 := blk_frozen 1 b1
  have f2 := blk_frozen 2 b1
  go_wp2_with fail
  have hbv := own_blk_ne ho b1 (by decide)
  obtain ⟨W6, hW⟩ : ∃ W6, W6 = ((w5.setCell ⟨w.heap.size, 0, none⟩ (.int .i64 no)).setCell ⟨w.heap.size, 1, none⟩ (.slice Av ps.length cv)).setCell ⟨w.heap.size, 2, none⟩ (.int .i64 cost) := ⟨_, rfl⟩
  have x1 := blk_set (k := 2) (.int .i64 cost) (blk_set (k := 1) (.slice Av ps.length cv) (blk_set (k := 0) (.int .i64 no) b1))
  simp only [List.setIfInBounds_toArray, List.set_cons_zero, List.set_cons_succ] at x1
  have x5 := blk_other (p := ⟨w.heap.size, 2, none⟩) (.int .i64 cost) (blk_other (p := ⟨w.heap.size, 1, none⟩) (.slice Av ps.length cv) (blk_other (p := ⟨w.heap.size, 0, none⟩) (.int .i64 no) b5 (by simp; omega)) (by simp; omega)) (by simp; omega)
  have xo := own_set (p := ⟨w.heap.size, 2, none⟩) (u := .int .i64 cost) (own_set (p := ⟨w.heap.size, 1, none⟩) (u := .slice Av ps.length cv) (own_set (p := ⟨w.heap.size, 0, none⟩) (u := .int .i64 no) ho hbv) hbv) hbv
  have xb : Below w.heap.size w _ := ((hbt.setCell (p := ⟨w.heap.size, 0, none⟩) (Nat.le_refl _) (.int .i64 no)).setCell (p := ⟨w.heap.size, 1, none⟩) (Nat.le_refl _) (.slice Av ps.length cv)).setCell (p := ⟨w.heap.size, 2, none⟩) (Nat.le_refl _) (.int .i64 cost)
  rw [← hW] at x1 x5 xo xb ⊢
  clear hW c0 c1 c2 f0 f1 f2 b1 b5 ho hbt hbv
  have hbt := xb
  clear xb
  refine (jnumber_any bR A m c l a3 er3 W6 x5 ((h0.below hbt).more hbt.size) k3.2).mono ?_
  rintro e w7 ⟨rfl, b7, hg⟩
  rw [E4.out] at b7 ⊢
  dsimp only at b7 ⊢
  replace xo := own_grown' xo hg (fun g hg' e => own_blk_ne xo x5 (by decide) g hg' (by injection e with e; exact e.symm))
  have b1 := x1
  clear x1 x5
  replace b1 := blk_grown b1 hg (by simp; omega)
  replace hbt := hbt.grown hg hbt.size (fun g hg => by cases hg; omega)

  clear hg
  have c3 := blk_cell (j := 3) b1
  simp only [List.getElem?_toArray, List.getElem?_cons_zero, List.getElem?_cons_succ] at c3
  have f3 := blk_frozen 3 b1
  go_wp2_with fail
  obtain ⟨W8, hW⟩ : ∃ W8, W8 = w7.setCell ⟨w.heap.size, 3, none⟩ (.bool (best == 1)) := ⟨_, rfl⟩
  have x1 := blk_set (k := 3) (.bool (best == 1)) b1
  simp only [List.setIfInBounds_toArray, List.set_cons_zero, List.set_cons_succ] at x1
  have x7 := blk_other (p := ⟨w.heap.size, 3, none⟩) (.bool (best == 1)) b7 (by simp; omega)
  replace xo := own_set (p := ⟨w.heap.size, 3, none⟩) (u := .bool (best == 1)) xo (own_blk_ne xo b1 (by decide))
  replace hbt := hbt.setCell (p := ⟨w.heap.size, 3, none⟩) (Nat.le_refl _) (.bool (best == 1))
  rw [← hW] at x1 x7 xo hbt ⊢
  clear hW c3 f3 b1 b7
  generalize hbb : (best == 1) = bb at *
  have HBB : Hid (decide (best = 1) = bb) := by show _ = _; rw [← hbb]; rfl
  clear hbb
  by_cases he : er4 = 0
  · by_cases hl : a4 = (m : Int)
    · by_cases hw : 0 ≤ best ∧ best ≤ 1
      · have dA : (er4 == 0) = true := by simp; omega
        have dB : (a4 == (m : Int)) = true := by simp; omega
        refine wp_region_stage 23 [([0, 1, 2, 3, 4, 5, 6, 7, 8, 9, 10, 11, 12, 13, 14, 15, 16], some 17), ([18, 19, 20], some 21), ([22], none)] [([], some 23), ([24], none)] (by kernel_rfl) (by kernel_rfl) ?_
        intro wd hsz hb
        clear hsz
        replace x1 := blk_below x1 hb
        replace x7 := blk_below x7 hb
        replace xo := own_below xo hb
        replace hbt := hbt.trans (hb.mono hbt.size)
        clear hb
        simp only [pickP, pick, List.map_cons, List.map_nil, Option.map_some, Option.map_none, List.getD_cons_zero, List.getD_cons_succ]
        have c0 : ∀ x : Ext wd.heap.size wd, x.val.cell? ⟨w.heap.size, 0, none⟩ = some (.int .i64 no) := fun x => (x.cell (blk_lt x1)).trans (blk_cell x1)
        have c1 : ∀ x : Ext wd.heap.size wd, x.val.cell? ⟨w.heap.size, 1, none⟩ = some (.slice Av ps.length cv) := fun x => (x.cell (blk_lt x1)).trans (blk_cell x1)
        have c2 : ∀ x : Ext wd.heap.size wd, x.val.cell? ⟨w.heap.size, 2, none⟩ = some (.int .i64 cost) := fun x => (x.cell (blk_lt x1)).trans (blk_cell x1)
        have c3 : ∀ x : Ext wd.heap.size wd, x.val.cell? ⟨w.heap.size, 3, none⟩ = some (.bool bb) := fun x => (x.cell (blk_lt x1)).trans (blk_cell x1)
        have d1 : ∀ x : Ext wd.heap.size wd, x.val.cell? ⟨bR, 1, none⟩ = some (.int .i64 a4) := fun x => (x.cell (blk_lt x7)).trans (blk_cell x7)
        have d2 : ∀ x : Ext wd.heap.size wd, x.val.cell? ⟨bR, 2, none⟩ = some (.int .i64 er4) := fun x => (x.cell (blk_lt x7)).trans (blk_cell x7)
        refine stage_cons ?_
        (repeat (go_big_quiet_step (fail)))
        refine plan_nil ?_
        clear c0 c1 c2 c3 d1 d2
        refine plan_call (by kernel_rfl) (fun K hK => ?_)
        go_simp
        refine (jwithin_any best 0 1 _).mono ?_
        rintro e w' ⟨rfl, rfl⟩
        have hb := Below.refl wd.heap.size wd
        refine hK.out _ _ hb ?_
        clear hK K hb
        (try simp only [Act.put, List.setIfInBounds_toArray, List.set_cons_zero, List.set_cons_succ])
        rw [decide_eq_true hw]
        have c0 : ∀ x : Ext wd.heap.size wd, x.val.cell? ⟨w.heap.size, 0, none⟩ = some (.int .i64 no) := fun x => (x.cell (blk_lt x1)).trans (blk_cell x1)
        have c1 : ∀ x : Ext wd.heap.size wd, x.val.cell? ⟨w.heap.size, 1, none⟩ = some (.slice Av ps.length cv) := fun x => (x.cell (blk_lt x1)).trans (blk_cell x1)
        have c2 : ∀ x : Ext wd.heap.size wd, x.val.cell? ⟨w.heap.size, 2, none⟩ = some (.int .i64 cost) := fun x => (x.cell (blk_lt x1)).trans (blk_cell x1)
        have c3 : ∀ x : Ext wd.heap.size wd, x.val.cell? ⟨w.heap.size, 3, none⟩ = some (.bool bb) := fun x => (x.cell (blk_lt x1)).trans (blk_cell x1)
        have d1 : ∀ x : Ext wd.heap.size wd, x.val.cell? ⟨bR, 1, none⟩ = some (.int .i64 a4) := fun x => (x.cell (blk_lt x7)).trans (blk_cell x7)
        have d2 : ∀ x : Ext wd.heap.size wd, x.val.cell? ⟨bR, 2, none⟩ = some (.int .i64 er4) := fun x => (x.cell (blk_lt x7)).trans (blk_cell x7)
        refine stage_cons ?_
        (repeat (go_big_quiet_step (fail)))
        refine plan_nil ?_
        clear c0 c1 c2 c3 d1 d2
        refine plan_call (by kernel_rfl) (fun K hK => ?_)
        go_simp
        refine (jmay_any no cost Av ps.length cv bb _).mono ?_
        rintro e w9 ⟨rfl, hb⟩
        refine hK.out _ _ hb ?_
        clear hK K
        (try simp only [Act.put, List.setIfInBounds_toArray, List.set_cons_zero, List.set_cons_succ])
        replace x1 := blk_below x1 hb
        replace x7 := blk_below x7 hb
        replace xo := own_below xo hb
        replace hbt := hbt.trans (hb.mono hbt.size)
        clear hb
        have c0 : ∀ x : Ext w9.heap.size w9, x.val.cell? ⟨w.heap.size, 0, none⟩ = some (.int .i64 no) := fun x => (x.cell (blk_lt x1)).trans (blk_cell x1)
        have c1 : ∀ x : Ext w9.heap.size w9, x.val.cell? ⟨w.heap.size, 1, none⟩ = some (.slice Av ps.length cv) := fun x => (x.cell (blk_lt x1)).trans (blk_cell x1)
        have c2 : ∀ x : Ext w9.heap.size w9, x.val.cell? ⟨w.heap.size, 2, none⟩ = some (.int .i64 cost) := fun x => (x.cell (blk_lt x1)).trans (blk_cell x1)
        have c3 : ∀ x : Ext w9.heap.size w9, x.val.cell? ⟨w.heap.size, 3, none⟩ = some (.bool bb) := fun x => (x.cell (blk_lt x1)).trans (blk_cell x1)
        have d1 : ∀ x : Ext w9.heap.size w9, x.val.cell? ⟨bR, 1, none⟩ = some (.int .i64 a4) := fun x => (x.cell (blk_lt x7)).trans (blk_cell x7)
        have d2 : ∀ x : Ext w9.heap.size w9, x.val.cell? ⟨bR, 2, none⟩ = some (.int .i64 er4) := fun x => (x.cell (blk_lt x7)).trans (blk_cell x7)
        refine stage_cons ?_
        (repeat (go_big_quiet_step (fail)))
        refine plan_nil ?_
        clear c0 c1 c2 c3 d1 d2
        refine plan_none (stage_late ?_)
        have c0 := blk_cell (j := 0) x1
        simp only [List.getElem?_toArray, List.getElem?_cons_zero, List.getElem?_cons_succ] at c0
        have f0 := blk_frozen 0 x1
        have c1 := blk_cell (j := 1) x1
        simp only [List.getElem?_toArray, List.getElem?_cons_zero, List.getElem?_cons_succ] at c1
        have f1 := blk_frozen 1 x1
        have c2 := blk_cell (j := 2) x1
        simp only [List.getElem?_toArray, List.getElem?_cons_zero, List.getElem?_cons_succ] at c2
        have f2 := blk_frozen 2 x1
        have c3 := blk_cell (j := 3) x1
        simp only [List.getElem?_toArray, List.getElem?_cons_zero, List.getElem?_cons_succ] at c3
        have f3 := blk_frozen 3 x1
        refine late_cons ?_
        (repeat (go_big_quiet_step (fail)))
        refine late_nil ?_
        refine late_call (by kernel_rfl) (fun K hK => ?_)
        go_simp
        refine hK.out _ _ ?_
        clear hK K
        (try simp only [Act.put, List.setIfInBounds_toArray, List.set_cons_zero, List.set_cons_succ])
        clear c0 c1 c2 c3 f0 f1 f2 f3
        refine late_cons ?_
        (repeat (go_big_quiet_step (fail)))
        refine late_nil ?_
        refine late_none ?_
        go_wp2_with fail
        have x2 := blk_set (k := 3) (.bool bb) (blk_set (k := 2) (.int .i64 cost) (blk_set (k := 1) (.slice Av ps.length cv) (blk_set (k := 0) (.int .i64 no) x1)))
        simp only [List.setIfInBounds_toArray, List.set_cons_zero, List.set_cons_succ] at x2
        refine bodyPost_ret (results_cell_row2 rfl _ _ w.heap.size 42 #[.int .i64 no, .slice Av ps.length cv, .int .i64 cost, .bool bb] (0, 0) _ rfl x2 Try.underlying42 rfl infoVer) rfl ?_
        have hbv := own_blk_ne xo x1 (by decide)
        refine ⟨no, _, cost, bb, ps, ?_, own_set (own_set (own_set (own_set xo hbv) hbv) hbv) hbv, k2.1, k1.1, k3.1, fun u hu => ?_, (((hbt.setCell (p := ⟨w.heap.size, 0, none⟩) (Nat.le_refl _) _).setCell (p := ⟨w.heap.size, 1, none⟩) (Nat.le_refl _) _).setCell (p := ⟨w.heap.size, 2, none⟩) (Nat.le_refl _) _).setCell (p := ⟨w.heap.size, 3, none⟩) (Nat.le_refl _) _⟩
        · rw [HR.out]
          by_cases hmb : Jn.mayB no cost ps.length = true
          · rw [if_pos ⟨he, hl, hw, hmb⟩, hmb]; rfl
          · rw [if_neg (fun hh => hmb hh.2.2.2)]; simp at hmb; rw [hmb]; rfl
        · rw [HR.out] at hu
          split at hu
          · injection hu with hu; rw [← hu, HBB.out]
          · cases hu
      · have dA : (er4 == 0) = true := by simp; omega
        have dB : (a4 == (m : Int)) = true := by simp; omega
        refine wp_region_stage 23 [([0, 1, 2, 3, 4, 5, 6, 7, 8, 9, 10, 11, 12, 13, 14, 15, 16], some 17), ([18, 19, 20], some 21), ([22], none)] [([], some 23), ([24], none)] (by kernel_rfl) (by kernel_rfl) ?_
        intro wd hsz hb
        clear hsz
        replace x1 := blk_below x1 hb
        replace x7 := blk_below x7 hb
        replace xo := own_below xo hb
        replace hbt := hbt.trans (hb.mono hbt.size)
        clear hb
        simp only [pickP, pick, List.map_cons, List.map_nil, Option.map_some, Option.map_none, List.getD_cons_zero, List.getD_cons_succ]
        have c0 : ∀ x : Ext wd.heap.size wd, x.val.cell? ⟨w.heap.size, 0, none⟩ = some (.int .i64 no) := fun x => (x.cell (blk_lt x1)).trans (blk_cell x1)
        have c1 : ∀ x : Ext wd.heap.size wd, x.val.cell? ⟨w.heap.size, 1, none⟩ = some (.slice Av ps.length cv) := fun x => (x.cell (blk_lt x1)).trans (blk_cell x1)
        have c2 : ∀ x : Ext wd.heap.size wd, x.val.cell? ⟨w.heap.size, 2, none⟩ = some (.int .i64 cost) := fun x => (x.cell (blk_lt x1)).trans (blk_cell x1)
        have c3 : ∀ x : Ext wd.heap.size wd, x.val.cell? ⟨w.heap.size, 3, none⟩ = some (.bool bb) := fun x => (x.cell (blk_lt x1)).trans (blk_cell x1)
        have d1 : ∀ x : Ext wd.heap.size wd, x.val.cell? ⟨bR, 1, none⟩ = some (.int .i64 a4) := fun x => (x.cell (blk_lt x7)).trans (blk_cell x7)
        have d2 : ∀ x : Ext wd.heap.size wd, x.val.cell? ⟨bR, 2, none⟩ = some (.int .i64 er4) := fun x => (x.cell (blk_lt x7)).trans (blk_cell x7)
        refine stage_cons ?_
        (repeat (go_big_quiet_step (fail)))
        refine plan_nil ?_
        clear c0 c1 c2 c3 d1 d2
        refine plan_call (by kernel_rfl) (fun K hK => ?_)
        go_simp
        refine (jwithin_any best 0 1 _).mono ?_
        rintro e w' ⟨rfl, rfl⟩
        have hb := Below.refl wd.heap.size wd
        refine hK.out _ _ hb ?_
        clear hK K hb
        (try simp only [Act.put, List.setIfInBounds_toArray, List.set_cons_zero, List.set_cons_succ])
        rw [decide_eq_false hw]
        have c0 : ∀ x : Ext wd.heap.size wd, x.val.cell? ⟨w.heap.size, 0, none⟩ = some (.int .i64 no) := fun x => (x.cell (blk_lt x1)).trans (blk_cell x1)
        have c1 : ∀ x : Ext wd.heap.size wd, x.val.cell? ⟨w.heap.size, 1, none⟩ = some (.slice Av ps.length cv) := fun x => (x.cell (blk_lt x1)).trans (blk_cell x1)
        have c2 : ∀ x : Ext wd.heap.size wd, x.val.cell? ⟨w.heap.size, 2, none⟩ = some (.int .i64 cost) := fun x => (x.cell (blk_lt x1)).trans (blk_cell x1)
        have c3 : ∀ x : Ext wd.heap.size wd, x.val.cell? ⟨w.heap.size, 3, none⟩ = some (.bool bb) := fun x => (x.cell (blk_lt x1)).trans (blk_cell x1)
        have d1 : ∀ x : Ext wd.heap.size wd, x.val.cell? ⟨bR, 1, none⟩ = some (.int .i64 a4) := fun x => (x.cell (blk_lt x7)).trans (blk_cell x7)
        have d2 : ∀ x : Ext wd.heap.size wd, x.val.cell? ⟨bR, 2, none⟩ = some (.int .i64 er4) := fun x => (x.cell (blk_lt x7)).trans (blk_cell x7)
        refine stage_cons ?_
        (repeat (go_big_quiet_step (fail)))
        refine plan_nil ?_
        clear c0 c1 c2 c3 d1 d2
        refine plan_pass (by kernel_rfl) ?_
        simp only [Act.put, List.setIfInBounds_toArray, List.set_cons_zero, List.set_cons_succ]
        have c0 : ∀ x : Ext wd.heap.size wd, x.val.cell? ⟨w.heap.size, 0, none⟩ = some (.int .i64 no) := fun x => (x.cell (blk_lt x1)).trans (blk_cell x1)
        have c1 : ∀ x : Ext wd.heap.size wd, x.val.cell? ⟨w.heap.size, 1, none⟩ = some (.slice Av ps.length cv) := fun x => (x.cell (blk_lt x1)).trans (blk_cell x1)
        have c2 : ∀ x : Ext wd.heap.size wd, x.val.cell? ⟨w.heap.size, 2, none⟩ = some (.int .i64 cost) := fun x => (x.cell (blk_lt x1)).trans (blk_cell x1)
        have c3 : ∀ x : Ext wd.heap.size wd, x.val.cell? ⟨w.heap.size, 3, none⟩ = some (.bool bb) := fun x => (x.cell (blk_lt x1)).trans (blk_cell x1)
        have d1 : ∀ x : Ext wd.heap.size wd, x.val.cell? ⟨bR, 1, none⟩ = some (.int .i64 a4) := fun x => (x.cell (blk_lt x7)).trans (blk_cell x7)
        have d2 : ∀ x : Ext wd.heap.size wd, x.val.cell? ⟨bR, 2, none⟩ = some (.int .i64 er4) := fun x => (x.cell (blk_lt x7)).trans (blk_cell x7)
        refine stage_cons ?_
        (repeat (go_big_quiet_step (fail)))
        refine plan_nil ?_
        clear c0 c1 c2 c3 d1 d2
        refine plan_none (stage_late ?_)
        have c0 := blk_cell (j := 0) x1
        simp only [List.getElem?_toArray, List.getElem?_cons_zero, List.getElem?_cons_succ] at c0
        have f0 := blk_frozen 0 x1
        have c1 := blk_cell (j := 1) x1
        simp only [List.getElem?_toArray, List.getElem?_cons_zero, List.getElem?_cons_succ] at c1
        have f1 := blk_frozen 1 x1
        have c2 := blk_cell (j := 2) x1
        simp only [List.getElem?_toArray, List.getElem?_cons_zero, List.getElem?_cons_succ] at c2
        have f2 := blk_frozen 2 x1
        have c3 := blk_cell (j := 3) x1
        simp only [List.getElem?_toArray, List.getElem?_cons_zero, List.getElem?_cons_succ] at c3
        have f3 := blk_frozen 3 x1
        refine late_cons ?_
        (repeat (go_big_quiet_step (fail)))
        refine late_nil ?_
        refine late_call (by kernel_rfl) (fun K hK => ?_)
        go_simp
        refine hK.out _ _ ?_
        clear hK K
        (try simp only [Act.put, List.setIfInBounds_toArray, List.set_cons_zero, List.set_cons_succ])
        clear c0 c1 c2 c3 f0 f1 f2 f3
        refine late_cons ?_
        (repeat (go_big_quiet_step (fail)))
        refine late_nil ?_
        refine late_none ?_
        go_wp2_with fail
        have x2 := blk_set (k := 3) (.bool bb) (blk_set (k := 2) (.int .i64 cost) (blk_set (k := 1) (.slice Av ps.length cv) (blk_set (k := 0) (.int .i64 no) x1)))
        simp only [List.setIfInBounds_toArray, List.set_cons_zero, List.set_cons_succ] at x2
        refine bodyPost_ret (results_cell_row2 rfl _ _ w.heap.size 42 #[.int .i64 no, .slice Av ps.length cv, .int .i64 cost, .bool bb] (0, 0) _ rfl x2 Try.underlying42 rfl infoVer) rfl ?_
        have hbv := own_blk_ne xo x1 (by decide)
        refine ⟨no, _, cost, bb, ps, ?_, own_set (own_set (own_set (own_set xo hbv) hbv) hbv) hbv, k2.1, k1.1, k3.1, fun u hu => ?_, (((hbt.setCell (p := ⟨w.heap.size, 0, none⟩) (Nat.le_refl _) _).setCell (p := ⟨w.heap.size, 1, none⟩) (Nat.le_refl _) _).setCell (p := ⟨w.heap.size, 2, none⟩) (Nat.le_refl _) _).setCell (p := ⟨w.heap.size, 3, none⟩) (Nat.le_refl _) _⟩
        · rw [HR.out, if_neg (fun hh => hw hh.2.2.1)]
          rfl
        · rw [HR.out, if_neg (fun hh => hw hh.2.2.1)] at hu
          cases hu
    · have dA : (er4 == 0) = true := by simp; omega
      have dB : (a4 == (m : Int)) = false := by simp; omega
      refine wp_region_stage 23 [([0, 1, 2, 3, 4, 5, 6, 7, 8, 9, 10, 11, 12, 13, 14, 15, 16], some 17), ([18, 19, 20], some 21), ([22], none)] [([], some 23), ([24], none)] (by kernel_rfl) (by kernel_rfl) ?_
      intro wd hsz hb
      clear hsz
      replace x1 := blk_below x1 hb
      replace x7 := blk_below x7 hb
      replace xo := own_below xo hb
      replace hbt := hbt.trans (hb.mono hbt.size)
      clear hb
      simp only [pickP, pick, List.map_cons, List.map_nil, Option.map_some, Option.map_none, List.getD_cons_zero, List.getD_cons_succ]
      have c0 : ∀ x : Ext wd.heap.size wd, x.val.cell? ⟨w.heap.size, 0, none⟩ = some (.int .i64 no) := fun x => (x.cell (blk_lt x1)).trans (blk_cell x1)
      have c1 : ∀ x : Ext wd.heap.size wd, x.val.cell? ⟨w.heap.size, 1, none⟩ = some (.slice Av ps.length cv) := fun x => (x.cell (blk_lt x1)).trans (blk_cell x1)
      have c2 : ∀ x : Ext wd.heap.size wd, x.val.cell? ⟨w.heap.size, 2, none⟩ = some (.int .i64 cost) := fun x => (x.cell (blk_lt x1)).trans (blk_cell x1)
      have c3 : ∀ x : Ext wd.heap.size wd, x.val.cell? ⟨w.heap.size, 3, none⟩ = some (.bool bb) := fun x => (x.cell (blk_lt x1)).trans (blk_cell x1)
      have d1 : ∀ x : Ext wd.heap.size wd, x.val.cell? ⟨bR, 1, none⟩ = some (.int .i64 a4) := fun x => (x.cell (blk_lt x7)).trans (blk_cell x7)
      have d2 : ∀ x : Ext wd.heap.size wd, x.val.cell? ⟨bR, 2, none⟩ = some (.int .i64 er4) := fun x => (x.cell (blk_lt x7)).trans (blk_cell x7)
      refine stage_cons ?_
      (repeat (go_big_quiet_step (fail)))
      refine plan_nil ?_
      clear c0 c1 c2 c3 d1 d2
      refine plan_pass (by kernel_rfl) ?_
      simp only [Act.put, List.setIfInBounds_toArray, List.set_cons_zero, List.set_cons_succ]
      have c0 : ∀ x : Ext wd.heap.size wd, x.val.cell? ⟨w.heap.size, 0, none⟩ = some (.int .i64 no) := fun x => (x.cell (blk_lt x1)).trans (blk_cell x1)
      have c1 : ∀ x : Ext wd.heap.size wd, x.val.cell? ⟨w.heap.size, 1, none⟩ = some (.slice Av ps.length cv) := fun x => (x.cell (blk_lt x1)).trans (blk_cell x1)
      have c2 : ∀ x : Ext wd.heap.size wd, x.val.cell? ⟨w.heap.size, 2, none⟩ = some (.int .i64 cost) := fun x => (x.cell (blk_lt x1)).trans (blk_cell x1)
      have c3 : ∀ x : Ext wd.heap.size wd, x.val.cell? ⟨w.heap.size, 3, none⟩ = some (.bool bb) := fun x => (x.cell (blk_lt x1)).trans (blk_cell x1)
      have d1 : ∀ x : Ext wd.heap.size wd, x.val.cell? ⟨bR, 1, none⟩ = some (.int .i64 a4) := fun x => (x.cell (blk_lt x7)).trans (blk_cell x7)
      have d2 : ∀ x : Ext wd.heap.size wd, x.val.cell? ⟨bR, 2, none⟩ = some (.int .i64 er4) := fun x => (x.cell (blk_lt x7)).trans (blk_cell x7)
      refine stage_cons ?_
      (repeat (go_big_quiet_step (fail)))
      refine plan_nil ?_
      clear c0 c1 c2 c3 d1 d2
      refine plan_pass (by kernel_rfl) ?_
      simp only [Act.put, List.setIfInBounds_toArray, List.set_cons_zero, List.set_cons_succ]
      have c0 : ∀ x : Ext wd.heap.size wd, x.val.cell? ⟨w.heap.size, 0, none⟩ = some (.int .i64 no) := fun x => (x.cell (blk_lt x1)).trans (blk_cell x1)
      have c1 : ∀ x : Ext wd.heap.size wd, x.val.cell? ⟨w.heap.size, 1, none⟩ = some (.slice Av ps.length cv) := fun x => (x.cell (blk_lt x1)).trans (blk_cell x1)
      have c2 : ∀ x : Ext wd.heap.size wd, x.val.cell? ⟨w.heap.size, 2, none⟩ = some (.int .i64 cost) := fun x => (x.cell (blk_lt x1)).trans (blk_cell x1)
      have c3 : ∀ x : Ext wd.heap.size wd, x.val.cell? ⟨w.heap.size, 3, none⟩ = some (.bool bb) := fun x => (x.cell (blk_lt x1)).trans (blk_cell x1)
      have d1 : ∀ x : Ext wd.heap.size wd, x.val.cell? ⟨bR, 1, none⟩ = some (.int .i64 a4) := fun x => (x.cell (blk_lt x7)).trans (blk_cell x7)
      have d2 : ∀ x : Ext wd.heap.size wd, x.val.cell? ⟨bR, 2, none⟩ = some (.int .i64 er4) := fun x => (x.cell (blk_lt x7)).trans (blk_cell x7)
      refine stage_cons ?_
      (repeat (go_big_quiet_step (fail)))
      refine plan_nil ?_
      clear c0 c1 c2 c3 d1 d2
      refine plan_none (stage_late ?_)
      have c0 := blk_cell (j := 0) x1
      simp only [List.getElem?_toArray, List.getElem?_cons_zero, List.getElem?_cons_succ] at c0
      have f0 := blk_frozen 0 x1
      have c1 := blk_cell (j := 1) x1
      simp only [List.getElem?_toArray, List.getElem?_cons_zero, List.getElem?_cons_succ] at c1
      have f1 := blk_frozen 1 x1
      have c2 := blk_cell (j := 2) x1
      simp only [List.getElem?_toArray, List.getElem?_cons_zero, List.getElem?_cons_succ] at c2
      have f2 := blk_frozen 2 x1
      have c3 := blk_cell (j := 3) x1
      simp only [List.getElem?_toArray, List.getElem?_cons_zero, List.getElem?_cons_succ] at c3
      have f3 := blk_frozen 3 x1
      refine late_cons ?_
      (repeat (go_big_quiet_step (fail)))
      refine late_nil ?_
      refine late_call (by kernel_rfl) (fun K hK => ?_)
      go_simp
      refine hK.out _ _ ?_
      clear hK K
      (try simp only [Act.put, List.setIfInBounds_toArray, List.set_cons_zero, List.set_cons_succ])
      clear c0 c1 c2 c3 f0 f1 f2 f3
      refine late_cons ?_
      (repeat (go_big_quiet_step (fail)))
      refine late_nil ?_
      refine late_none ?_
      go_wp2_with fail
      have x2 := blk_set (k := 3) (.bool bb) (blk_set (k := 2) (.int .i64 cost) (blk_set (k := 1) (.slice Av ps.length cv) (blk_set (k := 0) (.int .i64 no) x1)))
      simp only [List.setIfInBounds_toArray, List.set_cons_zero, List.set_cons_succ] at x2
      refine bodyPost_ret (results_cell_row2 rfl _ _ w.heap.size 42 #[.int .i64 no, .slice Av ps.length cv, .int .i64 cost, .bool bb] (0, 0) _ rfl x2 Try.underlying42 rfl infoVer) rfl ?_
      have hbv := own_blk_ne xo x1 (by decide)
      refine ⟨no, _, cost, bb, ps, ?_, own_set (own_set (own_set (own_set xo hbv) hbv) hbv) hbv, k2.1, k1.1, k3.1, fun u hu => ?_, (((hbt.setCell (p := ⟨w.heap.size, 0, none⟩) (Nat.le_refl _) _).setCell (p := ⟨w.heap.size, 1, none⟩) (Nat.le_refl _) _).setCell (p := ⟨w.heap.size, 2, none⟩) (Nat.le_refl _) _).setCell (p := ⟨w.heap.size, 3, none⟩) (Nat.le_refl _) _⟩
      · rw [HR.out, if_neg (fun hh => hl hh.2.1)]
        rfl
      · rw [HR.out, if_neg (fun hh => hl hh.2.1)] at hu
        cases hu
  · have dA : (er4 == 0) = false := by simp; omega
    refine wp_region_stage 23 [([0, 1, 2, 3, 4, 5, 6, 7, 8, 9, 10, 11, 12, 13, 14, 15, 16], some 17), ([18, 19, 20], some 21), ([22], none)] [([], some 23), ([24], none)] (by kernel_rfl) (by kernel_rfl) ?_
    intro wd hsz hb
    clear hsz
    replace x1 := blk_below x1 hb
    replace x7 := blk_below x7 hb
    replace xo := own_below xo hb
    replace hbt := hbt.trans (hb.mono hbt.size)
    clear hb
    simp only [pickP, pick, List.map_cons, List.map_nil, Option.map_some, Option.map_none, List.getD_cons_zero, List.getD_cons_succ]
    have c0 : ∀ x : Ext wd.heap.size wd, x.val.cell? ⟨w.heap.size, 0, none⟩ = some (.int .i64 no) := fun x => (x.cell (blk_lt x1)).trans (blk_cell x1)
    have c1 : ∀ x : Ext wd.heap.size wd, x.val.cell? ⟨w.heap.size, 1, none⟩ = some (.slice Av ps.length cv) := fun x => (x.cell (blk_lt x1)).trans (blk_cell x1)
    have c2 : ∀ x : Ext wd.heap.size wd, x.val.cell? ⟨w.heap.size, 2, none⟩ = some (.int .i64 cost) := fun x => (x.cell (blk_lt x1)).trans (blk_cell x1)
    have c3 : ∀ x : Ext wd.heap.size wd, x.val.cell? ⟨w.heap.size, 3, none⟩ = some (.bool bb) := fun x => (x.cell (blk_lt x1)).trans (blk_cell x1)
    have d1 : ∀ x : Ext wd.heap.size wd, x.val.cell? ⟨bR, 1, none⟩ = some (.int .i64 a4) := fun x => (x.cell (blk_lt x7)).trans (blk_cell x7)
    have d2 : ∀ x : Ext wd.heap.size wd, x.val.cell? ⟨bR, 2, none⟩ = some (.int .i64 er4) := fun x => (x.cell (blk_lt x7)).trans (blk_cell x7)
    refine stage_cons ?_
    (repeat (go_big_quiet_step (fail)))
    refine plan_nil ?_
    clear c0 c1 c2 c3 d1 d2
    refine plan_pass (by kernel_rfl) ?_
    simp only [Act.put, List.setIfInBounds_toArray, List.set_cons_zero, List.set_cons_succ]
    have c0 : ∀ x : Ext wd.heap.size wd, x.val.cell? ⟨w.heap.size, 0, none⟩ = some (.int .i64 no) := fun x => (x.cell (blk_lt x1)).trans (blk_cell x1)
    have c1 : ∀ x : Ext wd.heap.size wd, x.val.cell? ⟨w.heap.size, 1, none⟩ = some (.slice Av ps.length cv) := fun x => (x.cell (blk_lt x1)).trans (blk_cell x1)
    have c2 : ∀ x : Ext wd.heap.size wd, x.val.cell? ⟨w.heap.size, 2, none⟩ = some (.int .i64 cost) := fun x => (x.cell (blk_lt x1)).trans (blk_cell x1)
    have c3 : ∀ x : Ext wd.heap.size wd, x.val.cell? ⟨w.heap.size, 3, none⟩ = some (.bool bb) := fun x => (x.cell (blk_lt x1)).trans (blk_cell x1)
    have d1 : ∀ x : Ext wd.heap.size wd, x.val.cell? ⟨bR, 1, none⟩ = some (.int .i64 a4) := fun x => (x.cell (blk_lt x7)).trans (blk_cell x7)
    have d2 : ∀ x : Ext wd.heap.size wd, x.val.cell? ⟨bR, 2, none⟩ = some (.int .i64 er4) := fun x => (x.cell (blk_lt x7)).trans (blk_cell x7)
    refine stage_cons ?_
    (repeat (go_big_quiet_step (fail)))
    refine plan_nil ?_
    clear c0 c1 c2 c3 d1 d2
    refine plan_pass (by kernel_rfl) ?_
    simp only [Act.put, List.setIfInBounds_toArray, List.set_cons_zero, List.set_cons_succ]
    have c0 : ∀ x : Ext wd.heap.size wd, x.val.cell? ⟨w.heap.size, 0, none⟩ = some (.int .i64 no) := fun x => (x.cell (blk_lt x1)).trans (blk_cell x1)
    have c1 : ∀ x : Ext wd.heap.size wd, x.val.cell? ⟨w.heap.size, 1, none⟩ = some (.slice Av ps.length cv) := fun x => (x.cell (blk_lt x1)).trans (blk_cell x1)
    have c2 : ∀ x : Ext wd.heap.size wd, x.val.cell? ⟨w.heap.size, 2, none⟩ = some (.int .i64 cost) := fun x => (x.cell (blk_lt x1)).trans (blk_cell x1)
    have c3 : ∀ x : Ext wd.heap.size wd, x.val.cell? ⟨w.heap.size, 3, none⟩ = some (.bool bb) := fun x => (x.cell (blk_lt x1)).trans (blk_cell x1)
    have d1 : ∀ x : Ext wd.heap.size wd, x.val.cell? ⟨bR, 1, none⟩ = some (.int .i64 a4) := fun x => (x.cell (blk_lt x7)).trans (blk_cell x7)
    have d2 : ∀ x : Ext wd.heap.size wd, x.val.cell? ⟨bR, 2, none⟩ = some (.int .i64 er4) := fun x => (x.cell (blk_lt x7)).trans (blk_cell x7)
    refine stage_cons ?_
    (repeat (go_big_quiet_step (fail)))
    refine plan_nil ?_
    clear c0 c1 c2 c3 d1 d2
    refine plan_none (stage_late ?_)
    have c0 := blk_cell (j := 0) x1
    simp only [List.getElem?_toArray, List.getElem?_cons_zero, List.getElem?_cons_succ] at c0
    have f0 := blk_frozen 0 x1
    have c1 := blk_cell (j := 1) x1
    simp only [List.getElem?_toArray, List.getElem?_cons_zero, List.getElem?_cons_succ] at c1
    have f1 := blk_frozen 1 x1
    have c2 := blk_cell (j := 2) x1
    simp only [List.getElem?_toArray, List.getElem?_cons_zero, List.getElem?_cons_succ] at c2
    have f2 := blk_frozen 2 x1
    have c3 := blk_cell (j := 3) x1
    simp only [List.getElem?_toArray, List.getElem?_cons_zero, List.getElem?_cons_succ] at c3
    have f3 := blk_frozen 3 x1
    refine late_cons ?_
    (repeat (go_big_quiet_step (fail)))
    refine late_nil ?_
    refine late_call (by kernel_rfl) (fun K hK => ?_)
    go_simp
    refine hK.out _ _ ?_
    clear hK K
    (try simp only [Act.put, List.setIfInBounds_toArray, List.set_cons_zero, List.set_cons_succ])
    clear c0 c1 c2 c3 f0 f1 f2 f3
    refine late_cons ?_
    (repeat (go_big_quiet_step (fail)))
    refine late_nil ?_
    refine late_none ?_
    go_wp2_with fail
    have x2 := blk_set (k := 3) (.bool bb) (blk_set (k := 2) (.int .i64 cost) (blk_set (k := 1) (.slice Av ps.length cv) (blk_set (k := 0) (.int .i64 no) x1)))
    simp only [List.setIfInBounds_toArray, List.set_cons_zero, List.set_cons_succ] at x2
    refine bodyPost_ret (results_cell_row2 rfl _ _ w.heap.size 42 #[.int .i64 no, .slice Av ps.length cv, .int .i64 cost, .bool bb] (0, 0) _ rfl x2 Try.underlying42 rfl infoVer) rfl ?_
    have hbv := own_blk_ne xo x1 (by decide)
    refine ⟨no, _, cost, bb, ps, ?_, own_set (own_set (own_set (own_set xo hbv) hbv) hbv) hbv, k2.1, k1.1, k3.1, fun u hu => ?_, (((hbt.setCell (p := ⟨w.heap.size, 0, none⟩) (Nat.le_refl _) _).setCell (p := ⟨w.heap.size, 1, none⟩) (Nat.le_refl _) _).setCell (p := ⟨w.heap.size, 2, none⟩) (Nat.le_refl _) _).setCell (p := ⟨w.heap.size, 3, none⟩) (Nat.le_refl _) _⟩
    · rw [HR.out, if_neg (fun hh => he hh.1)]
      rfl
    · rw [HR.out, if_neg (fun hh => he hh.1)] at hu
      cases hu

set_option maxRecDepth 100000 in
set_option maxHeartbeats 4000000 in
theorem rread_any (A : Option Addr) (m c : Nat) (l : List UInt8) (w : World) (h : RdB w w.heap.size A m c l) (hm : m ≤ 1073741824) :
    Calls Try.prog 51 #[.slice A m c] w (ReadPost (Jn.readV l) w) := by
  have h1 := h.max
  have h2 := h.le
  have hlen := Lib.hid h.len
  have hll : l.length ≤ 1073741824 := by rw [hlen.out]; exact hm
  have k1 := Jn.getI_okN (l := l) 0 hll
  have k2 := Jn.getW_okN (l := l) (Jn.rd1 l).2.1 hll
  have k3 := Jn.getI_okN (l := l) (Jn.rd2 l).2.1 hll
  have k4 := Jn.getI_okN (l := l) (Jn.rd3 l).2.1 hll
  have e1 : Vi.getI l 0 = Jn.rd1 l := rfl
  have e2 : Vi.getW l (Jn.rd1 l).2.1 = Jn.rd2 l := rfl
  have e3 : Vi.getI l (Jn.rd2 l).2.1 = Jn.rd3 l := rfl
  have e4 : Vi.getI l (Jn.rd3 l).2.1 = Jn.rd4 l := rfl
  rw [e1] at k1
  rw [e2] at k2
  rw [e3] at k3
  rw [e4] at k4
  have HR : Hid (Jn.readV l = if (Jn.rd1 l).2.2 = 0 ∧ (Jn.rd2 l).2.2 = 0 ∧ (Jn.rd3 l).2.2 = 0 ∧ (Jn.rd4 l).2.2 = 0 ∧ (Jn.rd4 l).2.1 = (m : Int) ∧ (0 ≤ (Jn.rd4 l).1 ∧ (Jn.rd4 l).1 ≤ 1) ∧ Jn.mayB (Jn.rd1 l).1 (Jn.rd3 l).1 (Jn.rd2 l).1.length = true then some ⟨(Jn.rd1 l).1, (Jn.rd2 l).1, (Jn.rd3 l).1, decide ((Jn.rd4 l).1 = 1)⟩ else none) := by
    show _ = _
    rw [← hlen.out]
    unfold Jn.readV
    by_cases hr : Jn.readOk l
    · rw [if_pos hr]; exact (if_pos hr).symm
    · rw [if_neg hr]; exact (if_neg hr).symm
  generalize Jn.readV l = R at *
  generalize Jn.rd1 l = s1 at *
  generalize Jn.rd2 l = s2 at *
  generalize Jn.rd3 l = s3 at *
  generalize Jn.rd4 l = s4 at *
  obtain ⟨no, a1, er1⟩ := s1
  obtain ⟨ps, a2, er2⟩ := s2
  obtain ⟨cost, a3, er3⟩ := s3
  obtain ⟨best, a4, er4⟩ := s4
  dsimp only at *
  have E1 := Lib.hid e1
  clear e1
  have E2 := Lib.hid e2
  clear e2
  have E3 := Lib.hid e3
  clear e3
  have E4 := Lib.hid e4
  clear e4
  clear hll
  have hbt := Below.refl w.heap.size w
  have h0 := h
  obtain ⟨V1, hV⟩ : ∃ V1, V1 = w.alloc (.cells #[.int .i64 0, .slice none 0 0, .int .i64 0, .bool false] 42) := ⟨_, rfl⟩
  have b1 := blk_new hV
  have hb := below_new hV
  replace hbt := hbt.trans (hb.mono hbt.size)
  clear hb
  have HSV1 : Hid (V1.heap.size = w.heap.size + 1) := by show V1.heap.size = _; rw [hV, World.size_alloc]
  have HVV1 := Lib.hid hV.symm
  clear hV
  go_enter Try.func51, Try.ntmps51
  go_wp2_with fail
  rw [HVV1.out]
  clear HVV1 HSV1
  refine (rgetInt_any A m c l 0 V1 ((h0.below hbt).more hbt.size) (by omega) (by omega)).mono ?_
  rintro e w' ⟨rfl, rfl⟩
  rw [E1.out]
  dsimp only
  by_cases z1 : er1 = 0
  · subst z1
    go_wp2_with fail
    refine (rGet4_any A m c l a1 V1 ((h0.below hbt).more hbt.size) k1.2 hm).mono ?_
    rintro e w3 ⟨v, rfl, ho, hb⟩
    rw [E2.out] at ho ⊢
    dsimp only at ho ⊢
    replace ho := own_mono ho hbt.size
    obtain ⟨Av, cv, rfl, _⟩ := own_rdK ho
    replace b1 := blk_below b1 hb
    replace hbt := hbt.trans (hb.mono hbt.size)
    clear hb
    obtain ⟨V4, hV⟩ : ∃ V4, V4 = w3.alloc (.cells #[.slice Av ps.length cv] 40) := ⟨_, rfl⟩
    have b4 := blk_new hV
    have hb := below_new hV
    replace b1 := blk_below b1 hb
    replace ho := own_below ho hb
    replace hbt := hbt.trans (hb.mono hbt.size)
    clear hb
    have HSV4 : Hid (V4.heap.size = w3.heap.size + 1) := by show V4.heap.size = _; rw [hV, World.size_alloc]
    have HVV4 := Lib.hid hV.symm
    clear hV
    by_cases z2 : er2 = 0
    · subst z2
      go_wp2_with fail
      rw [HVV4.out]
      clear HVV4 HSV4
      refine (rgetInt_any A m c l a2 V4 ((h0.below hbt).more hbt.size) k2.2 (by omega)).mono ?_
      rintro e w' ⟨rfl, rfl⟩
      rw [E3.out]
      dsimp only
      by_cases z3 : er3 = 0
      · subst z3
        go_wp2_with fail
        refine (rgetInt_any A m c l a3 V4 ((h0.below hbt).more hbt.size) k3.2 (by omega)).mono ?_
        rintro e w' ⟨rfl, rfl⟩
        rw [E4.out]
        dsimp only
        by_cases z4 : er4 = 0
        · subst z4
          by_cases z5 : a4 = (m : Int)
          · have dB : (a4 != (m : Int)) = false := by simp; omega
            by_cases z6 : 0 ≤ best ∧ best ≤ 1
            · have dC : decide (best < 0) = false := by simp; omega
              have dD : decide (1 < best) = false := by simp; omega
              have c0 := blk_cell (j := 0) b4
              simp only [List.getElem?_toArray, List.getElem?_cons_zero, List.getElem?_cons_succ] at c0
              generalize hbb : (best == 1) = bb at *
              have HBB : Hid (decide (best = 1) = bb) := by show _ = _; rw [← hbb]; rfl
              have HB2 : (best == 1) = bb := hbb
              clear hbb
              obtain ⟨V5, hV⟩ : ∃ V5, V5 = V4.alloc (.cells #[.int .i64 no, .slice Av ps.length cv, .int .i64 cost, .bool bb] 42) := ⟨_, rfl⟩
              have b5 := blk_new hV
              have hb := below_new hV
              replace b1 := blk_below b1 hb
              replace ho := own_below ho hb
              replace b4 := blk_below b4 hb
              replace hbt := hbt.trans (hb.mono hbt.size)
              clear hb
              have HSV5 : Hid (V5.heap.size = V4.heap.size + 1) := by show V5.heap.size = _; rw [hV, World.size_alloc]
              have HVV5 := Lib.hid hV.symm
              clear hV
              go_wp2_with fail
              rw [HVV5.out]
              clear HVV5 HSV5 c0 dB dC dD HB2
              refine wp_region_stage 3 [([0, 1], some 2)] [([], some 3), ([4], none)] (by kernel_rfl) (by kernel_rfl) ?_
              intro wd hsz hb
              clear hsz
              replace b1 := blk_below b1 hb
              replace ho := own_below ho hb
              replace b4 := blk_below b4 hb
              replace b5 := blk_below b5 hb
              replace hbt := hbt.trans (hb.mono hbt.size)
              clear hb
              simp only [pickP, pick, List.map_cons, List.map_nil, Option.map_some, Option.map_none, List.getD_cons_zero, List.getD_cons_succ]
              have c0 : ∀ x : Ext wd.heap.size wd, x.val.cell? ⟨V4.heap.size, 0, none⟩ = some (.int .i64 no) := fun x => (x.cell (blk_lt b5)).trans (blk_cell b5)
              have c1 : ∀ x : Ext wd.heap.size wd, x.val.cell? ⟨V4.heap.size, 1, none⟩ = some (.slice Av ps.length cv) := fun x => (x.cell (blk_lt b5)).trans (blk_cell b5)
              have c2 : ∀ x : Ext wd.heap.size wd, x.val.cell? ⟨V4.heap.size, 2, none⟩ = some (.int .i64 cost) := fun x => (x.cell (blk_lt b5)).trans (blk_cell b5)
              have c3 : ∀ x : Ext wd.heap.size wd, x.val.cell? ⟨V4.heap.size, 3, none⟩ = some (.bool bb) := fun x => (x.cell (blk_lt b5)).trans (blk_cell b5)
              refine stage_cons ?_
              (repeat (go_big_quiet_step (fail)))
              refine plan_nil ?_
              clear c0 c1 c2 c3
              refine plan_call (by kernel_rfl) (fun K hK => ?_)
              go_simp
              refine (rmay_any no cost Av ps.length cv bb _).mono ?_
              rintro e w9 ⟨rfl, hb⟩
              refine hK.out _ _ hb ?_
              clear hK K
              (try simp only [Act.put, List.setIfInBounds_toArray, List.set_cons_zero, List.set_cons_succ])
              replace b1 := blk_below b1 hb
              replace ho := own_below ho hb
              replace b4 := blk_below b4 hb
              replace b5 := blk_below b5 hb
              replace hbt := hbt.trans (hb.mono hbt.size)
              clear hb
              refine stage_late ?_
              have c0 := blk_cell (j := 0) b1
              simp only [List.getElem?_toArray, List.getElem?_cons_zero, List.getElem?_cons_succ] at c0
              have f0 := blk_frozen 0 b1
              have c1 := blk_cell (j := 1) b1
              simp only [List.getElem?_toArray, List.getElem?_cons_zero, List.getElem?_cons_succ] at c1
              have f1 := blk_frozen 1 b1
              have c2 := blk_cell (j := 2) b1
              simp only [List.getElem?_toArray, List.getElem?_cons_zero, List.getElem?_cons_succ] at c2
              have f2 := blk_frozen 2 b1
              have c3 := blk_cell (j := 3) b1
              simp only [List.getElem?_toArray, List.getElem?_cons_zero, List.getElem?_cons_succ] at c3
              have f3 := blk_frozen 3 b1
              refine late_cons ?_
              (repeat (go_big_quiet_step (fail)))
              refine late_nil ?_
              refine late_call (by kernel_rfl) (fun K hK => ?_)
              go_simp
              refine hK.out _ _ ?_
              clear hK K
              (try simp only [Act.put, List.setIfInBounds_toArray, List.set_cons_zero, List.set_cons_succ])
              clear c0 c1 c2 c3 f0 f1 f2 f3
              refine late_cons ?_
              (repeat (go_big_quiet_step (fail)))
              refine late_nil ?_
              refine late_none ?_
              go_wp2_with fail
              have x2 := blk_set (k := 3) (.bool bb) (blk_set (k := 2) (.int .i64 cost) (blk_set (k := 1) (.slice Av ps.length cv) (blk_set (k := 0) (.int .i64 no) b1)))
              simp only [List.setIfInBounds_toArray, List.set_cons_zero, List.set_cons_succ] at x2
              refine bodyPost_ret (results_cell_row2 rfl _ _ w.heap.size 42 #[.int .i64 no, .slice Av ps.length cv, .int .i64 cost, .bool bb] (0, 0) _ rfl x2 Try.underlying42 rfl infoVer) rfl ?_
              have hbv := own_blk_ne ho b1 (by decide)
              refine ⟨no, _, cost, bb, ps, ?_, own_set (own_set (own_set (own_set ho hbv) hbv) hbv) hbv, k2.1, k1.1, k3.1, fun u hu => ?_, (((hbt.setCell (p := ⟨w.heap.size, 0, none⟩) (Nat.le_refl _) _).setCell (p := ⟨w.heap.size, 1, none⟩) (Nat.le_refl _) _).setCell (p := ⟨w.heap.size, 2, none⟩) (Nat.le_refl _) _).setCell (p := ⟨w.heap.size, 3, none⟩) (Nat.le_refl _) _⟩
              · rw [HR.out]
                by_cases hmb : Jn.mayB no cost ps.length = true
                · rw [if_pos ⟨by simp, by simp, by simp, by simp, z5, z6, hmb⟩, hmb]; rfl
                · rw [if_neg (fun hh => hmb hh.2.2.2.2.2.2)]; simp at hmb; rw [hmb]; rfl
              · rw [HR.out] at hu
                split at hu
                · injection hu with hu; rw [← hu, HBB.out]
                · cases hu
            · by_cases z7 : best < 0
              · have dC : decide (best < 0) = true := by simp; omega
                have c0 := blk_cell (j := 0) b1
                simp only [List.getElem?_toArray, List.getElem?_cons_zero, List.getElem?_cons_succ] at c0
                have f0 := blk_frozen 0 b1
                have c1 := blk_cell (j := 1) b1
                simp only [List.getElem?_toArray, List.getElem?_cons_zero, List.getElem?_cons_succ] at c1
                have f1 := blk_frozen 1 b1
                have c2 := blk_cell (j := 2) b1
                simp only [List.getElem?_toArray, List.getElem?_cons_zero, List.getElem?_cons_succ] at c2
                have f2 := blk_frozen 2 b1
                have c3 := blk_cell (j := 3) b1
                simp only [List.getElem?_toArray, List.getElem?_cons_zero, List.getElem?_cons_succ] at c3
                have f3 := blk_frozen 3 b1
                go_wp2_with fail
                have x2 := blk_set (k := 3) (.bool false) (blk_set (k := 2) (.int .i64 0) (blk_set (k := 1) (.slice none 0 0) (blk_set (k := 0) (.int .i64 0) b1)))
                simp only [List.setIfInBounds_toArray, List.set_cons_zero, List.set_cons_succ] at x2
                refine bodyPost_ret (results_cell_row2 rfl _ _ w.heap.size 42 #[.int .i64 0, .slice none 0 0, .int .i64 0, .bool false] (0, 0) _ rfl x2 Try.underlying42 rfl infoVer) rfl ?_
                have hn : R = none := by rw [HR.out]; exact if_neg (fun hh => z6 hh.2.2.2.2.2.1)
                rw [hn]
                exact ⟨0, _, 0, false, [], rfl, World.ownsRow_nil _ _ _ _, by simp [okPs], by unfold okI; omega, by unfold okI; omega, (fun u hu => by cases hu), (((hbt.setCell (p := ⟨w.heap.size, 0, none⟩) (Nat.le_refl _) _).setCell (p := ⟨w.heap.size, 1, none⟩) (Nat.le_refl _) _).setCell (p := ⟨w.heap.size, 2, none⟩) (Nat.le_refl _) _).setCell (p := ⟨w.heap.size, 3, none⟩) (Nat.le_refl _) _⟩
              · have dC : decide (best < 0) = false := by simp; omega
                have dD : decide (1 < best) = true := by simp; omega
                have c0 := blk_cell (j := 0) b1
                simp only [List.getElem?_toArray, List.getElem?_cons_zero, List.getElem?_cons_succ] at c0
                have f0 := blk_frozen 0 b1
                have c1 := blk_cell (j := 1) b1
                simp only [List.getElem?_toArray, List.getElem?_cons_zero, List.getElem?_cons_succ] at c1
                have f1 := blk_frozen 1 b1
                have c2 := blk_cell (j := 2) b1
                simp only [List.getElem?_toArray, List.getElem?_cons_zero, List.getElem?_cons_succ] at c2
                have f2 := blk_frozen 2 b1
                have c3 := blk_cell (j := 3) b1
                simp only [List.getElem?_toArray, List.getElem?_cons_zero, List.getElem?_cons_succ] at c3
                have f3 := blk_frozen 3 b1
                go_wp2_with fail
                have x2 := blk_set (k := 3) (.bool false) (blk_set (k := 2) (.int .i64 0) (blk_set (k := 1) (.slice none 0 0) (blk_set (k := 0) (.int .i64 0) b1)))
                simp only [List.setIfInBounds_toArray, List.set_cons_zero, List.set_cons_succ] at x2
                refine bodyPost_ret (results_cell_row2 rfl _ _ w.heap.size 42 #[.int .i64 0, .slice none 0 0, .int .i64 0, .bool false] (0, 0) _ rfl x2 Try.underlying42 rfl infoVer) rfl ?_
                have hn : R = none := by rw [HR.out]; exact if_neg (fun hh => z6 hh.2.2.2.2.2.1)
                rw [hn]
                exact ⟨0, _, 0, false, [], rfl, World.ownsRow_nil _ _ _ _, by simp [okPs], by unfold okI; omega, by unfold okI; omega, (fun u hu => by cases hu), (((hbt.setCell (p := ⟨w.heap.size, 0, none⟩) (Nat.le_refl _) _).setCell (p := ⟨w.heap.size, 1, none⟩) (Nat.le_refl _) _).setCell (p := ⟨w.heap.size, 2, none⟩) (Nat.le_refl _) _).setCell (p := ⟨w.heap.size, 3, none⟩) (Nat.le_refl _) _⟩
          · have dB : (a4 != (m : Int)) = true := by simp; omega
            have c0 := blk_cell (j := 0) b1
            simp only [List.getElem?_toArray, List.getElem?_cons_zero, List.getElem?_cons_succ] at c0
            have f0 := blk_frozen 0 b1
            have c1 := blk_cell (j := 1) b1
            simp only [List.getElem?_toArray, List.getElem?_cons_zero, List.getElem?_cons_succ] at c1
            have f1 := blk_frozen 1 b1
            have c2 := blk_cell (j := 2) b1
            simp only [List.getElem?_toArray, List.getElem?_cons_zero, List.getElem?_cons_succ] at c2
            have f2 := blk_frozen 2 b1
            have c3 := blk_cell (j := 3) b1
            simp only [List.getElem?_toArray, List.getElem?_cons_zero, List.getElem?_cons_succ] at c3
            have f3 := blk_frozen 3 b1
            go_wp2_with fail
            have x2 := blk_set (k := 3) (.bool false) (blk_set (k := 2) (.int .i64 0) (blk_set (k := 1) (.slice none 0 0) (blk_set (k := 0) (.int .i64 0) b1)))
            simp only [List.setIfInBounds_toArray, List.set_cons_zero, List.set_cons_succ] at x2
            refine bodyPost_ret (results_cell_row2 rfl _ _ w.heap.size 42 #[.int .i64 0, .slice none 0 0, .int .i64 0, .bool false] (0, 0) _ rfl x2 Try.underlying42 rfl infoVer) rfl ?_
            have hn : R = none := by rw [HR.out]; exact if_neg (fun hh => z5 hh.2.2.2.2.1)
            rw [hn]
            exact ⟨0, _, 0, false, [], rfl, World.ownsRow_nil _ _ _ _, by simp [okPs], by unfold okI; omega, by unfold okI; omega, (fun u hu => by cases hu), (((hbt.setCell (p := ⟨w.heap.size, 0, none⟩) (Nat.le_refl _) _).setCell (p := ⟨w.heap.size, 1, none⟩) (Nat.le_refl _) _).setCell (p := ⟨w.heap.size, 2, none⟩) (Nat.le_refl _) _).setCell (p := ⟨w.heap.size, 3, none⟩) (Nat.le_refl _) _⟩
        · have dE : (er4 != 0) = true := by simp; omega
          have c0 := blk_cell (j := 0) b1
          simp only [List.getElem?_toArray, List.getElem?_cons_zero, List.getElem?_cons_succ] at c0
          have f0 := blk_frozen 0 b1
          have c1 := blk_cell (j := 1) b1
          simp only [List.getElem?_toArray, List.getElem?_cons_zero, List.getElem?_cons_succ] at c1
          have f1 := blk_frozen 1 b1
          have c2 := blk_cell (j := 2) b1
          simp only [List.getElem?_toArray, List.getElem?_cons_zero, List.getElem?_cons_succ] at c2
          have f2 := blk_frozen 2 b1
          have c3 := blk_cell (j := 3) b1
          simp only [List.getElem?_toArray, List.getElem?_cons_zero, List.getElem?_cons_succ] at c3
          have f3 := blk_frozen 3 b1
          go_wp2_with fail
          have x2 := blk_set (k := 3) (.bool false) (blk_set (k := 2) (.int .i64 0) (blk_set (k := 1) (.slice none 0 0) (blk_set (k := 0) (.int .i64 0) b1)))
          simp only [List.setIfInBounds_toArray, List.set_cons_zero, List.set_cons_succ] at x2
          refine bodyPost_ret (results_cell_row2 rfl _ _ w.heap.size 42 #[.int .i64 0, .slice none 0 0, .int .i64 0, .bool false] (0, 0) _ rfl x2 Try.underlying42 rfl infoVer) rfl ?_
          have hn : R = none := by rw [HR.out]; exact if_neg (fun hh => z4 hh.2.2.2.1)
          rw [hn]
          exact ⟨0, _, 0, false, [], rfl, World.ownsRow_nil _ _ _ _, by simp [okPs], by unfold okI; omega, by unfold okI; omega, (fun u hu => by cases hu), (((hbt.setCell (p := ⟨w.heap.size, 0, none⟩) (Nat.le_refl _) _).setCell (p := ⟨w.heap.size, 1, none⟩) (Nat.le_refl _) _).setCell (p := ⟨w.heap.size, 2, none⟩) (Nat.le_refl _) _).setCell (p := ⟨w.heap.size, 3, none⟩) (Nat.le_refl _) _⟩
      · have dE : (er3 != 0) = true := by simp; omega
        have c0 := blk_cell (j := 0) b1
        simp only [List.getElem?_toArray, List.getElem?_cons_zero, List.getElem?_cons_succ] at c0
        have f0 := blk_frozen 0 b1
        have c1 := blk_cell (j := 1) b1
        simp only [List.getElem?_toArray, List.getElem?_cons_zero, List.getElem?_cons_succ] at c1
        have f1 := blk_frozen 1 b1
        have c2 := blk_cell (j := 2) b1
        simp only [List.getElem?_toArray, List.getElem?_cons_zero, List.getElem?_cons_succ] at c2
        have f2 := blk_frozen 2 b1
        have c3 := blk_cell (j := 3) b1
        simp only [List.getElem?_toArray, List.getElem?_cons_zero, List.getElem?_cons_succ] at c3
        have f3 := blk_frozen 3 b1
        go_wp2_with fail
        have x2 := blk_set (k := 3) (.bool false) (blk_set (k := 2) (.int .i64 0) (blk_set (k := 1) (.slice none 0 0) (blk_set (k := 0) (.int .i64 0) b1)))
        simp only [List.setIfInBounds_toArray, List.set_cons_zero, List.set_cons_succ] at x2
        refine bodyPost_ret (results_cell_row2 rfl _ _ w.heap.size 42 #[.int .i64 0, .slice none 0 0, .int .i64 0, .bool false] (0, 0) _ rfl x2 Try.underlying42 rfl infoVer) rfl ?_
        have hn : R = none := by rw [HR.out]; exact if_neg (fun hh => z3 hh.2.2.1)
        rw [hn]
        exact ⟨0, _, 0, false, [], rfl, World.ownsRow_nil _ _ _ _, by simp [okPs], by unfold okI; omega, by unfold okI; omega, (fun u hu => by cases hu), (((hbt.setCell (p := ⟨w.heap.size, 0, none⟩) (Nat.le_refl _) _).setCell (p := ⟨w.heap.size, 1, none⟩) (Nat.le_refl _) _).setCell (p := ⟨w.heap.size, 2, none⟩) (Nat.le_refl _) _).setCell (p := ⟨w.heap.size, 3, none⟩) (Nat.le_refl _) _⟩
    · have dE : (er2 != 0) = true := by simp; omega
      rw [← HVV4.out] at b1 hbt
      have c0 := blk_cell (j := 0) b1
      simp only [List.getElem?_toArray, List.getElem?_cons_zero, List.getElem?_cons_succ] at c0
      have f0 := blk_frozen 0 b1
      have c1 := blk_cell (j := 1) b1
      simp only [List.getElem?_toArray, List.getElem?_cons_zero, List.getElem?_cons_succ] at c1
      have f1 := blk_frozen 1 b1
      have c2 := blk_cell (j := 2) b1
      simp only [List.getElem?_toArray, List.getElem?_cons_zero, List.getElem?_cons_succ] at c2
      have f2 := blk_frozen 2 b1
      have c3 := blk_cell (j := 3) b1
      simp only [List.getElem?_toArray, List.getElem?_cons_zero, List.getElem?_cons_succ] at c3
      have f3 := blk_frozen 3 b1
      go_wp2_with fail
      have x2 := blk_set (k := 3) (.bool false) (blk_set (k := 2) (.int .i64 0) (blk_set (k := 1) (.slice none 0 0) (blk_set (k := 0) (.int .i64 0) b1)))
      simp only [List.setIfInBounds_toArray, List.set_cons_zero, List.set_cons_succ] at x2
      refine bodyPost_ret (results_cell_row2 rfl _ _ w.heap.size 42 #[.int .i64 0, .slice none 0 0, .int .i64 0, .bool false] (0, 0) _ rfl x2 Try.underlying42 rfl infoVer) rfl ?_
      have hn : R = none := by rw [HR.out]; exact if_neg (fun hh => z2 hh.2.1)
      rw [hn]
      exact ⟨0, _, 0, false, [], rfl, World.ownsRow_nil _ _ _ _, by simp [okPs], by unfold okI; omega, by unfold okI; omega, (fun u hu => by cases hu), (((hbt.setCell (p := ⟨w.heap.size, 0, none⟩) (Nat.le_refl _) _).setCell (p := ⟨w.heap.size, 1, none⟩) (Nat.le_refl _) _).setCell (p := ⟨w.heap.size, 2, none⟩) (Nat.le_refl _) _).setCell (p := ⟨w.heap.size, 3, none⟩) (Nat.le_refl _) _⟩
  · have dE : (er1 != 0) = true := by simp; omega
    have c0 := blk_cell (j := 0) b1
    simp only [List.getElem?_toArray, List.getElem?_cons_zero, List.getElem?_cons_succ] at c0
    have f0 := blk_frozen 0 b1
    have c1 := blk_cell (j := 1) b1
    simp only [List.getElem?_toArray, List.getElem?_cons_zero, List.getElem?_cons_succ] at c1
    have f1 := blk_frozen 1 b1
    have c2 := blk_cell (j := 2) b1
    simp only [List.getElem?_toArray, List.getElem?_cons_zero, List.getElem?_cons_succ] at c2
    have f2 := blk_frozen 2 b1
    have c3 := blk_cell (j := 3) b1
    simp only [List.getElem?_toArray, List.getElem?_cons_zero, List.getElem?_cons_succ] at c3
    have f3 := blk_frozen 3 b1
    go_wp2_with fail
    have x2 := blk_set (k := 3) (.bool false) (blk_set (k := 2) (.int .i64 0) (blk_set (k := 1) (.slice none 0 0) (blk_set (k := 0) (.int .i64 0) b1)))
    simp only [List.setIfInBounds_toArray, List.set_cons_zero, List.set_cons_succ] at x2
    refine bodyPost_ret (results_cell_row2 rfl _ _ w.heap.size 42 #[.int .i64 0, .slice none 0 0, .int .i64 0, .bool false] (0, 0) _ rfl x2 Try.underlying42 rfl infoVer) rfl ?_
    have hn : R = none := by rw [HR.out]; exact if_neg (fun hh => z1 hh.1)
    rw [hn]
    exact ⟨0, _, 0, false, [], rfl, World.ownsRow_nil _ _ _ _, by simp [okPs], by unfold okI; omega, by unfold okI; omega, (fun u hu => by cases hu), (((hbt.setCell (p := ⟨w.heap.size, 0, none⟩) (Nat.le_refl _) _).setCell (p := ⟨w.heap.size, 1, none⟩) (Nat.le_refl _) _).setCell (p := ⟨w.heap.size, 2, none⟩) (Nat.le_refl _) _).setCell (p := ⟨w.heap.size, 3, none⟩) (Nat.le_refl _) _⟩

end Go.Proofs.Ytfacdoemgalodaa
