/-
  The walk of the reference's True.
-/
import Derived.Test.YtojbjaklngdlcaaGreatDoorRCk
import Derived.Test.YtojbjaklngdlcaaGreatDoorTrueW
namespace Go.Proofs.YtojbjaklngdlcaaGreatDoor
open Go.RowKit Go.Shelf
set_option linter.unusedVariables false
set_option linter.unusedSimpArgs false

set_option maxRecDepth 100000 in
set_option maxHeartbeats 4000000 in
theorem rTrue4_any (f : Sc.Five) (s : Sc.Sch) (A : Option Addr) (n c : Nat) (ps : List Pl) (w : World) (h : Sc.RdSch w w.heap.size f s) (hp : RdP w w.heap.size A n c ps) (hz : f.nS ≤ 80 ∧ f.nR ≤ 80 ∧ f.nP ≤ 80 ∧ f.nG ≤ 80 ∧ f.nL ≤ 80) :
    Calls Tryz.prog 17 #[.agg f.vals, .agg #[.slice A n c]] w (BoPost (Wk.trR s ps) w) := by
  have q1 := hp.max
  have q2 := hp.le
  have hp0 := hp
  have hs : f.nS ≤ 1000 ∧ f.nR ≤ 1000 ∧ f.nL ≤ 1000 := ⟨by omega, by omega, by omega⟩
  have HPL := Lib.hid hp.len
  have HLN := Lib.hid h.lens
  have mS : f.nS ≤ f.cS ∧ f.cS ≤ 9223372036854775807 := ⟨h.slots.le, h.slots.max⟩
  have mR : f.nR ≤ f.cR ∧ f.cR ≤ 9223372036854775807 := ⟨h.rooms.le, h.rooms.max⟩
  have mL : f.nL ≤ f.cL ∧ f.cL ≤ 9223372036854775807 := ⟨h.lessons.le, h.lessons.max⟩
  have hbt := Below.refl w.heap.size w
  obtain ⟨V1, hV⟩ : ∃ V1, V1 = w.alloc (.cells #[.slice f.aS f.nS f.cS, .slice f.aR f.nR f.cR, .slice f.aP f.nP f.cP, .slice f.aG f.nG f.cG, .slice f.aL f.nL f.cL] 28) := ⟨_, rfl⟩
  have b0 := blk_new hV
  have hb := below_new hV
  replace h := (h.below hb).more hb.size
  replace hp := (hp.below hb).more hb.size
  replace hbt := hbt.trans (hb.mono hbt.size)
  clear hb
  have HSV1 : Hid (V1.heap.size = w.heap.size + 1) := by show V1.heap.size = _; rw [hV, World.size_alloc]
  have HVV1 := Lib.hid hV.symm
  clear hV
  obtain ⟨V2, hV⟩ : ∃ V2, V2 = V1.alloc (.cells #[.slice A n c] 31) := ⟨_, rfl⟩
  have b1 := blk_new hV
  have hb := below_new hV
  replace h := (h.below hb).more hb.size
  replace hp := (hp.below hb).more hb.size
  replace b0 := blk_below b0 hb
  replace hbt := hbt.trans (hb.mono hbt.size)
  clear hb
  have HSV2 : Hid (V2.heap.size = V1.heap.size + 1) := by show V2.heap.size = _; rw [hV, World.size_alloc]
  have HVV2 := Lib.hid hV.symm
  clear hV
  rw [HSV1.out] at b1
  rw [← HVV1.out] at HVV2
  unfold Sc.Five.vals
  have c0 := blk_cell (j := 0) b0
  simp only [List.getElem?_toArray, List.getElem?_cons_zero, List.getElem?_cons_succ] at c0
  have c1 := blk_cell (j := 1) b0
  simp only [List.getElem?_toArray, List.getElem?_cons_zero, List.getElem?_cons_succ] at c1
  have c2 := blk_cell (j := 2) b0
  simp only [List.getElem?_toArray, List.getElem?_cons_zero, List.getElem?_cons_succ] at c2
  have c3 := blk_cell (j := 3) b0
  simp only [List.getElem?_toArray, List.getElem?_cons_zero, List.getElem?_cons_succ] at c3
  have c4 := blk_cell (j := 4) b0
  simp only [List.getElem?_toArray, List.getElem?_cons_zero, List.getElem?_cons_succ] at c4
  have d0 := blk_cell (j := 0) b1
  simp only [List.getElem?_toArray, List.getElem?_cons_zero, List.getElem?_cons_succ] at d0
  rw [← HVV2.out] at c0 c1 c2 c3 c4 d0
  go_enter Tryz.func17, Tryz.ntmps17
  go_wp2_with fail
  rw [HVV2.out]
  clear HVV2 HVV1 HSV1 HSV2 c0 c1 c2 c3 c4 d0
  refine (rCheck4_any f s A n c ps V2 h hp hz).mono ?_
  rintro e w3 ⟨rfl, hb⟩
  replace h := (h.below hb).more hb.size
  replace hp := (hp.below hb).more hb.size
  replace b0 := blk_below b0 hb
  replace b1 := blk_below b1 hb
  replace hbt := hbt.trans (hb.mono hbt.size)
  clear hb
  by_cases hE : Wk.wchk s ps ≠ 0
  · have HC : Hid (Wk.trR s ps = ([], Wk.wchk s ps)) := by show _ = _; unfold Wk.trR; rw [if_pos hE]
    generalize Wk.wchk s ps = er at *
    have dE : (er != 0) = true := by simp; omega
    go_wp2_with fail
    go_ret2
    exact bopost_err HC.out hbt
  · have hE : Wk.wchk s ps = 0 := Classical.not_not.1 hE
    obtain ⟨hk0, hk1, hk2⟩ := Wk.wchk_zero hE
    have HE := Lib.hid hE
    have hnL : n = f.nL := by rw [HPL.out, HLN.out.2.2.2.2] at hk1; exact hk1
    have HPK : Hid (∀ p ∈ ps, Wk.placed f.nS f.nR p) := fun p hq => by have := hk2 p hq; rw [HLN.out.1, HLN.out.2.1] at this; exact this
    rw [hE]
    clear hE hk0 hk1 hk2
    subst hnL
    have HC : Hid (Wk.trR s ps = (Wk.trK f.nL f.nS f.nR ps f.nL, 0)) := by show _ = _; unfold Wk.trR; rw [if_neg (fun hq => hq HE.out), HLN.out.1, HLN.out.2.1, HLN.out.2.2.2.2]
    clear HE
    have c0 := blk_cell (j := 0) b0
    simp only [List.getElem?_toArray, List.getElem?_cons_zero, List.getElem?_cons_succ] at c0
    have c1 := blk_cell (j := 1) b0
    simp only [List.getElem?_toArray, List.getElem?_cons_zero, List.getElem?_cons_succ] at c1
    have c2 := blk_cell (j := 2) b0
    simp only [List.getElem?_toArray, List.getElem?_cons_zero, List.getElem?_cons_succ] at c2
    have c3 := blk_cell (j := 3) b0
    simp only [List.getElem?_toArray, List.getElem?_cons_zero, List.getElem?_cons_succ] at c3
    have c4 := blk_cell (j := 4) b0
    simp only [List.getElem?_toArray, List.getElem?_cons_zero, List.getElem?_cons_succ] at c4
    go_wp2_with fail
    clear c0 c1 c2 c3 c4
    refine (rVars4_any f w3 mS mR mL hs).mono ?_
    rintro e w3' ⟨rfl, hb⟩
    replace h := (h.below hb).more hb.size
    replace hp := (hp.below hb).more hb.size
    replace b0 := blk_below b0 hb
    replace b1 := blk_below b1 hb
    replace hbt := hbt.trans (hb.mono hbt.size)
    clear hb
    have hprod : f.nL * (f.nS + f.nR) ≤ 2000000 := Nat.le_trans (Nat.mul_le_mul hs.2.2 (show f.nS + f.nR ≤ 2000 by omega)) (by omega)
    obtain ⟨V, hV⟩ : ∃ V, V = f.nL * (f.nS + f.nR) := ⟨_, rfl⟩
    rw [← hV] at hprod ⊢
    have HV := Lib.hid hV
    clear hV
    obtain ⟨i0, hi, hz0, hz1, hz2⟩ := info_parts elO.i
    have H2 := Lib.hid hz2
    clear hz2
    have hs1 := hbt.size
    go_wp2_with (at_make; refine wpList_make_full _ rfl _ _ 39 rfl w.heap.size 4 i0 (.bool false) 1 Tryz.underlying39 hi hz0 hz1 _ _ _ _ (1 + V) rfl rfl rfl rfl (by rw [H2.out]; omega) (by unfold maxLen; omega) hs1 ?_; intro w4 hown hg4; have hb4 : Below w3'.heap.size w3' w4 := below_of_grown hg4 (Nat.le_refl _) (fun g hg => by cases hg))
    rw [made_bools, Nat.add_comm 1 V] at hown
    rw [Nat.add_comm 1 V]
    have hb := hb4
    clear hb4 hg4
    replace h := (h.below hb).more hb.size
    replace hp := (hp.below hb).more hb.size
    replace b0 := blk_below b0 hb
    replace b1 := blk_below b1 hb
    replace hbt := hbt.trans (hb.mono hbt.size)
    clear hb
    have hR : w.heap.size ≤ w3'.heap.size := hs1
    generalize w3'.heap.size = bR at *
    obtain ⟨T, hT⟩ : ∃ T : Nat → List Bool, T = Wk.trK f.nL f.nS f.nR ps := ⟨_, rfl⟩
    have HT := Lib.hid hT
    clear hT
    have HLT : Hid (∀ k, (T k).length = V + 1) := fun k => by rw [HT.out, HV.out]; exact Wk.trK_length _ _ _ _ k
    have HT0 : Hid (T 0 = List.replicate (V + 1) false) := by show _ = _; rw [HT.out, HV.out]; rfl
    rw [← HT0.out] at hown
    clear HT0
    go_loopw [8] (fun iv wr => ∃ k : Nat, k ≤ f.nL ∧ iv = .int .i64 k ∧ wr.ownsRow w.heap.size 4 1 (.slice (some ⟨bR, 0, none⟩) (V + 1) (V + 1)) (V + 1) (bov (T k)) ∧ wr.heap[w.heap.size]? = some (.cells #[.slice f.aS f.nS f.cS, .slice f.aR f.nR f.cR, .slice f.aP f.nP f.cP, .slice f.aG f.nG f.cG, .slice f.aL f.nL f.cL] 28) ∧ wr.heap[w.heap.size + 1]? = some (.cells #[.slice A f.nL c] 31) ∧ Below w.heap.size w wr) (fun iv _ => f.nL - (intOf iv).toNat)
    case atStart => exact ⟨0, by omega, rfl, hown, b0, b1, hbt⟩
    case round =>
      clear hown b0 b1 hp hbt h
      obtain ⟨k, hk, rfl, hown, b0, b1, hbt⟩ := hrel
      have d0 := blk_cell (j := 0) b1
      simp only [List.getElem?_toArray, List.getElem?_cons_zero, List.getElem?_cons_succ] at d0
      by_cases hkn : k < f.nL
      · have d1 : decide ((k : Int) < (f.nL : Int)) = true := by simp; omega
        have hkl : k < ps.length := by rw [HPL.out]; exact hkn
        obtain ⟨ad, rfl, hab, x0, x1, _, _⟩ := (hp0.below hbt).at_ hkn hkl
        obtain ⟨hq1, hq2⟩ := HPK.out ps[k] (List.getElem_mem hkl)
        have HTK : Hid (T (k + 1) = ((T k).set (Wk.atI f.nL f.nS k ps[k].1).toNat true).set (Wk.inI f.nL f.nS f.nR k ps[k].2).toNat true) := by
          show _ = _
          rw [HT.out, Wk.trK]
          simp only [List.getD_eq_getElem?_getD, List.getElem?_eq_getElem hkl, Option.getD_some]
        obtain ⟨v1, e1, l1, _, _⟩ := Wk.at_range (l := (k : Int)) ⟨by omega, by omega⟩ hq1 f.nR (L := f.nL)
        obtain ⟨v2, e2, l2, _⟩ := Wk.in_range (l := (k : Int)) (L := f.nL) (S := f.nS) ⟨by omega, by omega⟩ hq2
        rw [← HV.out] at l1 l2
        rw [e1, e2, Int.toNat_natCast, Int.toNat_natCast] at HTK
        generalize ps[k] = p at *
        obtain ⟨sl, ro⟩ := p
        dsimp only at *
        clear hq1 hq2
        have d2 : decide (k < f.nL) = true := by simp; omega
        go_wp2_with fail
        clear d0
        have n0 : w.heap.size ≠ bR := own_blk_ne hown b0 (by decide) bR rfl
        have n1 : w.heap.size + 1 ≠ bR := own_blk_ne hown b1 (by decide) bR rfl
        refine wp_region_stage 11 [([0, 1, 2, 3, 4, 5, 6, 7, 8], some 9), ([10], none)] [([], some 11)] (by kernel_rfl) (by kernel_rfl) ?_
        intro wdv1 hsz hb
        clear hsz
        replace hown := own_below hown hb
        replace b0 := blk_below b0 hb
        replace b1 := blk_below b1 hb
        replace x0 := (hb.cell (World.block_lt_of_cell? _ _ x0)).trans x0
        replace x1 := (hb.cell (World.block_lt_of_cell? _ _ x1)).trans x1
        replace hbt := hbt.trans (hb.mono hbt.size)
        clear hb
        simp only [pickP, pick, List.map_cons, List.map_nil, Option.map_some, Option.map_none, List.getD_cons_zero, List.getD_cons_succ]
        have c0 : ∀ x : Ext wdv1.heap.size wdv1, x.val.cell? ⟨w.heap.size, 0, none⟩ = some (.slice f.aS f.nS f.cS) := fun x => ((x.cell (blk_lt b0)).trans (blk_cell b0)).trans rfl
        have c1 : ∀ x : Ext wdv1.heap.size wdv1, x.val.cell? ⟨w.heap.size, 1, none⟩ = some (.slice f.aR f.nR f.cR) := fun x => ((x.cell (blk_lt b0)).trans (blk_cell b0)).trans rfl
        have c2 : ∀ x : Ext wdv1.heap.size wdv1, x.val.cell? ⟨w.heap.size, 2, none⟩ = some (.slice f.aP f.nP f.cP) := fun x => ((x.cell (blk_lt b0)).trans (blk_cell b0)).trans rfl
        have c3 : ∀ x : Ext wdv1.heap.size wdv1, x.val.cell? ⟨w.heap.size, 3, none⟩ = some (.slice f.aG f.nG f.cG) := fun x => ((x.cell (blk_lt b0)).trans (blk_cell b0)).trans rfl
        have c4 : ∀ x : Ext wdv1.heap.size wdv1, x.val.cell? ⟨w.heap.size, 4, none⟩ = some (.slice f.aL f.nL f.cL) := fun x => ((x.cell (blk_lt b0)).trans (blk_cell b0)).trans rfl
        have d0 : ∀ x : Ext wdv1.heap.size wdv1, x.val.cell? ⟨w.heap.size + 1, 0, none⟩ = some (.slice (some ad) f.nL c) := fun x => ((x.cell (blk_lt b1)).trans (blk_cell b1)).trans rfl
        have y0 := fun x : Ext wdv1.heap.size wdv1 => (x.cell (World.block_lt_of_cell? _ _ x0)).trans x0
        refine stage_cons ?_
        (repeat (go_big_quiet_step (fail)))
        refine plan_nil ?_
        clear c0 c1 c2 c3 c4 d0 y0
        refine plan_call (by kernel_rfl) (fun K hK => ?_)
        go_simp
        refine (rAt4_any f k sl wdv1 mS mR mL hs).mono ?_
        rintro e wcv1 ⟨rfl, hb⟩
        refine hK.out _ _ hb ?_
        clear hK K
        (try simp only [Act.put, List.setIfInBounds_toArray, List.set_cons_zero, List.set_cons_succ])
        replace hown := own_below hown hb
        replace b0 := blk_below b0 hb
        replace b1 := blk_below b1 hb
        replace x0 := (hb.cell (World.block_lt_of_cell? _ _ x0)).trans x0
        replace x1 := (hb.cell (World.block_lt_of_cell? _ _ x1)).trans x1
        replace hbt := hbt.trans (hb.mono hbt.size)
        clear hb
        rw [e1]
        have mv1 : decide (v1 < V + 1) = true := by simp; omega
        refine stage_cons ?_
        (repeat (go_big_quiet_step (fail)))
        refine plan_nil ?_
        refine plan_none (stage_late ?_)
        obtain ⟨u0, z0⟩ := own_cell hown (j := v1) (by omega)
        have z2 := hown.frozenAt v1
        have hst := (hown.stored v1 (.bool true)).1
        replace hbt := hbt.setCell (p := ⟨bR, v1, none⟩) hR (.bool true)
        replace b0 := blk_other (p := ⟨bR, v1, none⟩) (.bool true) b0 (Ne.symm n0)
        replace b1 := blk_other (p := ⟨bR, v1, none⟩) (.bool true) b1 (Ne.symm n1)
        have xx1 := ((Below.refl w.heap.size wcv1).setCell (p := ⟨bR, v1, none⟩) hR (.bool true)).cell (p := ⟨(ad.add (k * 2)).block, (ad.add (k * 2)).off + 1, none⟩) (by unfold Addr.add; split <;> exact hab) |>.trans x1
        refine late_cons ?_
        refine late_nil ?_
        refine late_call (by kernel_rfl) (fun K hK => ?_)
        go_simp
        refine hK.out _ _ ?_
        clear hK K
        (try simp only [Act.put, List.setIfInBounds_toArray, List.set_cons_zero, List.set_cons_succ])
        generalize wcv1.setCell ⟨bR, v1, none⟩ (.bool true) = wsv1 at *
        refine late_end ?_
        clear z0 z2 hown u0 mv1
        have hown := hst
        clear hst
        clear x0 x1
        have x1 := xx1
        clear xx1
        go_wp2_with fail
        refine wp_region_stage 11 [([0, 1, 2, 3, 4, 5, 6, 7, 8], some 9), ([10], none)] [([], some 11)] (by kernel_rfl) (by kernel_rfl) ?_
        intro wdv2 hsz hb
        clear hsz
        replace hown := own_below hown hb
        replace b0 := blk_below b0 hb
        replace b1 := blk_below b1 hb
        replace x1 := (hb.cell (World.block_lt_of_cell? _ _ x1)).trans x1
        replace hbt := hbt.trans (hb.mono hbt.size)
        clear hb
        simp only [pickP, pick, List.map_cons, List.map_nil, Option.map_some, Option.map_none, List.getD_cons_zero, List.getD_cons_succ]
        have c0 : ∀ x : Ext wdv2.heap.size wdv2, x.val.cell? ⟨w.heap.size, 0, none⟩ = some (.slice f.aS f.nS f.cS) := fun x => ((x.cell (blk_lt b0)).trans (blk_cell b0)).trans rfl
        have c1 : ∀ x : Ext wdv2.heap.size wdv2, x.val.cell? ⟨w.heap.size, 1, none⟩ = some (.slice f.aR f.nR f.cR) := fun x => ((x.cell (blk_lt b0)).trans (blk_cell b0)).trans rfl
        have c2 : ∀ x : Ext wdv2.heap.size wdv2, x.val.cell? ⟨w.heap.size, 2, none⟩ = some (.slice f.aP f.nP f.cP) := fun x => ((x.cell (blk_lt b0)).trans (blk_cell b0)).trans rfl
        have c3 : ∀ x : Ext wdv2.heap.size wdv2, x.val.cell? ⟨w.heap.size, 3, none⟩ = some (.slice f.aG f.nG f.cG) := fun x => ((x.cell (blk_lt b0)).trans (blk_cell b0)).trans rfl
        have c4 : ∀ x : Ext wdv2.heap.size wdv2, x.val.cell? ⟨w.heap.size, 4, none⟩ = some (.slice f.aL f.nL f.cL) := fun x => ((x.cell (blk_lt b0)).trans (blk_cell b0)).trans rfl
        have d0 : ∀ x : Ext wdv2.heap.size wdv2, x.val.cell? ⟨w.heap.size + 1, 0, none⟩ = some (.slice (some ad) f.nL c) := fun x => ((x.cell (blk_lt b1)).trans (blk_cell b1)).trans rfl
        have y0 := fun x : Ext wdv2.heap.size wdv2 => (x.cell (World.block_lt_of_cell? _ _ x1)).trans x1
        refine stage_cons ?_
        (repeat (go_big_quiet_step (fail)))
        refine plan_nil ?_
        clear c0 c1 c2 c3 c4 d0 y0
        refine plan_call (by kernel_rfl) (fun K hK => ?_)
        go_simp
        refine (rIn4_any f k ro wdv2 mS mR mL hs).mono ?_
        rintro e wcv2 ⟨rfl, hb⟩
        refine hK.out _ _ hb ?_
        clear hK K
        (try simp only [Act.put, List.setIfInBounds_toArray, List.set_cons_zero, List.set_cons_succ])
        replace hown := own_below hown hb
        replace b0 := blk_below b0 hb
        replace b1 := blk_below b1 hb
        replace x1 := (hb.cell (World.block_lt_of_cell? _ _ x1)).trans x1
        replace hbt := hbt.trans (hb.mono hbt.size)
        clear hb
        rw [e2]
        have mv2 : decide (v2 < V + 1) = true := by simp; omega
        refine stage_cons ?_
        (repeat (go_big_quiet_step (fail)))
        refine plan_nil ?_
        refine plan_none (stage_late ?_)
        obtain ⟨u0, z0⟩ := own_cell hown (j := v2) (by omega)
        have z2 := hown.frozenAt v2
        have hst := (hown.stored v2 (.bool true)).1
        replace hbt := hbt.setCell (p := ⟨bR, v2, none⟩) hR (.bool true)
        replace b0 := blk_other (p := ⟨bR, v2, none⟩) (.bool true) b0 (Ne.symm n0)
        replace b1 := blk_other (p := ⟨bR, v2, none⟩) (.bool true) b1 (Ne.symm n1)
        refine late_cons ?_
        refine late_nil ?_
        refine late_call (by kernel_rfl) (fun K hK => ?_)
        go_simp
        refine hK.out _ _ ?_
        clear hK K
        (try simp only [Act.put, List.setIfInBounds_toArray, List.set_cons_zero, List.set_cons_succ])
        generalize wcv2.setCell ⟨bR, v2, none⟩ (.bool true) = wsv2 at *
        refine late_end ?_
        clear z0 z2 hown u0 mv2
        have hown := hst
        clear hst
        rw [bov_set, bov_set, ← HTK.out] at hown
        go_wp2_with fail
        go_roundw
        case rel => exact ⟨k + 1, by omega, by go_num, hown, b0, b1, hbt⟩
        case measure => simp [intOf]; omega
      · obtain rfl : k = f.nL := by omega
        have d1 : decide ((f.nL : Int) < (f.nL : Int)) = false := by simp
        go_wp2_with fail
        go_ret2
        rw [HC.out, ← HT.out]
        refine ⟨_, rfl, ?_, hbt⟩
        show World.ownsRow _ _ _ _ _ (T f.nL).length _
        rw [HLT.out]
        exact hown

end Go.Proofs.YtojbjaklngdlcaaGreatDoor
