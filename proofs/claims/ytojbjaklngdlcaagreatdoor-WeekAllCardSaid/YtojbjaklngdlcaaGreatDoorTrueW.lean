/-
  The walk of True.
-/
import Derived.Test.YtojbjaklngdlcaaGreatDoorOfW
import Derived.Test.YtojbjaklngdlcaaGreatDoorLotA
namespace Go.Proofs.YtojbjaklngdlcaaGreatDoor
open Go.RowKit Go.Shelf
set_option linter.unusedVariables false
set_option linter.unusedSimpArgs false

theorem elO : ElK Tryz.prog 1 39 4 (.bool false) 1 := ⟨Tryz.underlying39, by kernel_rfl, rfl, by omega⟩
theorem made_bools (n : Nat) : (madeCells (Value.bool false).cells (n * 1)).toList = bov (List.replicate n false) := by
  rw [Nat.mul_one]
  unfold bov
  rw [List.map_replicate, List.eq_replicate_iff]
  refine ⟨by simp [madeCells], fun b hb => ?_⟩
  simp only [madeCells, Array.toList_map, List.mem_map] at hb
  obtain ⟨x, _, rfl⟩ := hb
  show (#[Value.bool false] : Array Value)[x % 1]! = _
  rw [Nat.mod_one]; rfl
theorem bov_set (l : List Bool) (i : Nat) (b : Bool) : (bov l).set i (.bool b) = bov (l.set i b) := by unfold bov; rw [List.map_set]
theorem bov_length (l : List Bool) : (bov l).length = l.length := by unfold bov; rw [List.length_map]
/-- A row of bools in new memory, and an error. -/
def BoPost (R : List Bool × Int) (w : World) (e : Ending) (w' : World) : Prop :=
  ∃ v, e = .returned (.tuple #[v, .int .i64 R.2]) ∧ w'.ownsRow w.heap.size 4 1 v R.1.length (bov R.1) ∧ Below w.heap.size w w'
theorem bopost_err {R : List Bool × Int} {er : Int} {w w' : World} (hR : R = ([], er)) (hb : Below w.heap.size w w') : BoPost R w (.returned (.tuple #[.slice none 0 0, .int .i64 er])) w' := by
  subst hR
  exact ⟨.slice none 0 0, rfl, World.ownsRow_nil _ _ _ _, hb⟩

set_option maxRecDepth 100000 in
set_option maxHeartbeats 4000000 in
theorem wTrue_any (f : Sc.Five) (s : Sc.Sch) (A : Option Addr) (n c : Nat) (ps : List Pl) (mx : Int) (w : World) (h : Sc.RdSch w w.heap.size f s) (hp : RdP w w.heap.size A n c ps) (hm : w.cell? ⟨0, 0, none⟩ = some (.int .i64 mx)) (hs : f.nS ≤ 1000 ∧ f.nR ≤ 1000 ∧ f.nL ≤ 1000) :
    Calls Tryz.prog 16 #[.agg f.vals, .agg #[.slice A n c]] w (BoPost (Wk.trR s ps) w) := by
  have q1 := hp.max
  have q2 := hp.le
  have hp0 := hp
  have HPL := Lib.hid hp.len
  have HLN := Lib.hid h.lens
  have mS : f.nS ≤ f.cS ∧ f.cS ≤ 9223372036854775807 := ⟨h.slots.le, h.slots.max⟩
  have mR : f.nR ≤ f.cR ∧ f.cR ≤ 9223372036854775807 := ⟨h.rooms.le, h.rooms.max⟩
  have mL : f.nL ≤ f.cL ∧ f.cL ≤ 9223372036854775807 := ⟨h.lessons.le, h.lessons.max⟩
  have hbt := Below.refl w.heap.size w
  obtain ⟨V1, hV⟩ : ∃ V1, V1 = w.alloc (.cells #[.slice f.aS f.nS f.cS, .slice f.aR f.nR f.cR, .slice f.aP f.nP f.cP, .slice f.aG f.nG f.cG, .slice f.aL f.nL f.cL] 28) := ⟨_, rfl⟩
  have b0 := blk_new hV
  have hb := below_new hV
  replace h := (h.below hb).more hb.size
  replace hp := (hp.below hb).more hb.size
  replace hbt := hbt.trans (hb.mono hbt.size)
  clear hb
  have HSV1 : Hid (V1.heap.size = w.heap.size + 1) := by show V1.heap.size = _; rw [hV, World.size_alloc]
  have HVV1 := Lib.hid hV.symm
  clear hV
  obtain ⟨V2, hV⟩ : ∃ V2, V2 = V1.alloc (.cells #[.slice A n c] 31) := ⟨_, rfl⟩
  have b1 := blk_new hV
  have hb := below_new hV
  replace h := (h.below hb).more hb.size
  replace hp := (hp.below hb).more hb.size
  replace b0 := blk_below b0 hb
  replace hbt := hbt.trans (hb.mono hbt.size)
  clear hb
  have HSV2 : Hid (V2.heap.size = V1.heap.size + 1) := by show V2.heap.size = _; rw [hV, World.size_alloc]
  have HVV2 := Lib.hid hV.symm
  clear hV
  rw [HSV1.out] at b1
  rw [← HVV1.out] at HVV2
  have hm2 : V2.cell? ⟨0, 0, none⟩ = some (.int .i64 mx) := (hbt.cell (World.block_lt_of_cell? _ _ hm)).trans hm
  unfold Sc.Five.vals
  have c0 := blk_cell (j := 0) b0
  simp only [List.getElem?_toArray, List.getElem?_cons_zero, List.getElem?_cons_succ] at c0
  have c1 := blk_cell (j := 1) b0
  simp only [List.getElem?_toArray, List.getElem?_cons_zero, List.getElem?_cons_succ] at c1
  have c2 := blk_cell (j := 2) b0
  simp only [List.getElem?_toArray, List.getElem?_cons_zero, List.getElem?_cons_succ] at c2
  have c3 := blk_cell (j := 3) b0
  simp only [List.getElem?_toArray, List.getElem?_cons_zero, List.getElem?_cons_succ] at c3
  have c4 := blk_cell (j := 4) b0
  simp only [List.getElem?_toArray, List.getElem?_cons_zero, List.getElem?_cons_succ] at c4
  have d0 := blk_cell (j := 0) b1
  simp only [List.getElem?_toArray, List.getElem?_cons_zero, List.getElem?_cons_succ] at d0
  rw [← HVV2.out] at c0 c1 c2 c3 c4 d0
  go_enter Tryz.func16, Tryz.ntmps16
  go_wp2_with fail
  rw [HVV2.out]
  clear HVV2 HVV1 HSV1 HSV2 c0 c1 c2 c3 c4 d0
  refine (wCheck_any f s A n c ps mx V2 h hp hm2).mono ?_
  rintro e w3 ⟨rfl, hb⟩
  replace h := (h.below hb).more hb.size
  replace hp := (hp.below hb).more hb.size
  replace b0 := blk_below b0 hb
  replace b1 := blk_below b1 hb
  replace hbt := hbt.trans (hb.mono hbt.size)
  clear hb
  clear hm2
  by_cases hE : Wk.wchk s ps ≠ 0
  · have HC : Hid (Wk.trR s ps = ([], Wk.wchk s ps)) := by show _ = _; unfold Wk.trR; rw [if_pos hE]
    generalize Wk.wchk s ps = er at *
    have dE : (er != 0) = true := by simp; omega
    go_wp2_with fail
    go_ret2
    exact bopost_err HC.out hbt
  · have hE : Wk.wchk s ps = 0 := Classical.not_not.1 hE
    obtain ⟨hk0, hk1, hk2⟩ := Wk.wchk_zero hE
    have HE := Lib.hid hE
    have hnL : n = f.nL := by rw [HPL.out, HLN.out.2.2.2.2] at hk1; exact hk1
    have HPK : Hid (∀ p ∈ ps, Wk.placed f.nS f.nR p) := fun p hq => by have := hk2 p hq; rw [HLN.out.1, HLN.out.2.1] at this; exact this
    rw [hE]
    clear hE hk0 hk1 hk2
    subst hnL
    have HC : Hid (Wk.trR s ps = (Wk.trK f.nL f.nS f.nR ps f.nL, 0)) := by show _ = _; unfold Wk.trR; rw [if_neg (fun hq => hq HE.out), HLN.out.1, HLN.out.2.1, HLN.out.2.2.2.2]
    clear HE
    have c0 := blk_cell (j := 0) b0
    simp only [List.getElem?_toArray, List.getElem?_cons_zero, List.getElem?_cons_succ] at c0
    have c1 := blk_cell (j := 1) b0
    simp only [List.getElem?_toArray, List.getElem?_cons_zero, List.getElem?_cons_succ] at c1
    have c2 := blk_cell (j := 2) b0
    simp only [List.getElem?_toArray, List.getElem?_cons_zero, List.getElem?_cons_succ] at c2
    have c3 := blk_cell (j := 3) b0
    simp only [List.getElem?_toArray, List.getElem?_cons_zero, List.getElem?_cons_succ] at c3
    have c4 := blk_cell (j := 4) b0
    simp only [List.getElem?_toArray, List.getElem?_cons_zero, List.getElem?_cons_succ] at c4
    have d0 := blk_cell (j := 0) b1
    simp only [List.getElem?_toArray, List.getElem?_cons_zero, List.getElem?_cons_succ] at d0
    go_wp2_with fail
    clear c0 c1 c2 c3 c4 d0
    refine (wVars_any f w3 mS mR mL hs).mono ?_
    rintro e w3' ⟨rfl, hb⟩
    replace h := (h.below hb).more hb.size
    replace hp := (hp.below hb).more hb.size
    replace b0 := blk_below b0 hb
    replace b1 := blk_below b1 hb
    replace hbt := hbt.trans (hb.mono hbt.size)
    clear hb
    have hprod : f.nL * (f.nS + f.nR) ≤ 2000000 := Nat.le_trans (Nat.mul_le_mul hs.2.2 (show f.nS + f.nR ≤ 2000 by omega)) (by omega)
    obtain ⟨V, hV⟩ : ∃ V, V = f.nL * (f.nS + f.nR) := ⟨_, rfl⟩
    rw [← hV] at hprod ⊢
    have HV := Lib.hid hV
    clear hV
    obtain ⟨i0, hi, hz0, hz1, hz2⟩ := info_parts elO.i
    have H2 := Lib.hid hz2
    clear hz2
    have hs1 := hbt.size
    go_wp2_with (at_make; refine wpList_make_full _ rfl _ _ 39 rfl w.heap.size 4 i0 (.bool false) 1 Tryz.underlying39 hi hz0 hz1 _ _ _ _ (V + 1) rfl rfl rfl rfl (by rw [H2.out]; omega) (by unfold maxLen; omega) hs1 ?_; intro w4 hown hg4; have hb4 : Below w3'.heap.size w3' w4 := below_of_grown hg4 (Nat.le_refl _) (fun g hg => by cases hg); have d0 := blk_cell (j := 0) (blk_below b1 hb4); simp only [List.getElem?_toArray, List.getElem?_cons_zero, List.getElem?_cons_succ] at d0)
    rw [made_bools] at hown
    have hb := hb4
    clear hb4 hg4 d0
    replace h := (h.below hb).more hb.size
    replace hp := (hp.below hb).more hb.size
    replace b0 := blk_below b0 hb
    replace b1 := blk_below b1 hb
    replace hbt := hbt.trans (hb.mono hbt.size)
    clear hb
    have hR : w.heap.size ≤ w3'.heap.size := hs1
    generalize w3'.heap.size = bR at *
    obtain ⟨T, hT⟩ : ∃ T : Nat → List Bool, T = Wk.trK f.nL f.nS f.nR ps := ⟨_, rfl⟩
    have HT := Lib.hid hT
    clear hT
    have HLT : Hid (∀ k, (T k).length = V + 1) := fun k => by rw [HT.out, HV.out]; exact Wk.trK_length _ _ _ _ k
    have HT0 : Hid (T 0 = List.replicate (V + 1) false) := by show _ = _; rw [HT.out, HV.out]; rfl
    rw [← HT0.out] at hown
    clear HT0
    go_loopw [23] (fun iv wr => ∃ k : Nat, k ≤ f.nL ∧ iv = .int .i64 k ∧ wr.ownsRow w.heap.size 4 1 (.slice (some ⟨bR, 0, none⟩) (V + 1) (V + 1)) (V + 1) (bov (T k)) ∧ wr.heap[w.heap.size]? = some (.cells f.vals 28) ∧ Below w.heap.size w wr) (fun iv _ => f.nL - (intOf iv).toNat)
    case atStart => exact ⟨0, by omega, rfl, hown, b0, hbt⟩
    case round =>
      clear hown b0 b1 hp hbt h
      obtain ⟨k, hk, rfl, hown, b0, hbt⟩ := hrel
      by_cases hkn : k < f.nL
      · have d1 : decide ((k : Int) < (f.nL : Int)) = true := by simp; omega
        have hkl : k < ps.length := by rw [HPL.out]; exact hkn
        obtain ⟨ad, rfl, hab, x0, x1, _, _⟩ := (hp0.below hbt).at_ hkn hkl
        obtain ⟨hq1, hq2⟩ := HPK.out ps[k] (List.getElem_mem hkl)
        have HTK : Hid (T (k + 1) = ((T k).set (Wk.atI f.nL f.nS k ps[k].1).toNat true).set (Wk.inI f.nL f.nS f.nR k ps[k].2).toNat true) := by
          show _ = _
          rw [HT.out, Wk.trK]
          simp only [List.getD_eq_getElem?_getD, List.getElem?_eq_getElem hkl, Option.getD_some]
        obtain ⟨v1, e1, l1, _, _⟩ := Wk.at_range (l := (k : Int)) ⟨by omega, by omega⟩ hq1 f.nR (L := f.nL)
        obtain ⟨v2, e2, l2, _⟩ := Wk.in_range (l := (k : Int)) (L := f.nL) (S := f.nS) ⟨by omega, by omega⟩ hq2
        rw [← HV.out] at l1 l2
        rw [e1, e2, Int.toNat_natCast, Int.toNat_natCast] at HTK
        generalize ps[k] = p at *
        obtain ⟨sl, ro⟩ := p
        dsimp only at *
        clear hq1 hq2
        have d2 : decide (k < f.nL) = true := by simp; omega
        obtain ⟨V6, hV⟩ : ∃ V6, V6 = wr.alloc (.cells #[.int .i64 sl, .int .i64 ro] 62) := ⟨_, rfl⟩
        have b6 := blk_new hV
        have hb := below_new hV
        have HV6 := Lib.hid hV.symm
        clear hV
        replace hown := own_below hown hb
        replace b0 := blk_below b0 hb
        replace hbt := hbt.trans (hb.mono hbt.size)
        clear hb
        go_wp2_with fail
        rw [HV6.out]
        clear HV6 x0 x1 hab
        have hwr : wr.heap.size < V6.heap.size := blk_lt b6
        generalize wr.heap.size = bP at *
        refine wp_region_stage 13 [([0, 1, 2, 3, 4, 6, 7, 8, 9, 10], some 5), ([], some 11), ([12], none)] [([], some 13), ([14], some 15)] (by kernel_rfl) (by kernel_rfl) ?_
        intro wd hsz hb
        clear hsz
        replace hown := own_below hown hb
        replace b0 := blk_below b0 hb
        replace b6 := blk_below b6 hb
        replace hbt := hbt.trans (hb.mono hbt.size)
        clear hb
        simp only [pickP, pick, List.map_cons, List.map_nil, Option.map_some, Option.map_none, List.getD_cons_zero, List.getD_cons_succ]
        have b0u := b0
        unfold Sc.Five.vals at b0u
        have c0 : ∀ x : Ext wd.heap.size wd, x.val.cell? ⟨w.heap.size, 0, none⟩ = some (.slice f.aS f.nS f.cS) := fun x => ((x.cell (blk_lt b0u)).trans (blk_cell b0u)).trans rfl
        have c1 : ∀ x : Ext wd.heap.size wd, x.val.cell? ⟨w.heap.size, 1, none⟩ = some (.slice f.aR f.nR f.cR) := fun x => ((x.cell (blk_lt b0u)).trans (blk_cell b0u)).trans rfl
        have c2 : ∀ x : Ext wd.heap.size wd, x.val.cell? ⟨w.heap.size, 2, none⟩ = some (.slice f.aP f.nP f.cP) := fun x => ((x.cell (blk_lt b0u)).trans (blk_cell b0u)).trans rfl
        have c3 : ∀ x : Ext wd.heap.size wd, x.val.cell? ⟨w.heap.size, 3, none⟩ = some (.slice f.aG f.nG f.cG) := fun x => ((x.cell (blk_lt b0u)).trans (blk_cell b0u)).trans rfl
        have c4 : ∀ x : Ext wd.heap.size wd, x.val.cell? ⟨w.heap.size, 4, none⟩ = some (.slice f.aL f.nL f.cL) := fun x => ((x.cell (blk_lt b0u)).trans (blk_cell b0u)).trans rfl
        have y0 : ∀ x : Ext wd.heap.size wd, x.val.cell? ⟨bP, 0, none⟩ = some (.int .i64 sl) := fun x => ((x.cell (blk_lt b6)).trans (blk_cell b6)).trans rfl
        have y1 : ∀ x : Ext wd.heap.size wd, x.val.cell? ⟨bP, 1, none⟩ = some (.int .i64 ro) := fun x => ((x.cell (blk_lt b6)).trans (blk_cell b6)).trans rfl
        refine stage_cons ?_
        (repeat (go_big_quiet_step (fail)))
        refine plan_nil ?_
        clear c0 c1 c2 c3 c4 y0 y1 b0u
        refine plan_call (by kernel_rfl) (fun K hK => ?_)
        go_simp
        refine (wAt_any f k sl wd mS mR mL hs).mono ?_
        rintro e w7 ⟨rfl, hb⟩
        refine hK.out _ _ hb ?_
        clear hK K
        (try simp only [Act.put, List.setIfInBounds_toArray, List.set_cons_zero, List.set_cons_succ])
        replace hown := own_below hown hb
        replace b0 := blk_below b0 hb
        replace b6 := blk_below b6 hb
        replace hbt := hbt.trans (hb.mono hbt.size)
        clear hb
        rw [e1]
        refine stage_cons ?_
        (repeat (go_big_quiet_step (fail)))
        refine plan_nil ?_
        refine plan_call (by kernel_rfl) (fun K hK => ?_)
        go_simp
        refine (wIn_any f k ro w7 mS mR mL hs).mono ?_
        rintro e w8 ⟨rfl, hb⟩
        refine hK.out _ _ hb ?_
        clear hK K
        (try simp only [Act.put, List.setIfInBounds_toArray, List.set_cons_zero, List.set_cons_succ])
        replace hown := own_below hown hb
        replace b0 := blk_below b0 hb
        replace b6 := blk_below b6 hb
        replace hbt := hbt.trans (hb.mono hbt.size)
        clear hb
        rw [e2]
        have m1 : decide (v1 < V + 1) = true := by simp; omega
        have m2 : decide (v2 < V + 1) = true := by simp; omega
        refine stage_cons ?_
        (repeat (go_big_quiet_step (fail)))
        refine plan_nil ?_
        refine plan_none (stage_late ?_)
        obtain ⟨u0, z0⟩ := own_cell hown (j := v1) (by omega)
        have z2 := hown.frozenAt v1
        have n0 : w.heap.size ≠ bR := own_blk_ne hown b0 (by decide) bR rfl
        have hst := (hown.stored v1 (.bool true)).1
        replace hbt := hbt.setCell (p := ⟨bR, v1, none⟩) hR (.bool true)
        replace b0 := blk_other (p := ⟨bR, v1, none⟩) (.bool true) b0 (Ne.symm n0)
        refine late_cons ?_
        refine late_nil ?_
        refine late_call (by kernel_rfl) (fun K hK => ?_)
        go_simp
        refine hK.out _ _ ?_
        clear hK K
        (try simp only [Act.put, List.setIfInBounds_toArray, List.set_cons_zero, List.set_cons_succ])
        generalize w8.setCell ⟨bR, v1, none⟩ (.bool true) = w9 at *
        clear z0 z2 hown u0
        refine late_cons ?_
        (repeat (go_big_quiet_step (fail)))
        refine late_nil ?_
        obtain ⟨u1, z1⟩ := own_cell hst (j := v2) (by omega)
        have z3 := hst.frozenAt v2
        have hst2 := (hst.stored v2 (.bool true)).1
        replace hbt := hbt.setCell (p := ⟨bR, v2, none⟩) hR (.bool true)
        replace b0 := blk_other (p := ⟨bR, v2, none⟩) (.bool true) b0 (Ne.symm n0)
        rw [bov_set, bov_set, ← HTK.out] at hst2
        refine late_call (by kernel_rfl) (fun K hK => ?_)
        go_simp
        refine hK.out _ _ ?_
        clear hK K
        (try simp only [Act.put, List.setIfInBounds_toArray, List.set_cons_zero, List.set_cons_succ])
        generalize w9.setCell ⟨bR, v2, none⟩ (.bool true) = w10 at *
        refine late_end ?_
        go_wp2_with fail
        go_roundw
        case rel => exact ⟨k + 1, by omega, by go_num, hst2, b0, hbt⟩
        case measure => simp [intOf]; omega
      · obtain rfl : k = f.nL := by omega
        have d1 : decide ((f.nL : Int) < (f.nL : Int)) = false := by simp
        go_wp2_with fail
        go_ret2
        rw [HC.out, ← HT.out]
        refine ⟨_, rfl, ?_, hbt⟩
        show World.ownsRow _ _ _ _ _ (T f.nL).length _
        rw [HLT.out]
        exact hown
end Go.Proofs.YtojbjaklngdlcaaGreatDoor
