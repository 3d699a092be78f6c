/-
  WeekVars, walked.
-/
import Derived.Test.YtojbjaklngdlcaaGreatDoorFew4
import Derived.Test.YtojbjaklngdlcaaGreatDoorRCk
namespace Go.Proofs.YtojbjaklngdlcaaGreatDoor
open Go.RowKit Go.Shelf
set_option linter.unusedVariables false
set_option linter.unusedSimpArgs false

set_option maxRecDepth 100000 in
set_option maxHeartbeats 3000000 in
theorem weekVars_any (f : Sc.Five) (s : Sc.Sch) (A : Option Addr) (n c : Nat) (l : List Pl) (p q : Int) (mx : Int) (w : World) (hS : Sc.RdSch w w.heap.size f s) (hF : f.nS ≤ 5864062014805 ∧ f.nR ≤ 5864062014805 ∧ f.nP ≤ 5864062014805 ∧ f.nG ≤ 5864062014805 ∧ f.nL ≤ 5864062014805) (hl : RdP w w.heap.size A n c l) (hp : okI p) (hq : okI q) (hm : w.cell? ⟨0, 0, none⟩ = some (.int .i64 mx)) :
    Calls Tryz.prog 3 #[.agg f.vals, .agg #[.slice A n c], .int .i64 p, .int .i64 q] w fun e w' => e = .returned (.bool true) ∧ Below w.heap.size w w' := by
  have hbt := Below.refl w.heap.size w
  have HF := Lib.hid hF
  clear hF
  have HLN := Lib.hid hS.lens
  have mS : f.nS ≤ f.cS ∧ f.cS ≤ 9223372036854775807 := ⟨hS.slots.le, hS.slots.max⟩
  have mR : f.nR ≤ f.cR ∧ f.cR ≤ 9223372036854775807 := ⟨hS.rooms.le, hS.rooms.max⟩
  have mP : f.nP ≤ f.cP ∧ f.cP ≤ 9223372036854775807 := ⟨hS.people.le, hS.people.max⟩
  have mG : f.nG ≤ f.cG ∧ f.cG ≤ 9223372036854775807 := ⟨hS.groups.le, hS.groups.max⟩
  have mL : f.nL ≤ f.cL ∧ f.cL ≤ 9223372036854775807 := ⟨hS.lessons.le, hS.lessons.max⟩
  clear hp hq
  have hl1 := hl.max
  have hl2 := hl.le
  have hlL := Lib.hid hl.len
  obtain ⟨V1, hV⟩ : ∃ V1, V1 = w.alloc (.cells #[.slice f.aS f.nS f.cS, .slice f.aR f.nR f.cR, .slice f.aP f.nP f.cP, .slice f.aG f.nG f.cG, .slice f.aL f.nL f.cL] 28) := ⟨_, rfl⟩
  have b0 := blk_new hV
  have hb := below_new hV
  replace hS := (hS.below hb).more hb.size
  replace hm := (hb.cell (World.block_lt_of_cell? _ _ hm)).trans hm
  replace hl := (hl.below hb).more hb.size
  replace hbt := hbt.trans (hb.mono hbt.size)
  clear hb
  have HSV1 : Hid (V1.heap.size = w.heap.size + 1) := by show V1.heap.size = _; rw [hV, World.size_alloc]
  have HVV1 := Lib.hid hV.symm
  clear hV
  obtain ⟨V2, hV⟩ : ∃ V2, V2 = V1.alloc (.cells #[.slice A n c] 31) := ⟨_, rfl⟩
  have b1 := blk_new hV
  have hb := below_new hV
  replace hS := (hS.below hb).more hb.size
  replace hm := (hb.cell (World.block_lt_of_cell? _ _ hm)).trans hm
  replace hl := (hl.below hb).more hb.size
  replace b0 := blk_below b0 hb
  replace hbt := hbt.trans (hb.mono hbt.size)
  clear hb
  have HSV2 : Hid (V2.heap.size = V1.heap.size + 1) := by show V2.heap.size = _; rw [hV, World.size_alloc]
  have HVV2 := Lib.hid hV.symm
  clear hV
  rw [HSV1.out] at b1
  rw [← HVV1.out] at HVV2
  clear HSV1 HSV2
  unfold Sc.Five.vals
  go_enter Tryz.func3, Tryz.ntmps3
  go_wp2_with fail
  rw [HVV2.out]
  clear HVV1 HVV2
  refine (live4_any mx V2 hm).mono ?_
  rintro e w1 ⟨rfl, hb⟩
  replace hS := (hS.below hb).more hb.size
  replace hm := (hb.cell (World.block_lt_of_cell? _ _ hm)).trans hm
  replace hl := (hl.below hb).more hb.size
  replace b0 := blk_below b0 hb
  replace b1 := blk_below b1 hb
  replace hbt := hbt.trans (hb.mono hbt.size)
  clear hb
  have c0 := blk_cell (j := 0) b0
  simp only [List.getElem?_toArray, List.getElem?_cons_zero, List.getElem?_cons_succ] at c0
  have c1 := blk_cell (j := 1) b0
  simp only [List.getElem?_toArray, List.getElem?_cons_zero, List.getElem?_cons_succ] at c1
  have c2 := blk_cell (j := 2) b0
  simp only [List.getElem?_toArray, List.getElem?_cons_zero, List.getElem?_cons_succ] at c2
  have c3 := blk_cell (j := 3) b0
  simp only [List.getElem?_toArray, List.getElem?_cons_zero, List.getElem?_cons_succ] at c3
  have c4 := blk_cell (j := 4) b0
  simp only [List.getElem?_toArray, List.getElem?_cons_zero, List.getElem?_cons_succ] at c4
  have d0 := blk_cell (j := 0) b1
  simp only [List.getElem?_toArray, List.getElem?_cons_zero, List.getElem?_cons_succ] at d0
  go_wp2_with fail
  clear c0 c1 c2 c3 c4 d0
  refine (few4_any f s A n c w1 hS HF.out ⟨hl2, hl1⟩).mono ?_
  rintro e w2 ⟨bo, rfl, hbo, hb⟩
  have HB := Lib.hid hbo
  clear hbo
  replace hS := (hS.below hb).more hb.size
  replace hm := (hb.cell (World.block_lt_of_cell? _ _ hm)).trans hm
  replace hl := (hl.below hb).more hb.size
  replace b0 := blk_below b0 hb
  replace b1 := blk_below b1 hb
  replace hbt := hbt.trans (hb.mono hbt.size)
  clear hb
  cases bo with
  | false =>
    go_wp2_with fail
    go_ret
    exact ⟨rfl, hbt⟩
  | true =>
    have hz := (HB.out rfl).1
    have HZ := Lib.hid hz
    have hs : f.nS ≤ 1000 ∧ f.nR ≤ 1000 ∧ f.nL ≤ 1000 := ⟨by omega, by omega, by omega⟩
    have HS := Lib.hid hs
    clear hz hs HB
    go_wp2_with fail
    refine wp_region_plan [([0, 1, 3, 4], some 2), ([], some 5), ([6, 7, 8, 10], some 9), ([], some 11), ([12, 13, 14, 15, 16, 17, 19, 20, 21], some 18), ([], some 22), ([23, 24, 25, 26, 27, 28, 30, 31, 32], some 29), ([], some 33), ([34, 35, 36], none)] (by kernel_rfl) (by kernel_rfl) ?_
    intro wd hsz hb
    clear hsz
    replace hS := (hS.below hb).more hb.size
    replace hm := (hb.cell (World.block_lt_of_cell? _ _ hm)).trans hm
    replace hl := (hl.below hb).more hb.size
    replace b0 := blk_below b0 hb
    replace b1 := blk_below b1 hb
    replace hbt := hbt.trans (hb.mono hbt.size)
    clear hb
    simp only [pickP, pick, List.map_cons, List.map_nil, Option.map_some, Option.map_none, List.getD_cons_zero, List.getD_cons_succ]
    have c0 : ∀ x : Ext wd.heap.size wd, x.val.cell? ⟨w.heap.size, 0, none⟩ = some (.slice f.aS f.nS f.cS) := fun x => ((x.cell (blk_lt b0)).trans (blk_cell b0)).trans rfl
    have c1 : ∀ x : Ext wd.heap.size wd, x.val.cell? ⟨w.heap.size, 1, none⟩ = some (.slice f.aR f.nR f.cR) := fun x => ((x.cell (blk_lt b0)).trans (blk_cell b0)).trans rfl
    have c2 : ∀ x : Ext wd.heap.size wd, x.val.cell? ⟨w.heap.size, 2, none⟩ = some (.slice f.aP f.nP f.cP) := fun x => ((x.cell (blk_lt b0)).trans (blk_cell b0)).trans rfl
    have c3 : ∀ x : Ext wd.heap.size wd, x.val.cell? ⟨w.heap.size, 3, none⟩ = some (.slice f.aG f.nG f.cG) := fun x => ((x.cell (blk_lt b0)).trans (blk_cell b0)).trans rfl
    have c4 : ∀ x : Ext wd.heap.size wd, x.val.cell? ⟨w.heap.size, 4, none⟩ = some (.slice f.aL f.nL f.cL) := fun x => ((x.cell (blk_lt b0)).trans (blk_cell b0)).trans rfl
    have d0 : ∀ x : Ext wd.heap.size wd, x.val.cell? ⟨w.heap.size + 1, 0, none⟩ = some (.slice A n c) := fun x => ((x.cell (blk_lt b1)).trans (blk_cell b1)).trans rfl
    refine plan_cons ?_
    (repeat (go_big_quiet_step (fail)))
    refine plan_nil ?_
    clear c0 c1 c2 c3 c4 d0
    refine plan_call (by kernel_rfl) (fun K hK => ?_)
    go_simp
    refine (wCheck_any f s A n c l mx wd hS hl hm).mono ?_
    rintro e x1 ⟨rfl, hb⟩
    refine hK.out _ _ hb ?_
    clear hK K
    (try simp only [Act.put, List.setIfInBounds_toArray, List.set_cons_zero, List.set_cons_succ])
    replace hS := (hS.below hb).more hb.size
    replace hm := (hb.cell (World.block_lt_of_cell? _ _ hm)).trans hm
    replace hl := (hl.below hb).more hb.size
    replace b0 := blk_below b0 hb
    replace b1 := blk_below b1 hb
    replace hbt := hbt.trans (hb.mono hbt.size)
    clear hb
    generalize her : Wk.wchk s l = er
    have HER := Lib.hid her
    clear her
    refine plan_cons ?_
    (repeat (go_big_quiet_step (fail)))
    refine plan_nil ?_
    refine plan_call (by kernel_rfl) (fun K hK => ?_)
    go_simp
    refine (rCheck4_any f s A n c l x1 hS hl HZ.out).mono ?_
    rintro e x2 ⟨rfl, hb⟩
    rw [HER.out]
    refine hK.out _ _ hb ?_
    clear hK K
    (try simp only [Act.put, List.setIfInBounds_toArray, List.set_cons_zero, List.set_cons_succ])
    replace hS := (hS.below hb).more hb.size
    replace hm := (hb.cell (World.block_lt_of_cell? _ _ hm)).trans hm
    replace hl := (hl.below hb).more hb.size
    replace b0 := blk_below b0 hb
    replace b1 := blk_below b1 hb
    replace hbt := hbt.trans (hb.mono hbt.size)
    clear hb
    have E1 : (er == er) = true := by simp
    have c0 : ∀ x : Ext x2.heap.size x2, x.val.cell? ⟨w.heap.size, 0, none⟩ = some (.slice f.aS f.nS f.cS) := fun x => ((x.cell (blk_lt b0)).trans (blk_cell b0)).trans rfl
    have c1 : ∀ x : Ext x2.heap.size x2, x.val.cell? ⟨w.heap.size, 1, none⟩ = some (.slice f.aR f.nR f.cR) := fun x => ((x.cell (blk_lt b0)).trans (blk_cell b0)).trans rfl
    have c2 : ∀ x : Ext x2.heap.size x2, x.val.cell? ⟨w.heap.size, 2, none⟩ = some (.slice f.aP f.nP f.cP) := fun x => ((x.cell (blk_lt b0)).trans (blk_cell b0)).trans rfl
    have c3 : ∀ x : Ext x2.heap.size x2, x.val.cell? ⟨w.heap.size, 3, none⟩ = some (.slice f.aG f.nG f.cG) := fun x => ((x.cell (blk_lt b0)).trans (blk_cell b0)).trans rfl
    have c4 : ∀ x : Ext x2.heap.size x2, x.val.cell? ⟨w.heap.size, 4, none⟩ = some (.slice f.aL f.nL f.cL) := fun x => ((x.cell (blk_lt b0)).trans (blk_cell b0)).trans rfl
    refine plan_cons ?_
    (repeat (go_big_quiet_step (fail)))
    refine plan_nil ?_
    clear c0 c1 c2 c3 c4
    refine plan_call (by kernel_rfl) (fun K hK => ?_)
    go_simp
    refine (wVars_any f x2 mS mR mL HS.out).mono ?_
    rintro e x3 ⟨rfl, hb⟩
    refine hK.out _ _ hb ?_
    clear hK K
    (try simp only [Act.put, List.setIfInBounds_toArray, List.set_cons_zero, List.set_cons_succ])
    replace hS := (hS.below hb).more hb.size
    replace hm := (hb.cell (World.block_lt_of_cell? _ _ hm)).trans hm
    replace hl := (hl.below hb).more hb.size
    replace b0 := blk_below b0 hb
    replace b1 := blk_below b1 hb
    replace hbt := hbt.trans (hb.mono hbt.size)
    clear hb
    obtain ⟨V, hV⟩ : ∃ V, V = f.nL * (f.nS + f.nR) := ⟨_, rfl⟩
    rw [← hV]
    have HV := Lib.hid hV
    clear hV
    refine plan_cons ?_
    (repeat (go_big_quiet_step (fail)))
    refine plan_nil ?_
    refine plan_call (by kernel_rfl) (fun K hK => ?_)
    go_simp
    refine (rVars4_any f x3 mS mR mL HS.out).mono ?_
    rintro e x4 ⟨rfl, hb⟩
    rw [← HV.out]
    refine hK.out _ _ hb ?_
    clear hK K
    (try simp only [Act.put, List.setIfInBounds_toArray, List.set_cons_zero, List.set_cons_succ])
    replace hS := (hS.below hb).more hb.size
    replace hm := (hb.cell (World.block_lt_of_cell? _ _ hm)).trans hm
    replace hl := (hl.below hb).more hb.size
    replace b0 := blk_below b0 hb
    replace b1 := blk_below b1 hb
    replace hbt := hbt.trans (hb.mono hbt.size)
    clear hb
    have c0 : ∀ x : Ext x4.heap.size x4, x.val.cell? ⟨w.heap.size, 0, none⟩ = some (.slice f.aS f.nS f.cS) := fun x => ((x.cell (blk_lt b0)).trans (blk_cell b0)).trans rfl
    have c1 : ∀ x : Ext x4.heap.size x4, x.val.cell? ⟨w.heap.size, 1, none⟩ = some (.slice f.aR f.nR f.cR) := fun x => ((x.cell (blk_lt b0)).trans (blk_cell b0)).trans rfl
    have c2 : ∀ x : Ext x4.heap.size x4, x.val.cell? ⟨w.heap.size, 2, none⟩ = some (.slice f.aP f.nP f.cP) := fun x => ((x.cell (blk_lt b0)).trans (blk_cell b0)).trans rfl
    have c3 : ∀ x : Ext x4.heap.size x4, x.val.cell? ⟨w.heap.size, 3, none⟩ = some (.slice f.aG f.nG f.cG) := fun x => ((x.cell (blk_lt b0)).trans (blk_cell b0)).trans rfl
    have c4 : ∀ x : Ext x4.heap.size x4, x.val.cell? ⟨w.heap.size, 4, none⟩ = some (.slice f.aL f.nL f.cL) := fun x => ((x.cell (blk_lt b0)).trans (blk_cell b0)).trans rfl
    refine plan_cons ?_
    (repeat (go_big_quiet_step (fail)))
    refine plan_nil ?_
    clear c0 c1 c2 c3 c4
    refine plan_call (by kernel_rfl) (fun K hK => ?_)
    go_simp
    refine (wAt_any f p q x4 mS mR mL HS.out).mono ?_
    rintro e x5 ⟨rfl, hb⟩
    refine hK.out _ _ hb ?_
    clear hK K
    (try simp only [Act.put, List.setIfInBounds_toArray, List.set_cons_zero, List.set_cons_succ])
    replace hS := (hS.below hb).more hb.size
    replace hm := (hb.cell (World.block_lt_of_cell? _ _ hm)).trans hm
    replace hl := (hl.below hb).more hb.size
    replace b0 := blk_below b0 hb
    replace b1 := blk_below b1 hb
    replace hbt := hbt.trans (hb.mono hbt.size)
    clear hb
    generalize hat : Wk.atI f.nL f.nS p q = at1
    have HAT := Lib.hid hat
    clear hat
    refine plan_cons ?_
    (repeat (go_big_quiet_step (fail)))
    refine plan_nil ?_
    refine plan_call (by kernel_rfl) (fun K hK => ?_)
    go_simp
    refine (rAt4_any f p q x5 mS mR mL HS.out).mono ?_
    rintro e x6 ⟨rfl, hb⟩
    rw [HAT.out]
    refine hK.out _ _ hb ?_
    clear hK K
    (try simp only [Act.put, List.setIfInBounds_toArray, List.set_cons_zero, List.set_cons_succ])
    replace hS := (hS.below hb).more hb.size
    replace hm := (hb.cell (World.block_lt_of_cell? _ _ hm)).trans hm
    replace hl := (hl.below hb).more hb.size
    replace b0 := blk_below b0 hb
    replace b1 := blk_below b1 hb
    replace hbt := hbt.trans (hb.mono hbt.size)
    clear hb
    have c0 : ∀ x : Ext x6.heap.size x6, x.val.cell? ⟨w.heap.size, 0, none⟩ = some (.slice f.aS f.nS f.cS) := fun x => ((x.cell (blk_lt b0)).trans (blk_cell b0)).trans rfl
    have c1 : ∀ x : Ext x6.heap.size x6, x.val.cell? ⟨w.heap.size, 1, none⟩ = some (.slice f.aR f.nR f.cR) := fun x => ((x.cell (blk_lt b0)).trans (blk_cell b0)).trans rfl
    have c2 : ∀ x : Ext x6.heap.size x6, x.val.cell? ⟨w.heap.size, 2, none⟩ = some (.slice f.aP f.nP f.cP) := fun x => ((x.cell (blk_lt b0)).trans (blk_cell b0)).trans rfl
    have c3 : ∀ x : Ext x6.heap.size x6, x.val.cell? ⟨w.heap.size, 3, none⟩ = some (.slice f.aG f.nG f.cG) := fun x => ((x.cell (blk_lt b0)).trans (blk_cell b0)).trans rfl
    have c4 : ∀ x : Ext x6.heap.size x6, x.val.cell? ⟨w.heap.size, 4, none⟩ = some (.slice f.aL f.nL f.cL) := fun x => ((x.cell (blk_lt b0)).trans (blk_cell b0)).trans rfl
    refine plan_cons ?_
    (repeat (go_big_quiet_step (fail)))
    refine plan_nil ?_
    clear c0 c1 c2 c3 c4
    refine plan_call (by kernel_rfl) (fun K hK => ?_)
    go_simp
    refine (wIn_any f p q x6 mS mR mL HS.out).mono ?_
    rintro e x7 ⟨rfl, hb⟩
    refine hK.out _ _ hb ?_
    clear hK K
    (try simp only [Act.put, List.setIfInBounds_toArray, List.set_cons_zero, List.set_cons_succ])
    replace hS := (hS.below hb).more hb.size
    replace hm := (hb.cell (World.block_lt_of_cell? _ _ hm)).trans hm
    replace hl := (hl.below hb).more hb.size
    replace b0 := blk_below b0 hb
    replace b1 := blk_below b1 hb
    replace hbt := hbt.trans (hb.mono hbt.size)
    clear hb
    generalize hin : Wk.inI f.nL f.nS f.nR p q = in1
    have HIN := Lib.hid hin
    clear hin
    refine plan_cons ?_
    (repeat (go_big_quiet_step (fail)))
    refine plan_nil ?_
    refine plan_call (by kernel_rfl) (fun K hK => ?_)
    go_simp
    refine (rIn4_any f p q x7 mS mR mL HS.out).mono ?_
    rintro e x8 ⟨rfl, hb⟩
    rw [HIN.out]
    refine hK.out _ _ hb ?_
    clear hK K
    (try simp only [Act.put, List.setIfInBounds_toArray, List.set_cons_zero, List.set_cons_succ])
    replace hS := (hS.below hb).more hb.size
    replace hm := (hb.cell (World.block_lt_of_cell? _ _ hm)).trans hm
    replace hl := (hl.below hb).more hb.size
    replace b0 := blk_below b0 hb
    replace b1 := blk_below b1 hb
    replace hbt := hbt.trans (hb.mono hbt.size)
    clear hb
    refine plan_cons ?_
    (repeat (go_big_quiet_step (fail)))
    refine plan_nil ?_
    refine plan_end ?_
    go_wp2_with fail
    go_ret
    exact ⟨rfl, hbt⟩

end Go.Proofs.YtojbjaklngdlcaaGreatDoor
