/-
  SchoolLookupSpec, walked.
-/
import Derived.Test.YtfockoihmoljfaaGreatDoorLive3
import Derived.Test.YtfockoihmoljfaaGreatDoorFewW3
import Derived.Test.YtfockoihmoljfaaGreatDoorRLook
import Derived.Test.YtfockoihmoljfaaGreatDoorRCk3
namespace Go.Proofs.YtfockoihmoljfaaGreatDoor
open Go.RowKit Go.Shelf
set_option linter.unusedVariables false
set_option linter.unusedSimpArgs false

set_option maxRecDepth 100000 in
set_option maxHeartbeats 8000000 in
theorem schoolLookupSpec_any (f : Sc.Five) (s : Sc.Sch) (k x : Int) (nm : List UInt8) (mx : Int) (w : World) (hS : Sc.RdSch w w.heap.size f s) (hF : f.nS ≤ 5864062014805 ∧ f.nR ≤ 5864062014805 ∧ f.nP ≤ 5864062014805 ∧ f.nG ≤ 5864062014805 ∧ f.nL ≤ 5864062014805) (hnm : Sc.okT nm) (hm : w.cell? ⟨0, 0, none⟩ = some (.int .i64 mx)) :
    Calls Tryz.prog 3 #[.agg f.vals, .int .i64 k, .int .i64 x, .string (strOf nm)] w fun e w' => e = .returned (.bool true) ∧ Below w.heap.size w w' := by
  have hbt := Below.refl w.heap.size w
  have HF := Lib.hid hF
  clear hF
  have HLN := Lib.hid hS.lens
  have mS : f.nS ≤ f.cS ∧ f.cS ≤ 9223372036854775807 := ⟨hS.slots.le, hS.slots.max⟩
  have mR : f.nR ≤ f.cR ∧ f.cR ≤ 9223372036854775807 := ⟨hS.rooms.le, hS.rooms.max⟩
  have mP : f.nP ≤ f.cP ∧ f.cP ≤ 9223372036854775807 := ⟨hS.people.le, hS.people.max⟩
  have mG : f.nG ≤ f.cG ∧ f.cG ≤ 9223372036854775807 := ⟨hS.groups.le, hS.groups.max⟩
  have mL : f.nL ≤ f.cL ∧ f.cL ≤ 9223372036854775807 := ⟨hS.lessons.le, hS.lessons.max⟩
  obtain ⟨V1, hV⟩ : ∃ V1, V1 = w.alloc (.cells #[.slice f.aS f.nS f.cS, .slice f.aR f.nR f.cR, .slice f.aP f.nP f.cP, .slice f.aG f.nG f.cG, .slice f.aL f.nL f.cL] 28) := ⟨_, rfl⟩
  have b0 := blk_new hV
  have hb := below_new hV
  replace hS := (hS.below hb).more hb.size
  replace hm := (hb.cell (World.block_lt_of_cell? _ _ hm)).trans hm
  replace hbt := hbt.trans (hb.mono hbt.size)
  clear hb
  have HSV1 : Hid (V1.heap.size = w.heap.size + 1) := by show V1.heap.size = _; rw [hV, World.size_alloc]
  have HVV1 := Lib.hid hV.symm
  clear hV
  clear HSV1
  unfold Sc.Five.vals
  go_enter Tryz.func3, Tryz.ntmps3
  go_wp2_with fail
  rw [HVV1.out]
  clear HVV1
  refine (live3_any mx V1 hm).mono ?_
  rintro e w1 ⟨rfl, hb⟩
  replace hS := (hS.below hb).more hb.size
  replace hm := (hb.cell (World.block_lt_of_cell? _ _ hm)).trans hm
  replace b0 := blk_below b0 hb
  replace hbt := hbt.trans (hb.mono hbt.size)
  clear hb
  have c0 := blk_cell (j := 0) b0
  simp only [List.getElem?_toArray, List.getElem?_cons_zero, List.getElem?_cons_succ] at c0
  have c1 := blk_cell (j := 1) b0
  simp only [List.getElem?_toArray, List.getElem?_cons_zero, List.getElem?_cons_succ] at c1
  have c2 := blk_cell (j := 2) b0
  simp only [List.getElem?_toArray, List.getElem?_cons_zero, List.getElem?_cons_succ] at c2
  have c3 := blk_cell (j := 3) b0
  simp only [List.getElem?_toArray, List.getElem?_cons_zero, List.getElem?_cons_succ] at c3
  have c4 := blk_cell (j := 4) b0
  simp only [List.getElem?_toArray, List.getElem?_cons_zero, List.getElem?_cons_succ] at c4
  go_wp2_with fail
  clear c0 c1 c2 c3 c4
  refine (rFew3_any f s w1 hS HF.out).mono ?_
  rintro e w2 ⟨bo, rfl, hbo, hb⟩
  have HB := Lib.hid hbo
  clear hbo
  replace hS := (hS.below hb).more hb.size
  replace hm := (hb.cell (World.block_lt_of_cell? _ _ hm)).trans hm
  replace b0 := blk_below b0 hb
  replace hbt := hbt.trans (hb.mono hbt.size)
  clear hb
  cases bo with
  | false =>
    go_wp2_with fail
    go_ret
    exact ⟨rfl, hbt⟩
  | true =>
    have hz := HB.out rfl
    have HZ := Lib.hid hz
    clear hz HB
    unfold Sc.okT at hnm
    obtain ⟨nn, hnn⟩ : ∃ nn, nn = nm.length := ⟨_, rfl⟩
    have hsz : (strOf nm).size = nn := by rw [hnn]; rfl
    rw [← hnn] at hnm
    clear hnn
    by_cases h1 : 200 < nn
    · have th1 : decide ((200 : Int) < (nn : Int)) = true := by simp; omega
      have uh1 : decide (200 < nn) = true := by simp; omega
      go_wp2_with fail
      go_ret
      exact ⟨rfl, hbt⟩
    · have th1 : decide ((200 : Int) < (nn : Int)) = false := by simp; omega
      have uh1 : decide (200 < nn) = false := by simp; omega
      have hz := HZ.out
      have hF := HF.out
      have c0 := blk_cell (j := 0) b0
      simp only [List.getElem?_toArray, List.getElem?_cons_zero, List.getElem?_cons_succ] at c0
      have c1 := blk_cell (j := 1) b0
      simp only [List.getElem?_toArray, List.getElem?_cons_zero, List.getElem?_cons_succ] at c1
      have c2 := blk_cell (j := 2) b0
      simp only [List.getElem?_toArray, List.getElem?_cons_zero, List.getElem?_cons_succ] at c2
      have c3 := blk_cell (j := 3) b0
      simp only [List.getElem?_toArray, List.getElem?_cons_zero, List.getElem?_cons_succ] at c3
      have c4 := blk_cell (j := 4) b0
      simp only [List.getElem?_toArray, List.getElem?_cons_zero, List.getElem?_cons_succ] at c4
      go_wp2_with fail
      clear c0 c1 c2 c3 c4
      refine (sFind_any f s k nm w2 hS).mono ?_
      rintro e w3 ⟨rfl, hb⟩
      generalize hf1 : (Sc.findR (Sc.names s k) nm).1 = f1
      generalize hf2 : (Sc.findR (Sc.names s k) nm).2 = f2
      have HF1 := Lib.hid hf1
      have HF2 := Lib.hid hf2
      clear hf1 hf2
      replace hS := (hS.below hb).more hb.size
      replace hm := (hb.cell (World.block_lt_of_cell? _ _ hm)).trans hm
      replace b0 := blk_below b0 hb
      replace hbt := hbt.trans (hb.mono hbt.size)
      clear hb
      have c0 := blk_cell (j := 0) b0
      simp only [List.getElem?_toArray, List.getElem?_cons_zero, List.getElem?_cons_succ] at c0
      have c1 := blk_cell (j := 1) b0
      simp only [List.getElem?_toArray, List.getElem?_cons_zero, List.getElem?_cons_succ] at c1
      have c2 := blk_cell (j := 2) b0
      simp only [List.getElem?_toArray, List.getElem?_cons_zero, List.getElem?_cons_succ] at c2
      have c3 := blk_cell (j := 3) b0
      simp only [List.getElem?_toArray, List.getElem?_cons_zero, List.getElem?_cons_succ] at c3
      have c4 := blk_cell (j := 4) b0
      simp only [List.getElem?_toArray, List.getElem?_cons_zero, List.getElem?_cons_succ] at c4
      go_wp2_with fail
      clear c0 c1 c2 c3 c4
      refine (rFind3_any f s k nm w3 hS HF.out).mono ?_
      rintro e w4 ⟨rfl, hb⟩
      rw [HF1.out, HF2.out]
      replace hS := (hS.below hb).more hb.size
      replace hm := (hb.cell (World.block_lt_of_cell? _ _ hm)).trans hm
      replace b0 := blk_below b0 hb
      replace hbt := hbt.trans (hb.mono hbt.size)
      clear hb
      go_wp2_with fail
      refine wp_region_plan [([0, 2], some 1), ([], some 3), ([4, 5, 6, 7, 9, 10], some 8), ([], some 11), ([12, 13, 14, 15, 16, 17, 19, 20, 21], some 18), ([], some 22), ([23, 24, 25, 26, 27, 28, 29, 30, 31, 32, 33, 34, 35], none)] (by kernel_rfl) (by kernel_rfl) ?_
      intro wd hsz hb
      clear hsz
      replace hS := (hS.below hb).more hb.size
      replace hm := (hb.cell (World.block_lt_of_cell? _ _ hm)).trans hm
      replace b0 := blk_below b0 hb
      replace hbt := hbt.trans (hb.mono hbt.size)
      clear hb
      simp only [pickP, pick, List.map_cons, List.map_nil, Option.map_some, Option.map_none, List.getD_cons_zero, List.getD_cons_succ]
      have c0 : ∀ x : Ext wd.heap.size wd, x.val.cell? ⟨w.heap.size, 0, none⟩ = some (.slice f.aS f.nS f.cS) := fun x => ((x.cell (blk_lt b0)).trans (blk_cell b0)).trans rfl
      have c1 : ∀ x : Ext wd.heap.size wd, x.val.cell? ⟨w.heap.size, 1, none⟩ = some (.slice f.aR f.nR f.cR) := fun x => ((x.cell (blk_lt b0)).trans (blk_cell b0)).trans rfl
      have c2 : ∀ x : Ext wd.heap.size wd, x.val.cell? ⟨w.heap.size, 2, none⟩ = some (.slice f.aP f.nP f.cP) := fun x => ((x.cell (blk_lt b0)).trans (blk_cell b0)).trans rfl
      have c3 : ∀ x : Ext wd.heap.size wd, x.val.cell? ⟨w.heap.size, 3, none⟩ = some (.slice f.aG f.nG f.cG) := fun x => ((x.cell (blk_lt b0)).trans (blk_cell b0)).trans rfl
      have c4 : ∀ x : Ext wd.heap.size wd, x.val.cell? ⟨w.heap.size, 4, none⟩ = some (.slice f.aL f.nL f.cL) := fun x => ((x.cell (blk_lt b0)).trans (blk_cell b0)).trans rfl
      refine plan_cons ?_
      (repeat (go_big_quiet_step (fail)))
      refine plan_nil ?_
      clear c0 c1 c2 c3 c4
      refine plan_call (by kernel_rfl) (fun K hK => ?_)
      go_simp
      refine (sCheck_any f s mx wd hS hm).mono ?_
      rintro e x1 ⟨rfl, hb⟩
      generalize her : Sc.chk s = er
      have HER := Lib.hid her
      clear her
      refine hK.out _ _ hb ?_
      clear hK K
      (try simp only [Act.put, List.setIfInBounds_toArray, List.set_cons_zero, List.set_cons_succ])
      replace hS := (hS.below hb).more hb.size
      replace hm := (hb.cell (World.block_lt_of_cell? _ _ hm)).trans hm
      replace b0 := blk_below b0 hb
      replace hbt := hbt.trans (hb.mono hbt.size)
      clear hb
      have c0 : ∀ x : Ext x1.heap.size x1, x.val.cell? ⟨w.heap.size, 0, none⟩ = some (.slice f.aS f.nS f.cS) := fun x => ((x.cell (blk_lt b0)).trans (blk_cell b0)).trans rfl
      have c1 : ∀ x : Ext x1.heap.size x1, x.val.cell? ⟨w.heap.size, 1, none⟩ = some (.slice f.aR f.nR f.cR) := fun x => ((x.cell (blk_lt b0)).trans (blk_cell b0)).trans rfl
      have c2 : ∀ x : Ext x1.heap.size x1, x.val.cell? ⟨w.heap.size, 2, none⟩ = some (.slice f.aP f.nP f.cP) := fun x => ((x.cell (blk_lt b0)).trans (blk_cell b0)).trans rfl
      have c3 : ∀ x : Ext x1.heap.size x1, x.val.cell? ⟨w.heap.size, 3, none⟩ = some (.slice f.aG f.nG f.cG) := fun x => ((x.cell (blk_lt b0)).trans (blk_cell b0)).trans rfl
      have c4 : ∀ x : Ext x1.heap.size x1, x.val.cell? ⟨w.heap.size, 4, none⟩ = some (.slice f.aL f.nL f.cL) := fun x => ((x.cell (blk_lt b0)).trans (blk_cell b0)).trans rfl
      refine plan_cons ?_
      (repeat (go_big_quiet_step (fail)))
      refine plan_nil ?_
      clear c0 c1 c2 c3 c4
      refine plan_call (by kernel_rfl) (fun K hK => ?_)
      go_simp
      refine (rCheck3_any f s x1 hS HZ.out).mono ?_
      rintro e x2 ⟨rfl, hb⟩
      rw [HER.out]
      refine hK.out _ _ hb ?_
      clear hK K
      (try simp only [Act.put, List.setIfInBounds_toArray, List.set_cons_zero, List.set_cons_succ])
      replace hS := (hS.below hb).more hb.size
      replace hm := (hb.cell (World.block_lt_of_cell? _ _ hm)).trans hm
      replace b0 := blk_below b0 hb
      replace hbt := hbt.trans (hb.mono hbt.size)
      clear hb
      have E1 : (er == er) = true := by simp
      have c0 : ∀ x : Ext x2.heap.size x2, x.val.cell? ⟨w.heap.size, 0, none⟩ = some (.slice f.aS f.nS f.cS) := fun x => ((x.cell (blk_lt b0)).trans (blk_cell b0)).trans rfl
      have c1 : ∀ x : Ext x2.heap.size x2, x.val.cell? ⟨w.heap.size, 1, none⟩ = some (.slice f.aR f.nR f.cR) := fun x => ((x.cell (blk_lt b0)).trans (blk_cell b0)).trans rfl
      have c2 : ∀ x : Ext x2.heap.size x2, x.val.cell? ⟨w.heap.size, 2, none⟩ = some (.slice f.aP f.nP f.cP) := fun x => ((x.cell (blk_lt b0)).trans (blk_cell b0)).trans rfl
      have c3 : ∀ x : Ext x2.heap.size x2, x.val.cell? ⟨w.heap.size, 3, none⟩ = some (.slice f.aG f.nG f.cG) := fun x => ((x.cell (blk_lt b0)).trans (blk_cell b0)).trans rfl
      have c4 : ∀ x : Ext x2.heap.size x2, x.val.cell? ⟨w.heap.size, 4, none⟩ = some (.slice f.aL f.nL f.cL) := fun x => ((x.cell (blk_lt b0)).trans (blk_cell b0)).trans rfl
      refine plan_cons ?_
      (repeat (go_big_quiet_step (fail)))
      refine plan_nil ?_
      clear c0 c1 c2 c3 c4
      refine plan_call (by kernel_rfl) (fun K hK => ?_)
      go_simp
      refine (sCount_any f s k x2 hS).mono ?_
      rintro e x3 ⟨rfl, hb⟩
      generalize hct : (Sc.names s k).length = ct
      have HCT := Lib.hid hct
      clear hct
      refine hK.out _ _ hb ?_
      clear hK K
      (try simp only [Act.put, List.setIfInBounds_toArray, List.set_cons_zero, List.set_cons_succ])
      replace hS := (hS.below hb).more hb.size
      replace hm := (hb.cell (World.block_lt_of_cell? _ _ hm)).trans hm
      replace b0 := blk_below b0 hb
      replace hbt := hbt.trans (hb.mono hbt.size)
      clear hb
      have c0 : ∀ x : Ext x3.heap.size x3, x.val.cell? ⟨w.heap.size, 0, none⟩ = some (.slice f.aS f.nS f.cS) := fun x => ((x.cell (blk_lt b0)).trans (blk_cell b0)).trans rfl
      have c1 : ∀ x : Ext x3.heap.size x3, x.val.cell? ⟨w.heap.size, 1, none⟩ = some (.slice f.aR f.nR f.cR) := fun x => ((x.cell (blk_lt b0)).trans (blk_cell b0)).trans rfl
      have c2 : ∀ x : Ext x3.heap.size x3, x.val.cell? ⟨w.heap.size, 2, none⟩ = some (.slice f.aP f.nP f.cP) := fun x => ((x.cell (blk_lt b0)).trans (blk_cell b0)).trans rfl
      have c3 : ∀ x : Ext x3.heap.size x3, x.val.cell? ⟨w.heap.size, 3, none⟩ = some (.slice f.aG f.nG f.cG) := fun x => ((x.cell (blk_lt b0)).trans (blk_cell b0)).trans rfl
      have c4 : ∀ x : Ext x3.heap.size x3, x.val.cell? ⟨w.heap.size, 4, none⟩ = some (.slice f.aL f.nL f.cL) := fun x => ((x.cell (blk_lt b0)).trans (blk_cell b0)).trans rfl
      refine plan_cons ?_
      (repeat (go_big_quiet_step (fail)))
      refine plan_nil ?_
      clear c0 c1 c2 c3 c4
      refine plan_call (by kernel_rfl) (fun K hK => ?_)
      go_simp
      refine (rCount3_any f s k x3 hS HF.out).mono ?_
      rintro e x4 ⟨rfl, hb⟩
      rw [HCT.out]
      refine hK.out _ _ hb ?_
      clear hK K
      (try simp only [Act.put, List.setIfInBounds_toArray, List.set_cons_zero, List.set_cons_succ])
      replace hS := (hS.below hb).more hb.size
      replace hm := (hb.cell (World.block_lt_of_cell? _ _ hm)).trans hm
      replace b0 := blk_below b0 hb
      replace hbt := hbt.trans (hb.mono hbt.size)
      clear hb
      have c0 : ∀ x : Ext x4.heap.size x4, x.val.cell? ⟨w.heap.size, 0, none⟩ = some (.slice f.aS f.nS f.cS) := fun x => ((x.cell (blk_lt b0)).trans (blk_cell b0)).trans rfl
      have c1 : ∀ x : Ext x4.heap.size x4, x.val.cell? ⟨w.heap.size, 1, none⟩ = some (.slice f.aR f.nR f.cR) := fun x => ((x.cell (blk_lt b0)).trans (blk_cell b0)).trans rfl
      have c2 : ∀ x : Ext x4.heap.size x4, x.val.cell? ⟨w.heap.size, 2, none⟩ = some (.slice f.aP f.nP f.cP) := fun x => ((x.cell (blk_lt b0)).trans (blk_cell b0)).trans rfl
      have c3 : ∀ x : Ext x4.heap.size x4, x.val.cell? ⟨w.heap.size, 3, none⟩ = some (.slice f.aG f.nG f.cG) := fun x => ((x.cell (blk_lt b0)).trans (blk_cell b0)).trans rfl
      have c4 : ∀ x : Ext x4.heap.size x4, x.val.cell? ⟨w.heap.size, 4, none⟩ = some (.slice f.aL f.nL f.cL) := fun x => ((x.cell (blk_lt b0)).trans (blk_cell b0)).trans rfl
      refine plan_cons ?_
      (repeat (go_big_quiet_step (fail)))
      refine plan_nil ?_
      clear c0 c1 c2 c3 c4
      refine plan_call (by kernel_rfl) (fun K hK => ?_)
      go_simp
      refine (sName_any f s k x x4 hS).mono ?_
      rintro e x5 ⟨rfl, hb⟩
      generalize hna : strOf (Sc.nameAt (Sc.names s k) x) = na
      have HNA := Lib.hid hna
      clear hna
      refine hK.out _ _ hb ?_
      clear hK K
      (try simp only [Act.put, List.setIfInBounds_toArray, List.set_cons_zero, List.set_cons_succ])
      replace hS := (hS.below hb).more hb.size
      replace hm := (hb.cell (World.block_lt_of_cell? _ _ hm)).trans hm
      replace b0 := blk_below b0 hb
      replace hbt := hbt.trans (hb.mono hbt.size)
      clear hb
      have c0 : ∀ x : Ext x5.heap.size x5, x.val.cell? ⟨w.heap.size, 0, none⟩ = some (.slice f.aS f.nS f.cS) := fun x => ((x.cell (blk_lt b0)).trans (blk_cell b0)).trans rfl
      have c1 : ∀ x : Ext x5.heap.size x5, x.val.cell? ⟨w.heap.size, 1, none⟩ = some (.slice f.aR f.nR f.cR) := fun x => ((x.cell (blk_lt b0)).trans (blk_cell b0)).trans rfl
      have c2 : ∀ x : Ext x5.heap.size x5, x.val.cell? ⟨w.heap.size, 2, none⟩ = some (.slice f.aP f.nP f.cP) := fun x => ((x.cell (blk_lt b0)).trans (blk_cell b0)).trans rfl
      have c3 : ∀ x : Ext x5.heap.size x5, x.val.cell? ⟨w.heap.size, 3, none⟩ = some (.slice f.aG f.nG f.cG) := fun x => ((x.cell (blk_lt b0)).trans (blk_cell b0)).trans rfl
      have c4 : ∀ x : Ext x5.heap.size x5, x.val.cell? ⟨w.heap.size, 4, none⟩ = some (.slice f.aL f.nL f.cL) := fun x => ((x.cell (blk_lt b0)).trans (blk_cell b0)).trans rfl
      refine plan_cons ?_
      (repeat (go_big_quiet_step (fail)))
      refine plan_nil ?_
      clear c0 c1 c2 c3 c4
      refine plan_call (by kernel_rfl) (fun K hK => ?_)
      go_simp
      refine (rName3_any f s k x x5 hS HF.out).mono ?_
      rintro e x6 ⟨rfl, hb⟩
      rw [HNA.out]
      refine hK.out _ _ hb ?_
      clear hK K
      (try simp only [Act.put, List.setIfInBounds_toArray, List.set_cons_zero, List.set_cons_succ])
      replace hS := (hS.below hb).more hb.size
      replace hm := (hb.cell (World.block_lt_of_cell? _ _ hm)).trans hm
      replace b0 := blk_below b0 hb
      replace hbt := hbt.trans (hb.mono hbt.size)
      clear hb
      have E2 : (na.toList == na.toList) = true := by simp
      have E3 : (f1 == f1) = true := by simp
      have E4 : (f2 == f2) = true := by simp
      refine plan_cons ?_
      (repeat (go_big_quiet_step (fail)))
      refine plan_nil ?_
      refine plan_end ?_
      go_wp2_with fail
      go_ret
      exact ⟨rfl, hbt⟩

end Go.Proofs.YtfockoihmoljfaaGreatDoor
