/-
  SchoolCodecSpec, walked.
-/
import Derived.Test.YtfockoihmoljfaaGreatDoorLive3
import Derived.Test.YtfockoihmoljfaaGreatDoorFewW3
import Derived.Test.YtfockoihmoljfaaGreatDoorRPut3
import Derived.Test.YtfockoihmoljfaaGreatDoorRGet3
namespace Go.Proofs.YtfockoihmoljfaaGreatDoor
open Go.RowKit Go.Shelf
set_option linter.unusedVariables false
set_option linter.unusedSimpArgs false

set_option maxRecDepth 100000 in
set_option maxHeartbeats 8000000 in
theorem schoolCodecSpec_any (f : Sc.Five) (s : Sc.Sch) (C : Option Addr) (k cc : Nat) (cs : List UInt8) (mx : Int) (w : World) (hS : Sc.RdSch w w.heap.size f s) (hF : f.nS ≤ 5864062014805 ∧ f.nR ≤ 5864062014805 ∧ f.nP ≤ 5864062014805 ∧ f.nG ≤ 5864062014805 ∧ f.nL ≤ 5864062014805) (hC : RdB w w.heap.size C k cc cs) (hm : w.cell? ⟨0, 0, none⟩ = some (.int .i64 mx)) :
    Calls Tryz.prog 4 #[.agg f.vals, .slice C k cc] w fun e w' => e = .returned (.bool true) ∧ Below w.heap.size w w' := by
  have hbt := Below.refl w.heap.size w
  have HF := Lib.hid hF
  clear hF
  have HLN := Lib.hid hS.lens
  have mS : f.nS ≤ f.cS ∧ f.cS ≤ 9223372036854775807 := ⟨hS.slots.le, hS.slots.max⟩
  have mR : f.nR ≤ f.cR ∧ f.cR ≤ 9223372036854775807 := ⟨hS.rooms.le, hS.rooms.max⟩
  have mP : f.nP ≤ f.cP ∧ f.cP ≤ 9223372036854775807 := ⟨hS.people.le, hS.people.max⟩
  have mG : f.nG ≤ f.cG ∧ f.cG ≤ 9223372036854775807 := ⟨hS.groups.le, hS.groups.max⟩
  have mL : f.nL ≤ f.cL ∧ f.cL ≤ 9223372036854775807 := ⟨hS.lessons.le, hS.lessons.max⟩
  have hC1 := hC.max
  have hC2 := hC.le
  have hCL := Lib.hid hC.len
  obtain ⟨V1, hV⟩ : ∃ V1, V1 = w.alloc (.cells #[.slice f.aS f.nS f.cS, .slice f.aR f.nR f.cR, .slice f.aP f.nP f.cP, .slice f.aG f.nG f.cG, .slice f.aL f.nL f.cL] 28) := ⟨_, rfl⟩
  have b0 := blk_new hV
  have hb := below_new hV
  replace hS := (hS.below hb).more hb.size
  replace hm := (hb.cell (World.block_lt_of_cell? _ _ hm)).trans hm
  replace hC := (hC.below hb).more hb.size
  replace hbt := hbt.trans (hb.mono hbt.size)
  clear hb
  have HSV1 : Hid (V1.heap.size = w.heap.size + 1) := by show V1.heap.size = _; rw [hV, World.size_alloc]
  have HVV1 := Lib.hid hV.symm
  clear hV
  clear HSV1
  unfold Sc.Five.vals
  go_enter Tryz.func4, Tryz.ntmps4
  go_wp2_with fail
  rw [HVV1.out]
  clear HVV1
  refine (live3_any mx V1 hm).mono ?_
  rintro e w1 ⟨rfl, hb⟩
  replace hS := (hS.below hb).more hb.size
  replace hm := (hb.cell (World.block_lt_of_cell? _ _ hm)).trans hm
  replace hC := (hC.below hb).more hb.size
  replace b0 := blk_below b0 hb
  replace hbt := hbt.trans (hb.mono hbt.size)
  clear hb
  have c0 := blk_cell (j := 0) b0
  simp only [List.getElem?_toArray, List.getElem?_cons_zero, List.getElem?_cons_succ] at c0
  have c1 := blk_cell (j := 1) b0
  simp only [List.getElem?_toArray, List.getElem?_cons_zero, List.getElem?_cons_succ] at c1
  have c2 := blk_cell (j := 2) b0
  simp only [List.getElem?_toArray, List.getElem?_cons_zero, List.getElem?_cons_succ] at c2
  have c3 := blk_cell (j := 3) b0
  simp only [List.getElem?_toArray, List.getElem?_cons_zero, List.getElem?_cons_succ] at c3
  have c4 := blk_cell (j := 4) b0
  simp only [List.getElem?_toArray, List.getElem?_cons_zero, List.getElem?_cons_succ] at c4
  go_wp2_with fail
  clear c0 c1 c2 c3 c4
  refine (rFew3_any f s w1 hS HF.out).mono ?_
  rintro e w2 ⟨bo, rfl, hbo, hb⟩
  have HB := Lib.hid hbo
  clear hbo
  replace hS := (hS.below hb).more hb.size
  replace hm := (hb.cell (World.block_lt_of_cell? _ _ hm)).trans hm
  replace hC := (hC.below hb).more hb.size
  replace b0 := blk_below b0 hb
  replace hbt := hbt.trans (hb.mono hbt.size)
  clear hb
  cases bo with
  | false =>
    go_wp2_with fail
    go_ret
    exact ⟨rfl, hbt⟩
  | true =>
    have hz := HB.out rfl
    have HZ := Lib.hid hz
    clear hz HB
    by_cases h1 : 5000 < k
    · have th1 : decide ((5000 : Int) < (k : Int)) = true := by simp; omega
      have uh1 : decide (5000 < k) = true := by simp; omega
      go_wp2_with fail
      go_ret
      exact ⟨rfl, hbt⟩
    · have th1 : decide ((5000 : Int) < (k : Int)) = false := by simp; omega
      have uh1 : decide (5000 < k) = false := by simp; omega
      have c0 := blk_cell (j := 0) b0
      simp only [List.getElem?_toArray, List.getElem?_cons_zero, List.getElem?_cons_succ] at c0
      have c1 := blk_cell (j := 1) b0
      simp only [List.getElem?_toArray, List.getElem?_cons_zero, List.getElem?_cons_succ] at c1
      have c2 := blk_cell (j := 2) b0
      simp only [List.getElem?_toArray, List.getElem?_cons_zero, List.getElem?_cons_succ] at c2
      have c3 := blk_cell (j := 3) b0
      simp only [List.getElem?_toArray, List.getElem?_cons_zero, List.getElem?_cons_succ] at c3
      have c4 := blk_cell (j := 4) b0
      simp only [List.getElem?_toArray, List.getElem?_cons_zero, List.getElem?_cons_succ] at c4
      go_wp2_with fail
      clear c0 c1 c2 c3 c4
      refine (sPut_any f s mx w2 hS hm).mono ?_
      rintro e w3 ⟨v3, rfl, ho3, hb⟩
      obtain ⟨A3, q3, rfl, h3⟩ := own_rdB ho3
      clear ho3
      replace hS := (hS.below hb).more hb.size
      replace hm := (hb.cell (World.block_lt_of_cell? _ _ hm)).trans hm
      replace hC := (hC.below hb).more hb.size
      replace b0 := blk_below b0 hb
      replace hbt := hbt.trans (hb.mono hbt.size)
      clear hb
      have c0 := blk_cell (j := 0) b0
      simp only [List.getElem?_toArray, List.getElem?_cons_zero, List.getElem?_cons_succ] at c0
      have c1 := blk_cell (j := 1) b0
      simp only [List.getElem?_toArray, List.getElem?_cons_zero, List.getElem?_cons_succ] at c1
      have c2 := blk_cell (j := 2) b0
      simp only [List.getElem?_toArray, List.getElem?_cons_zero, List.getElem?_cons_succ] at c2
      have c3 := blk_cell (j := 3) b0
      simp only [List.getElem?_toArray, List.getElem?_cons_zero, List.getElem?_cons_succ] at c3
      have c4 := blk_cell (j := 4) b0
      simp only [List.getElem?_toArray, List.getElem?_cons_zero, List.getElem?_cons_succ] at c4
      go_wp2_with fail
      clear c0 c1 c2 c3 c4
      refine (rPut3_any f s w3 hS HZ.out).mono ?_
      rintro e w4 ⟨v4, rfl, ho4, hb⟩
      obtain ⟨A4, q4, rfl, h4⟩ := own_rdB ho4
      clear ho4
      replace hS := (hS.below hb).more hb.size
      replace hm := (hb.cell (World.block_lt_of_cell? _ _ hm)).trans hm
      replace hC := (hC.below hb).more hb.size
      replace b0 := blk_below b0 hb
      replace h3 := (h3.below hb).more hb.size
      replace hbt := hbt.trans (hb.mono hbt.size)
      clear hb
      obtain ⟨R, hR⟩ : ∃ R, R = Sc.putR s := ⟨_, rfl⟩
      rw [← hR] at h3 h4 ⊢
      clear hR
      obtain ⟨R1, R2⟩ := R
      dsimp only at *
      obtain ⟨rl, hrl⟩ : ∃ rl, rl = R1.length := ⟨_, rfl⟩
      rw [← hrl] at h3 h4 ⊢
      clear hrl
      have m31 := h3.max
      have m32 := h3.le
      have m41 := h4.max
      have m42 := h4.le
      go_wp2_with fail
      refine (sGet_any C k cc cs mx w4 hC (by omega) hm).mono ?_
      rintro e w5 ⟨x, rfl, hX, hb⟩
      replace hS := (hS.below hb).more hb.size
      replace hm := (hb.cell (World.block_lt_of_cell? _ _ hm)).trans hm
      replace hC := (hC.below hb).more hb.size
      replace b0 := blk_below b0 hb
      replace h3 := (h3.below hb).more hb.size
      replace h4 := (h4.below hb).more hb.size
      replace hbt := hbt.trans (hb.mono hbt.size)
      clear hb
      obtain ⟨G, hG⟩ : ∃ G, G = Sc.getR cs := ⟨_, rfl⟩
      rw [← hG] at hX ⊢
      have HG := Lib.hid hG
      clear hG
      obtain ⟨V5, hV⟩ : ∃ V5, V5 = w5.alloc (.cells #[.slice x.aS x.nS x.cS, .slice x.aR x.nR x.cR, .slice x.aP x.nP x.cP, .slice x.aG x.nG x.cG, .slice x.aL x.nL x.cL] 28) := ⟨_, rfl⟩
      have b5 := blk_new hV
      have hb := below_new hV
      replace hS := (hS.below hb).more hb.size
      replace hm := (hb.cell (World.block_lt_of_cell? _ _ hm)).trans hm
      replace hC := (hC.below hb).more hb.size
      replace b0 := blk_below b0 hb
      replace h3 := (h3.below hb).more hb.size
      replace h4 := (h4.below hb).more hb.size
      replace hX := (hX.below hb).more hb.size
      replace hbt := hbt.trans (hb.mono hbt.size)
      clear hb
      have HSV5 : Hid (V5.heap.size = w5.heap.size + 1) := by show V5.heap.size = _; rw [hV, World.size_alloc]
      have HVV5 := Lib.hid hV.symm
      clear hV
      clear HSV5
      unfold Sc.Five.vals
      go_wp2_with fail
      rw [HVV5.out]
      clear HVV5
      refine (rGet3_any C k cc cs V5 hC (by omega)).mono ?_
      rintro e w6 ⟨y, rfl, hY, hb⟩
      rw [← HG.out] at hY ⊢
      replace hS := (hS.below hb).more hb.size
      replace hm := (hb.cell (World.block_lt_of_cell? _ _ hm)).trans hm
      replace hC := (hC.below hb).more hb.size
      replace b0 := blk_below b0 hb
      replace h3 := (h3.below hb).more hb.size
      replace h4 := (h4.below hb).more hb.size
      replace hX := (hX.below hb).more hb.size
      replace b5 := blk_below b5 hb
      replace hbt := hbt.trans (hb.mono hbt.size)
      clear hb
      obtain ⟨V6, hV⟩ : ∃ V6, V6 = w6.alloc (.cells #[.slice y.aS y.nS y.cS, .slice y.aR y.nR y.cR, .slice y.aP y.nP y.cP, .slice y.aG y.nG y.cG, .slice y.aL y.nL y.cL] 28) := ⟨_, rfl⟩
      have b6 := blk_new hV
      have hb := below_new hV
      replace hS := (hS.below hb).more hb.size
      replace hm := (hb.cell (World.block_lt_of_cell? _ _ hm)).trans hm
      replace hC := (hC.below hb).more hb.size
      replace b0 := blk_below b0 hb
      replace h3 := (h3.below hb).more hb.size
      replace h4 := (h4.below hb).more hb.size
      replace hX := (hX.below hb).more hb.size
      replace b5 := blk_below b5 hb
      replace hY := (hY.below hb).more hb.size
      replace hbt := hbt.trans (hb.mono hbt.size)
      clear hb
      have HSV6 : Hid (V6.heap.size = w6.heap.size + 1) := by show V6.heap.size = _; rw [hV, World.size_alloc]
      have HVV6 := Lib.hid hV.symm
      clear hV
      clear HSV6
      unfold Sc.Five.vals
      obtain ⟨G1, G2⟩ := G
      dsimp only at *
      have c0 := blk_cell (j := 0) b5
      simp only [List.getElem?_toArray, List.getElem?_cons_zero, List.getElem?_cons_succ] at c0
      have c1 := blk_cell (j := 1) b5
      simp only [List.getElem?_toArray, List.getElem?_cons_zero, List.getElem?_cons_succ] at c1
      have c2 := blk_cell (j := 2) b5
      simp only [List.getElem?_toArray, List.getElem?_cons_zero, List.getElem?_cons_succ] at c2
      have c3 := blk_cell (j := 3) b5
      simp only [List.getElem?_toArray, List.getElem?_cons_zero, List.getElem?_cons_succ] at c3
      have c4 := blk_cell (j := 4) b5
      simp only [List.getElem?_toArray, List.getElem?_cons_zero, List.getElem?_cons_succ] at c4
      have d0 := blk_cell (j := 0) b6
      simp only [List.getElem?_toArray, List.getElem?_cons_zero, List.getElem?_cons_succ] at d0
      have d1 := blk_cell (j := 1) b6
      simp only [List.getElem?_toArray, List.getElem?_cons_zero, List.getElem?_cons_succ] at d1
      have d2 := blk_cell (j := 2) b6
      simp only [List.getElem?_toArray, List.getElem?_cons_zero, List.getElem?_cons_succ] at d2
      have d3 := blk_cell (j := 3) b6
      simp only [List.getElem?_toArray, List.getElem?_cons_zero, List.getElem?_cons_succ] at d3
      have d4 := blk_cell (j := 4) b6
      simp only [List.getElem?_toArray, List.getElem?_cons_zero, List.getElem?_cons_succ] at d4
      have s1 := run_str h3
      have s2 := run_str h4
      have E1 : ((strOf R1).toList == (strOf R1).toList) = true := by simp
      have E2 : (R2 == R2) = true := by simp
      have E3 : (G2 == G2) = true := by simp
      rw [← HVV6.out] at c0 c1 c2 c3 c4 d0 d1 d2 d3 d4 s1 s2
      go_wp2_with fail
      rw [HVV6.out]
      clear HVV6 c0 c1 c2 c3 c4 d0 d1 d2 d3 d4 s1 s2
      refine (rSame3_same x y G1 V6 hX hY).mono ?_
      rintro e w7 ⟨rfl, hb⟩
      replace hS := (hS.below hb).more hb.size
      replace hm := (hb.cell (World.block_lt_of_cell? _ _ hm)).trans hm
      replace hC := (hC.below hb).more hb.size
      replace b0 := blk_below b0 hb
      replace h3 := (h3.below hb).more hb.size
      replace h4 := (h4.below hb).more hb.size
      replace hX := (hX.below hb).more hb.size
      replace b5 := blk_below b5 hb
      replace hY := (hY.below hb).more hb.size
      replace b6 := blk_below b6 hb
      replace hbt := hbt.trans (hb.mono hbt.size)
      clear hb
      go_wp2_with fail
      go_ret
      exact ⟨rfl, hbt⟩

end Go.Proofs.YtfockoihmoljfaaGreatDoor
