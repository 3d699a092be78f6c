/-
  SchoolCanonical, walked.
-/
import Derived.Test.YtfockoihmoljfaaGreatDoorLive3
namespace Go.Proofs.YtfockoihmoljfaaGreatDoor
open Go.RowKit Go.Shelf
set_option linter.unusedVariables false
set_option linter.unusedSimpArgs false

set_option maxRecDepth 100000 in
set_option maxHeartbeats 8000000 in
theorem schoolCanonical_any (C : Option Addr) (k cc : Nat) (cs : List UInt8) (mx : Int) (w : World) (hC : RdB w w.heap.size C k cc cs) (hm : w.cell? ⟨0, 0, none⟩ = some (.int .i64 mx)) :
    Calls Tryz.prog 6 #[.slice C k cc] w fun e w' => e = .returned (.bool true) ∧ Below w.heap.size w w' := by
  have hbt := Below.refl w.heap.size w
  have hC1 := hC.max
  have hC2 := hC.le
  have hCL := Lib.hid hC.len
  go_enter Tryz.func6, Tryz.ntmps6
  go_wp2_with fail
  refine (live3_any mx w hm).mono ?_
  rintro e w1 ⟨rfl, hb⟩
  replace hC := (hC.below hb).more hb.size
  replace hm := (hb.cell (World.block_lt_of_cell? _ _ hm)).trans hm
  replace hbt := hbt.trans (hb.mono hbt.size)
  clear hb
  by_cases h1 : 5000 < k
  · have th1 : decide ((5000 : Int) < (k : Int)) = true := by simp; omega
    have uh1 : decide (5000 < k) = true := by simp; omega
    go_wp2_with fail
    go_ret
    exact ⟨rfl, hbt⟩
  · have th1 : decide ((5000 : Int) < (k : Int)) = false := by simp; omega
    have uh1 : decide (5000 < k) = false := by simp; omega
    go_wp2_with fail
    refine (sGet_any C k cc cs mx w1 hC (by omega) hm).mono ?_
    rintro e w2 ⟨x, rfl, hX, hb⟩
    replace hC := (hC.below hb).more hb.size
    replace hm := (hb.cell (World.block_lt_of_cell? _ _ hm)).trans hm
    replace hbt := hbt.trans (hb.mono hbt.size)
    clear hb
    have HC := Lib.hid (Sc.getR_canon (l := cs))
    have HE := Lib.hid (Sc.getR_bad (l := cs))
    obtain ⟨G, hG⟩ : ∃ G, G = Sc.getR cs := ⟨_, rfl⟩
    rw [← hG] at hX HC HE ⊢
    clear hG
    obtain ⟨G1, G2⟩ := G
    dsimp only at *
    obtain ⟨V2, hV⟩ : ∃ V2, V2 = w2.alloc (.cells #[.slice x.aS x.nS x.cS, .slice x.aR x.nR x.cR, .slice x.aP x.nP x.cP, .slice x.aG x.nG x.cG, .slice x.aL x.nL x.cL] 28) := ⟨_, rfl⟩
    have b2 := blk_new hV
    have hb := below_new hV
    replace hC := (hC.below hb).more hb.size
    replace hm := (hb.cell (World.block_lt_of_cell? _ _ hm)).trans hm
    replace hX := (hX.below hb).more hb.size
    replace hbt := hbt.trans (hb.mono hbt.size)
    clear hb
    have HSV2 : Hid (V2.heap.size = w2.heap.size + 1) := by show V2.heap.size = _; rw [hV, World.size_alloc]
    have HVV2 := Lib.hid hV.symm
    clear hV
    clear HSV2
    unfold Sc.Five.vals
    by_cases he : G2 = 0
    · obtain ⟨k1, k2, _⟩ := HC.out he
      subst he
      clear HC HE
      have k3 : Sc.putR G1 = (Sc.putB G1, 0) := by unfold Sc.putR; rw [if_neg (fun h => h k1)]
      have K3 := Lib.hid k3
      have K1 := Lib.hid k1
      clear k1 k3
      subst k2
      have c0 := blk_cell (j := 0) b2
      simp only [List.getElem?_toArray, List.getElem?_cons_zero, List.getElem?_cons_succ] at c0
      have c1 := blk_cell (j := 1) b2
      simp only [List.getElem?_toArray, List.getElem?_cons_zero, List.getElem?_cons_succ] at c1
      have c2 := blk_cell (j := 2) b2
      simp only [List.getElem?_toArray, List.getElem?_cons_zero, List.getElem?_cons_succ] at c2
      have c3 := blk_cell (j := 3) b2
      simp only [List.getElem?_toArray, List.getElem?_cons_zero, List.getElem?_cons_succ] at c3
      have c4 := blk_cell (j := 4) b2
      simp only [List.getElem?_toArray, List.getElem?_cons_zero, List.getElem?_cons_succ] at c4
      rw [← HVV2.out] at c0 c1 c2 c3 c4
      go_wp2_with fail
      rw [HVV2.out]
      clear HVV2 c0 c1 c2 c3 c4
      refine (sPut_any x G1 mx V2 hX hm).mono ?_
      rintro e w3 ⟨v3, rfl, ho3, hb⟩
      rw [K3.out] at ho3 ⊢
      dsimp only at ho3 ⊢
      obtain ⟨A3, q3, rfl, h3⟩ := own_rdB ho3
      clear ho3
      replace hC := (hC.below hb).more hb.size
      replace hm := (hb.cell (World.block_lt_of_cell? _ _ hm)).trans hm
      replace hX := (hX.below hb).more hb.size
      replace b2 := blk_below b2 hb
      replace hbt := hbt.trans (hb.mono hbt.size)
      clear hb
      obtain ⟨P, hP⟩ : ∃ P, P = Sc.putB G1 := ⟨_, rfl⟩
      rw [← hP] at h3 hC ⊢
      clear hP hCL
      obtain ⟨pl, hpl⟩ : ∃ pl, pl = P.length := ⟨_, rfl⟩
      rw [← hpl] at h3 ⊢
      clear hpl
      have m31 := h3.max
      have m32 := h3.le
      have c0 := blk_cell (j := 0) b2
      simp only [List.getElem?_toArray, List.getElem?_cons_zero, List.getElem?_cons_succ] at c0
      have c1 := blk_cell (j := 1) b2
      simp only [List.getElem?_toArray, List.getElem?_cons_zero, List.getElem?_cons_succ] at c1
      have c2 := blk_cell (j := 2) b2
      simp only [List.getElem?_toArray, List.getElem?_cons_zero, List.getElem?_cons_succ] at c2
      have c3 := blk_cell (j := 3) b2
      simp only [List.getElem?_toArray, List.getElem?_cons_zero, List.getElem?_cons_succ] at c3
      have c4 := blk_cell (j := 4) b2
      simp only [List.getElem?_toArray, List.getElem?_cons_zero, List.getElem?_cons_succ] at c4
      go_wp2_with fail
      clear c0 c1 c2 c3 c4
      refine (sCheck_any x G1 mx w3 hX hm).mono ?_
      rintro e w4 ⟨rfl, hb⟩
      rw [K1.out]
      replace hC := (hC.below hb).more hb.size
      replace hm := (hb.cell (World.block_lt_of_cell? _ _ hm)).trans hm
      replace hX := (hX.below hb).more hb.size
      replace b2 := blk_below b2 hb
      replace h3 := (h3.below hb).more hb.size
      replace hbt := hbt.trans (hb.mono hbt.size)
      clear hb
      have s1 := run_str h3
      have s2 := run_str hC
      have E1 : ((strOf P).toList == (strOf P).toList) = true := by simp
      go_wp2_with fail
      go_ret
      exact ⟨rfl, hbt⟩
    · have d5 : (G2 != 0) = true := by simp [he]
      have hno := HE.out he
      subst hno
      have HLN := hX.lens
      obtain ⟨l1, l2, l3, l4, l5⟩ := HLN
      obtain ⟨aS, nS, cS, aR, nR, cR, aP, nP, cP, aG, nG, cG, aL, nL, cL⟩ := x
      change 0 = nS at l1
      change 0 = nR at l2
      change 0 = nP at l3
      change 0 = nG at l4
      change 0 = nL at l5
      subst l1 l2 l3 l4 l5
      dsimp only at *
      clear he
      have c0 := blk_cell (j := 0) b2
      simp only [List.getElem?_toArray, List.getElem?_cons_zero, List.getElem?_cons_succ] at c0
      have c1 := blk_cell (j := 1) b2
      simp only [List.getElem?_toArray, List.getElem?_cons_zero, List.getElem?_cons_succ] at c1
      have c2 := blk_cell (j := 2) b2
      simp only [List.getElem?_toArray, List.getElem?_cons_zero, List.getElem?_cons_succ] at c2
      have c3 := blk_cell (j := 3) b2
      simp only [List.getElem?_toArray, List.getElem?_cons_zero, List.getElem?_cons_succ] at c3
      have c4 := blk_cell (j := 4) b2
      simp only [List.getElem?_toArray, List.getElem?_cons_zero, List.getElem?_cons_succ] at c4
      rw [← HVV2.out] at c0 c1 c2 c3 c4
      go_wp2_with fail
      rw [HVV2.out]
      go_wp2_with fail
      go_ret
      exact ⟨rfl, hbt⟩

end Go.Proofs.YtfockoihmoljfaaGreatDoor
