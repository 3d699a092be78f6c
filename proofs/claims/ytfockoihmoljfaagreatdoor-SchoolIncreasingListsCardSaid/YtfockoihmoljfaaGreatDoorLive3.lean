/-
  The walk of the laws' live.
-/
import Derived.Test.YtfockoihmoljfaaGreatDoorLawP3
import Derived.Test.YtfockoihmoljfaaGreatDoorSLook
import Derived.Test.YtfockoihmoljfaaGreatDoorRPut3
import Derived.Test.YtfockoihmoljfaaGreatDoorGet3
import Derived.Test.YtfockoihmoljfaaGreatDoorSame3
import Derived.Test.YtfockoihmoljfaaGreatDoorSchG
namespace Go.Proofs.YtfockoihmoljfaaGreatDoor
open Go.RowKit Go.Shelf
set_option linter.unusedVariables false
set_option linter.unusedSimpArgs false

set_option maxRecDepth 100000 in
set_option maxHeartbeats 8000000 in
theorem live3_any (mx : Int) (w : World) (hm : w.cell? ⟨0, 0, none⟩ = some (.int .i64 mx)) :
    Calls Tryz.prog 10 #[] w fun e w' => e = .returned (.bool true) ∧ Below w.heap.size w w' := by
  have hbt := Below.refl w.heap.size w
  go_enter Tryz.func10, Tryz.ntmps10
  go_wp2_with fail
  refine (example_any w).mono ?_
  rintro e w1 ⟨f, rfl, hS, hb⟩
  replace hm := (hb.cell (World.block_lt_of_cell? _ _ hm)).trans hm
  replace hbt := hbt.trans (hb.mono hbt.size)
  clear hb
  obtain ⟨EX, hEX⟩ : ∃ EX, EX = Sc.ex := ⟨_, rfl⟩
  rw [← hEX] at hS
  have HEX := Lib.hid hEX
  clear hEX
  obtain ⟨V1, hV⟩ : ∃ V1, V1 = w1.alloc (.cells #[.slice f.aS f.nS f.cS, .slice f.aR f.nR f.cR, .slice f.aP f.nP f.cP, .slice f.aG f.nG f.cG, .slice f.aL f.nL f.cL] 28) := ⟨_, rfl⟩
  have b1 := blk_new hV
  have hb := below_new hV
  replace hm := (hb.cell (World.block_lt_of_cell? _ _ hm)).trans hm
  replace hS := (hS.below hb).more hb.size
  replace hbt := hbt.trans (hb.mono hbt.size)
  clear hb
  have HSV1 : Hid (V1.heap.size = w1.heap.size + 1) := by show V1.heap.size = _; rw [hV, World.size_alloc]
  have HVV1 := Lib.hid hV.symm
  clear hV
  clear HSV1
  unfold Sc.Five.vals
  have c0 := blk_cell (j := 0) b1
  simp only [List.getElem?_toArray, List.getElem?_cons_zero, List.getElem?_cons_succ] at c0
  have c1 := blk_cell (j := 1) b1
  simp only [List.getElem?_toArray, List.getElem?_cons_zero, List.getElem?_cons_succ] at c1
  have c2 := blk_cell (j := 2) b1
  simp only [List.getElem?_toArray, List.getElem?_cons_zero, List.getElem?_cons_succ] at c2
  have c3 := blk_cell (j := 3) b1
  simp only [List.getElem?_toArray, List.getElem?_cons_zero, List.getElem?_cons_succ] at c3
  have c4 := blk_cell (j := 4) b1
  simp only [List.getElem?_toArray, List.getElem?_cons_zero, List.getElem?_cons_succ] at c4
  rw [← HVV1.out] at c0 c1 c2 c3 c4
  go_wp2_with fail
  rw [HVV1.out]
  clear HVV1 c0 c1 c2 c3 c4
  refine (sFind_any f EX 2 [116, 117, 101, 49] V1 hS).mono ?_
  rintro e w2 ⟨rfl, hb⟩
  rw [HEX.out, Sc.ex_find1]
  replace hm := (hb.cell (World.block_lt_of_cell? _ _ hm)).trans hm
  replace hS := (hS.below hb).more hb.size
  replace b1 := blk_below b1 hb
  replace hbt := hbt.trans (hb.mono hbt.size)
  clear hb
  have c0 := blk_cell (j := 0) b1
  simp only [List.getElem?_toArray, List.getElem?_cons_zero, List.getElem?_cons_succ] at c0
  have c1 := blk_cell (j := 1) b1
  simp only [List.getElem?_toArray, List.getElem?_cons_zero, List.getElem?_cons_succ] at c1
  have c2 := blk_cell (j := 2) b1
  simp only [List.getElem?_toArray, List.getElem?_cons_zero, List.getElem?_cons_succ] at c2
  have c3 := blk_cell (j := 3) b1
  simp only [List.getElem?_toArray, List.getElem?_cons_zero, List.getElem?_cons_succ] at c3
  have c4 := blk_cell (j := 4) b1
  simp only [List.getElem?_toArray, List.getElem?_cons_zero, List.getElem?_cons_succ] at c4
  go_wp2_with fail
  clear c0 c1 c2 c3 c4
  refine (sFind_any f EX 2 [109, 97, 116, 104] w2 hS).mono ?_
  rintro e w3 ⟨rfl, hb⟩
  rw [HEX.out, Sc.ex_find2]
  replace hm := (hb.cell (World.block_lt_of_cell? _ _ hm)).trans hm
  replace hS := (hS.below hb).more hb.size
  replace b1 := blk_below b1 hb
  replace hbt := hbt.trans (hb.mono hbt.size)
  clear hb
  have c0 := blk_cell (j := 0) b1
  simp only [List.getElem?_toArray, List.getElem?_cons_zero, List.getElem?_cons_succ] at c0
  have c1 := blk_cell (j := 1) b1
  simp only [List.getElem?_toArray, List.getElem?_cons_zero, List.getElem?_cons_succ] at c1
  have c2 := blk_cell (j := 2) b1
  simp only [List.getElem?_toArray, List.getElem?_cons_zero, List.getElem?_cons_succ] at c2
  have c3 := blk_cell (j := 3) b1
  simp only [List.getElem?_toArray, List.getElem?_cons_zero, List.getElem?_cons_succ] at c3
  have c4 := blk_cell (j := 4) b1
  simp only [List.getElem?_toArray, List.getElem?_cons_zero, List.getElem?_cons_succ] at c4
  go_wp2_with fail
  clear c0 c1 c2 c3 c4
  refine (sPut_any f EX mx w3 hS hm).mono ?_
  rintro e w4 ⟨v, rfl, ho, hb⟩
  rw [HEX.out, Sc.ex_put] at ho ⊢
  dsimp only at ho ⊢
  obtain ⟨P, hP⟩ : ∃ P, P = Sc.putB Sc.ex := ⟨_, rfl⟩
  have hPl := Sc.putB_len Sc.ex_ok
  rw [← hP] at ho hPl
  have HP := Lib.hid hP
  clear hP
  obtain ⟨A, q, rfl, h4⟩ := own_rdB ho
  clear ho
  replace hm := (hb.cell (World.block_lt_of_cell? _ _ hm)).trans hm
  replace hS := (hS.below hb).more hb.size
  replace b1 := blk_below b1 hb
  replace hbt := hbt.trans (hb.mono hbt.size)
  clear hb
  have k41 := h4.max
  have k42 := h4.le
  obtain ⟨pn, hpn⟩ : ∃ pn, pn = P.length := ⟨_, rfl⟩
  rw [← hpn] at h4 k42 hPl ⊢
  clear hpn
  go_wp2_with fail
  refine (sGet_any A pn q P mx w4 h4 (by omega) hm).mono ?_
  rintro e w5 ⟨x, rfl, hX, hb⟩
  rw [HP.out, Sc.ex_get] at hX ⊢
  dsimp only at hX ⊢
  rw [← HEX.out] at hX
  replace hm := (hb.cell (World.block_lt_of_cell? _ _ hm)).trans hm
  replace hS := (hS.below hb).more hb.size
  replace b1 := blk_below b1 hb
  replace h4 := (h4.below hb).more hb.size
  replace hbt := hbt.trans (hb.mono hbt.size)
  clear hb
  clear h4
  clear HP hPl k41 k42
  obtain ⟨V2, hV⟩ : ∃ V2, V2 = w5.alloc (.cells #[.slice x.aS x.nS x.cS, .slice x.aR x.nR x.cR, .slice x.aP x.nP x.cP, .slice x.aG x.nG x.cG, .slice x.aL x.nL x.cL] 28) := ⟨_, rfl⟩
  have b2 := blk_new hV
  have hb := below_new hV
  replace hm := (hb.cell (World.block_lt_of_cell? _ _ hm)).trans hm
  replace hS := (hS.below hb).more hb.size
  replace b1 := blk_below b1 hb
  replace hX := (hX.below hb).more hb.size
  replace hbt := hbt.trans (hb.mono hbt.size)
  clear hb
  have HSV2 : Hid (V2.heap.size = w5.heap.size + 1) := by show V2.heap.size = _; rw [hV, World.size_alloc]
  have HVV2 := Lib.hid hV.symm
  clear hV
  clear HSV2
  unfold Sc.Five.vals
  have c0 := blk_cell (j := 0) b1
  have c1 := blk_cell (j := 1) b1
  have c2 := blk_cell (j := 2) b1
  have c3 := blk_cell (j := 3) b1
  have c4 := blk_cell (j := 4) b1
  simp only [List.getElem?_toArray, List.getElem?_cons_zero, List.getElem?_cons_succ] at c0 c1 c2 c3 c4
  rw [← HVV2.out] at c0 c1 c2 c3 c4
  go_wp2_with fail
  rw [HVV2.out]
  clear HVV2 c0 c1 c2 c3 c4
  refine (sAway_any f EX 0 0 V2 hS).mono ?_
  rintro e w6 ⟨b, rfl, hi, hb⟩
  rw [HEX.out] at hi
  obtain rfl : b = true := hi.2 Sc.ex_away0
  clear hi
  replace hm := (hb.cell (World.block_lt_of_cell? _ _ hm)).trans hm
  replace hS := (hS.below hb).more hb.size
  replace b1 := blk_below b1 hb
  replace hX := (hX.below hb).more hb.size
  replace b2 := blk_below b2 hb
  replace hbt := hbt.trans (hb.mono hbt.size)
  clear hb
  have c0 := blk_cell (j := 0) b1
  simp only [List.getElem?_toArray, List.getElem?_cons_zero, List.getElem?_cons_succ] at c0
  have c1 := blk_cell (j := 1) b1
  simp only [List.getElem?_toArray, List.getElem?_cons_zero, List.getElem?_cons_succ] at c1
  have c2 := blk_cell (j := 2) b1
  simp only [List.getElem?_toArray, List.getElem?_cons_zero, List.getElem?_cons_succ] at c2
  have c3 := blk_cell (j := 3) b1
  simp only [List.getElem?_toArray, List.getElem?_cons_zero, List.getElem?_cons_succ] at c3
  have c4 := blk_cell (j := 4) b1
  simp only [List.getElem?_toArray, List.getElem?_cons_zero, List.getElem?_cons_succ] at c4
  go_wp2_with fail
  clear c0 c1 c2 c3 c4
  refine (sAway_any f EX 0 1 w6 hS).mono ?_
  rintro e w7 ⟨b, rfl, hi, hb⟩
  rw [HEX.out] at hi
  obtain rfl : b = false := by
    cases b with
    | false => rfl
    | true => exact absurd (hi.1 rfl) Sc.ex_away1
  clear hi
  replace hm := (hb.cell (World.block_lt_of_cell? _ _ hm)).trans hm
  replace hS := (hS.below hb).more hb.size
  replace b1 := blk_below b1 hb
  replace hX := (hX.below hb).more hb.size
  replace b2 := blk_below b2 hb
  replace hbt := hbt.trans (hb.mono hbt.size)
  clear hb
  have c0 := blk_cell (j := 0) b1
  simp only [List.getElem?_toArray, List.getElem?_cons_zero, List.getElem?_cons_succ] at c0
  have c1 := blk_cell (j := 1) b1
  simp only [List.getElem?_toArray, List.getElem?_cons_zero, List.getElem?_cons_succ] at c1
  have c2 := blk_cell (j := 2) b1
  simp only [List.getElem?_toArray, List.getElem?_cons_zero, List.getElem?_cons_succ] at c2
  have c3 := blk_cell (j := 3) b1
  simp only [List.getElem?_toArray, List.getElem?_cons_zero, List.getElem?_cons_succ] at c3
  have c4 := blk_cell (j := 4) b1
  simp only [List.getElem?_toArray, List.getElem?_cons_zero, List.getElem?_cons_succ] at c4
  go_wp2_with fail
  clear c0 c1 c2 c3 c4
  refine (sShut_any f EX 0 1 w7 hS).mono ?_
  rintro e w8 ⟨b, rfl, hi, hb⟩
  rw [HEX.out] at hi
  obtain rfl : b = true := hi.2 Sc.ex_shut0
  clear hi
  replace hm := (hb.cell (World.block_lt_of_cell? _ _ hm)).trans hm
  replace hS := (hS.below hb).more hb.size
  replace b1 := blk_below b1 hb
  replace hX := (hX.below hb).more hb.size
  replace b2 := blk_below b2 hb
  replace hbt := hbt.trans (hb.mono hbt.size)
  clear hb
  have c0 := blk_cell (j := 0) b1
  simp only [List.getElem?_toArray, List.getElem?_cons_zero, List.getElem?_cons_succ] at c0
  have c1 := blk_cell (j := 1) b1
  simp only [List.getElem?_toArray, List.getElem?_cons_zero, List.getElem?_cons_succ] at c1
  have c2 := blk_cell (j := 2) b1
  simp only [List.getElem?_toArray, List.getElem?_cons_zero, List.getElem?_cons_succ] at c2
  have c3 := blk_cell (j := 3) b1
  simp only [List.getElem?_toArray, List.getElem?_cons_zero, List.getElem?_cons_succ] at c3
  have c4 := blk_cell (j := 4) b1
  simp only [List.getElem?_toArray, List.getElem?_cons_zero, List.getElem?_cons_succ] at c4
  go_wp2_with fail
  clear c0 c1 c2 c3 c4
  refine (sShut_any f EX 1 1 w8 hS).mono ?_
  rintro e w9 ⟨b, rfl, hi, hb⟩
  rw [HEX.out] at hi
  obtain rfl : b = false := by
    cases b with
    | false => rfl
    | true => exact absurd (hi.1 rfl) Sc.ex_shut1
  clear hi
  replace hm := (hb.cell (World.block_lt_of_cell? _ _ hm)).trans hm
  replace hS := (hS.below hb).more hb.size
  replace b1 := blk_below b1 hb
  replace hX := (hX.below hb).more hb.size
  replace b2 := blk_below b2 hb
  replace hbt := hbt.trans (hb.mono hbt.size)
  clear hb
  have c0 := blk_cell (j := 0) b1
  simp only [List.getElem?_toArray, List.getElem?_cons_zero, List.getElem?_cons_succ] at c0
  have c1 := blk_cell (j := 1) b1
  simp only [List.getElem?_toArray, List.getElem?_cons_zero, List.getElem?_cons_succ] at c1
  have c2 := blk_cell (j := 2) b1
  simp only [List.getElem?_toArray, List.getElem?_cons_zero, List.getElem?_cons_succ] at c2
  have c3 := blk_cell (j := 3) b1
  simp only [List.getElem?_toArray, List.getElem?_cons_zero, List.getElem?_cons_succ] at c3
  have c4 := blk_cell (j := 4) b1
  simp only [List.getElem?_toArray, List.getElem?_cons_zero, List.getElem?_cons_succ] at c4
  go_wp2_with fail
  clear c0 c1 c2 c3 c4
  refine (sTeaches_any f EX 0 0 w9 hS).mono ?_
  rintro e w10 ⟨b, rfl, hi, hb⟩
  rw [HEX.out] at hi
  obtain rfl : b = true := hi.2 Sc.ex_teach
  clear hi
  replace hm := (hb.cell (World.block_lt_of_cell? _ _ hm)).trans hm
  replace hS := (hS.below hb).more hb.size
  replace b1 := blk_below b1 hb
  replace hX := (hX.below hb).more hb.size
  replace b2 := blk_below b2 hb
  replace hbt := hbt.trans (hb.mono hbt.size)
  clear hb
  have c0 := blk_cell (j := 0) b1
  simp only [List.getElem?_toArray, List.getElem?_cons_zero, List.getElem?_cons_succ] at c0
  have c1 := blk_cell (j := 1) b1
  simp only [List.getElem?_toArray, List.getElem?_cons_zero, List.getElem?_cons_succ] at c1
  have c2 := blk_cell (j := 2) b1
  simp only [List.getElem?_toArray, List.getElem?_cons_zero, List.getElem?_cons_succ] at c2
  have c3 := blk_cell (j := 3) b1
  simp only [List.getElem?_toArray, List.getElem?_cons_zero, List.getElem?_cons_succ] at c3
  have c4 := blk_cell (j := 4) b1
  simp only [List.getElem?_toArray, List.getElem?_cons_zero, List.getElem?_cons_succ] at c4
  go_wp2_with fail
  clear c0 c1 c2 c3 c4
  refine (sAttends_any f EX 1 0 w10 hS).mono ?_
  rintro e w11 ⟨b, rfl, hi, hb⟩
  rw [HEX.out] at hi
  obtain rfl : b = true := hi.2 Sc.ex_att1
  clear hi
  replace hm := (hb.cell (World.block_lt_of_cell? _ _ hm)).trans hm
  replace hS := (hS.below hb).more hb.size
  replace b1 := blk_below b1 hb
  replace hX := (hX.below hb).more hb.size
  replace b2 := blk_below b2 hb
  replace hbt := hbt.trans (hb.mono hbt.size)
  clear hb
  have c0 := blk_cell (j := 0) b1
  simp only [List.getElem?_toArray, List.getElem?_cons_zero, List.getElem?_cons_succ] at c0
  have c1 := blk_cell (j := 1) b1
  simp only [List.getElem?_toArray, List.getElem?_cons_zero, List.getElem?_cons_succ] at c1
  have c2 := blk_cell (j := 2) b1
  simp only [List.getElem?_toArray, List.getElem?_cons_zero, List.getElem?_cons_succ] at c2
  have c3 := blk_cell (j := 3) b1
  simp only [List.getElem?_toArray, List.getElem?_cons_zero, List.getElem?_cons_succ] at c3
  have c4 := blk_cell (j := 4) b1
  simp only [List.getElem?_toArray, List.getElem?_cons_zero, List.getElem?_cons_succ] at c4
  go_wp2_with fail
  clear c0 c1 c2 c3 c4
  refine (sAttends_any f EX 2 0 w11 hS).mono ?_
  rintro e w12 ⟨b, rfl, hi, hb⟩
  rw [HEX.out] at hi
  obtain rfl : b = false := by
    cases b with
    | false => rfl
    | true => exact absurd (hi.1 rfl) Sc.ex_att2
  clear hi
  replace hm := (hb.cell (World.block_lt_of_cell? _ _ hm)).trans hm
  replace hS := (hS.below hb).more hb.size
  replace b1 := blk_below b1 hb
  replace hX := (hX.below hb).more hb.size
  replace b2 := blk_below b2 hb
  replace hbt := hbt.trans (hb.mono hbt.size)
  clear hb
  have c0 := blk_cell (j := 0) b1
  simp only [List.getElem?_toArray, List.getElem?_cons_zero, List.getElem?_cons_succ] at c0
  have c1 := blk_cell (j := 1) b1
  simp only [List.getElem?_toArray, List.getElem?_cons_zero, List.getElem?_cons_succ] at c1
  have c2 := blk_cell (j := 2) b1
  simp only [List.getElem?_toArray, List.getElem?_cons_zero, List.getElem?_cons_succ] at c2
  have c3 := blk_cell (j := 3) b1
  simp only [List.getElem?_toArray, List.getElem?_cons_zero, List.getElem?_cons_succ] at c3
  have c4 := blk_cell (j := 4) b1
  simp only [List.getElem?_toArray, List.getElem?_cons_zero, List.getElem?_cons_succ] at c4
  go_wp2_with fail
  clear c0 c1 c2 c3 c4
  refine (sName_any f EX 1 0 w12 hS).mono ?_
  rintro e w13 ⟨rfl, hb⟩
  rw [HEX.out, Sc.ex_name1, show strOf [109, 97, 116, 104] = ⟨#[109, 97, 116, 104]⟩ from rfl]
  replace hm := (hb.cell (World.block_lt_of_cell? _ _ hm)).trans hm
  replace hS := (hS.below hb).more hb.size
  replace b1 := blk_below b1 hb
  replace hX := (hX.below hb).more hb.size
  replace b2 := blk_below b2 hb
  replace hbt := hbt.trans (hb.mono hbt.size)
  clear hb
  have c0 := blk_cell (j := 0) b1
  simp only [List.getElem?_toArray, List.getElem?_cons_zero, List.getElem?_cons_succ] at c0
  have c1 := blk_cell (j := 1) b1
  simp only [List.getElem?_toArray, List.getElem?_cons_zero, List.getElem?_cons_succ] at c1
  have c2 := blk_cell (j := 2) b1
  simp only [List.getElem?_toArray, List.getElem?_cons_zero, List.getElem?_cons_succ] at c2
  have c3 := blk_cell (j := 3) b1
  simp only [List.getElem?_toArray, List.getElem?_cons_zero, List.getElem?_cons_succ] at c3
  have c4 := blk_cell (j := 4) b1
  simp only [List.getElem?_toArray, List.getElem?_cons_zero, List.getElem?_cons_succ] at c4
  go_wp2_with fail
  clear c0 c1 c2 c3 c4
  refine (sName_any f EX 6 6 w13 hS).mono ?_
  rintro e w14 ⟨rfl, hb⟩
  rw [HEX.out, Sc.ex_name2, show strOf [100, 97, 121, 54] = ⟨#[100, 97, 121, 54]⟩ from rfl]
  replace hm := (hb.cell (World.block_lt_of_cell? _ _ hm)).trans hm
  replace hS := (hS.below hb).more hb.size
  replace b1 := blk_below b1 hb
  replace hX := (hX.below hb).more hb.size
  replace b2 := blk_below b2 hb
  replace hbt := hbt.trans (hb.mono hbt.size)
  clear hb
  have c0 := blk_cell (j := 0) b1
  simp only [List.getElem?_toArray, List.getElem?_cons_zero, List.getElem?_cons_succ] at c0
  have c1 := blk_cell (j := 1) b1
  simp only [List.getElem?_toArray, List.getElem?_cons_zero, List.getElem?_cons_succ] at c1
  have c2 := blk_cell (j := 2) b1
  simp only [List.getElem?_toArray, List.getElem?_cons_zero, List.getElem?_cons_succ] at c2
  have c3 := blk_cell (j := 3) b1
  simp only [List.getElem?_toArray, List.getElem?_cons_zero, List.getElem?_cons_succ] at c3
  have c4 := blk_cell (j := 4) b1
  simp only [List.getElem?_toArray, List.getElem?_cons_zero, List.getElem?_cons_succ] at c4
  go_wp2_with fail
  clear c0 c1 c2 c3 c4
  refine (sName_any f EX 3 1 w14 hS).mono ?_
  rintro e w15 ⟨rfl, hb⟩
  rw [HEX.out, Sc.ex_name3, show strOf [] = ⟨#[]⟩ from rfl]
  replace hm := (hb.cell (World.block_lt_of_cell? _ _ hm)).trans hm
  replace hS := (hS.below hb).more hb.size
  replace b1 := blk_below b1 hb
  replace hX := (hX.below hb).more hb.size
  replace b2 := blk_below b2 hb
  replace hbt := hbt.trans (hb.mono hbt.size)
  clear hb
  have c0 := blk_cell (j := 0) b1
  simp only [List.getElem?_toArray, List.getElem?_cons_zero, List.getElem?_cons_succ] at c0
  have c1 := blk_cell (j := 1) b1
  simp only [List.getElem?_toArray, List.getElem?_cons_zero, List.getElem?_cons_succ] at c1
  have c2 := blk_cell (j := 2) b1
  simp only [List.getElem?_toArray, List.getElem?_cons_zero, List.getElem?_cons_succ] at c2
  have c3 := blk_cell (j := 3) b1
  simp only [List.getElem?_toArray, List.getElem?_cons_zero, List.getElem?_cons_succ] at c3
  have c4 := blk_cell (j := 4) b1
  simp only [List.getElem?_toArray, List.getElem?_cons_zero, List.getElem?_cons_succ] at c4
  go_wp2_with fail
  clear c0 c1 c2 c3 c4
  refine (sCount_any f EX 6 w15 hS).mono ?_
  rintro e w16 ⟨rfl, hb⟩
  rw [HEX.out, Sc.ex_cnt1, show ((7 : Nat) : Int) = 7 from rfl]
  replace hm := (hb.cell (World.block_lt_of_cell? _ _ hm)).trans hm
  replace hS := (hS.below hb).more hb.size
  replace b1 := blk_below b1 hb
  replace hX := (hX.below hb).more hb.size
  replace b2 := blk_below b2 hb
  replace hbt := hbt.trans (hb.mono hbt.size)
  clear hb
  have c0 := blk_cell (j := 0) b1
  simp only [List.getElem?_toArray, List.getElem?_cons_zero, List.getElem?_cons_succ] at c0
  have c1 := blk_cell (j := 1) b1
  simp only [List.getElem?_toArray, List.getElem?_cons_zero, List.getElem?_cons_succ] at c1
  have c2 := blk_cell (j := 2) b1
  simp only [List.getElem?_toArray, List.getElem?_cons_zero, List.getElem?_cons_succ] at c2
  have c3 := blk_cell (j := 3) b1
  simp only [List.getElem?_toArray, List.getElem?_cons_zero, List.getElem?_cons_succ] at c3
  have c4 := blk_cell (j := 4) b1
  simp only [List.getElem?_toArray, List.getElem?_cons_zero, List.getElem?_cons_succ] at c4
  go_wp2_with fail
  clear c0 c1 c2 c3 c4
  refine (sCount_any f EX 5 w16 hS).mono ?_
  rintro e w17 ⟨rfl, hb⟩
  rw [HEX.out, Sc.ex_cnt2, show ((2 : Nat) : Int) = 2 from rfl]
  replace hm := (hb.cell (World.block_lt_of_cell? _ _ hm)).trans hm
  replace hS := (hS.below hb).more hb.size
  replace b1 := blk_below b1 hb
  replace hX := (hX.below hb).more hb.size
  replace b2 := blk_below b2 hb
  replace hbt := hbt.trans (hb.mono hbt.size)
  clear hb
  have c0 := blk_cell (j := 0) b1
  simp only [List.getElem?_toArray, List.getElem?_cons_zero, List.getElem?_cons_succ] at c0
  have c1 := blk_cell (j := 1) b1
  simp only [List.getElem?_toArray, List.getElem?_cons_zero, List.getElem?_cons_succ] at c1
  have c2 := blk_cell (j := 2) b1
  simp only [List.getElem?_toArray, List.getElem?_cons_zero, List.getElem?_cons_succ] at c2
  have c3 := blk_cell (j := 3) b1
  simp only [List.getElem?_toArray, List.getElem?_cons_zero, List.getElem?_cons_succ] at c3
  have c4 := blk_cell (j := 4) b1
  simp only [List.getElem?_toArray, List.getElem?_cons_zero, List.getElem?_cons_succ] at c4
  go_wp2_with fail
  clear c0 c1 c2 c3 c4
  refine (sCount_any f EX 8 w17 hS).mono ?_
  rintro e w18 ⟨rfl, hb⟩
  rw [HEX.out, Sc.ex_cnt3, show ((0 : Nat) : Int) = 0 from rfl]
  replace hm := (hb.cell (World.block_lt_of_cell? _ _ hm)).trans hm
  replace hS := (hS.below hb).more hb.size
  replace b1 := blk_below b1 hb
  replace hX := (hX.below hb).more hb.size
  replace b2 := blk_below b2 hb
  replace hbt := hbt.trans (hb.mono hbt.size)
  clear hb
  have c0 := blk_cell (j := 0) b1
  simp only [List.getElem?_toArray, List.getElem?_cons_zero, List.getElem?_cons_succ] at c0
  have c1 := blk_cell (j := 1) b1
  simp only [List.getElem?_toArray, List.getElem?_cons_zero, List.getElem?_cons_succ] at c1
  have c2 := blk_cell (j := 2) b1
  simp only [List.getElem?_toArray, List.getElem?_cons_zero, List.getElem?_cons_succ] at c2
  have c3 := blk_cell (j := 3) b1
  simp only [List.getElem?_toArray, List.getElem?_cons_zero, List.getElem?_cons_succ] at c3
  have c4 := blk_cell (j := 4) b1
  simp only [List.getElem?_toArray, List.getElem?_cons_zero, List.getElem?_cons_succ] at c4
  go_wp2_with fail
  clear c0 c1 c2 c3 c4
  refine (sSize_any f EX 0 w18 hS (by rw [HEX.out]; exact Sc.groups_bd Sc.ex_ok) (by rw [HEX.out]; exact Sc.lists_bd Sc.ex_ok)).mono ?_
  rintro e w19 ⟨rfl, hb⟩
  rw [HEX.out, Sc.ex_size]
  replace hm := (hb.cell (World.block_lt_of_cell? _ _ hm)).trans hm
  replace hS := (hS.below hb).more hb.size
  replace b1 := blk_below b1 hb
  replace hX := (hX.below hb).more hb.size
  replace b2 := blk_below b2 hb
  replace hbt := hbt.trans (hb.mono hbt.size)
  clear hb
  have c0 := blk_cell (j := 0) b1
  simp only [List.getElem?_toArray, List.getElem?_cons_zero, List.getElem?_cons_succ] at c0
  have c1 := blk_cell (j := 1) b1
  simp only [List.getElem?_toArray, List.getElem?_cons_zero, List.getElem?_cons_succ] at c1
  have c2 := blk_cell (j := 2) b1
  simp only [List.getElem?_toArray, List.getElem?_cons_zero, List.getElem?_cons_succ] at c2
  have c3 := blk_cell (j := 3) b1
  simp only [List.getElem?_toArray, List.getElem?_cons_zero, List.getElem?_cons_succ] at c3
  have c4 := blk_cell (j := 4) b1
  simp only [List.getElem?_toArray, List.getElem?_cons_zero, List.getElem?_cons_succ] at c4
  go_wp2_with fail
  clear c0 c1 c2 c3 c4
  refine (sCheck_any f EX mx w19 hS hm).mono ?_
  rintro e w20 ⟨rfl, hb⟩
  rw [HEX.out, Sc.ex_ok]
  replace hm := (hb.cell (World.block_lt_of_cell? _ _ hm)).trans hm
  replace hS := (hS.below hb).more hb.size
  replace b1 := blk_below b1 hb
  replace hX := (hX.below hb).more hb.size
  replace b2 := blk_below b2 hb
  replace hbt := hbt.trans (hb.mono hbt.size)
  clear hb
  go_wp2_with fail
  refine (sCheck_any ⟨none, 0, 0, none, 0, 0, none, 0, 0, none, 0, 0, none, 0, 0⟩ Sc.noSch mx w20 ⟨RdS.nil _ _, RdS.nil _ _, RdS.nil _ _, RdS.nil _ _, RdS.nil _ _⟩ hm).mono ?_
  rintro e w21 ⟨rfl, hb⟩
  rw [Sc.no_chk]
  replace hm := (hb.cell (World.block_lt_of_cell? _ _ hm)).trans hm
  replace hS := (hS.below hb).more hb.size
  replace b1 := blk_below b1 hb
  replace hX := (hX.below hb).more hb.size
  replace b2 := blk_below b2 hb
  replace hbt := hbt.trans (hb.mono hbt.size)
  clear hb
  have c0 := blk_cell (j := 0) b1
  simp only [List.getElem?_toArray, List.getElem?_cons_zero, List.getElem?_cons_succ] at c0
  have c1 := blk_cell (j := 1) b1
  simp only [List.getElem?_toArray, List.getElem?_cons_zero, List.getElem?_cons_succ] at c1
  have c2 := blk_cell (j := 2) b1
  simp only [List.getElem?_toArray, List.getElem?_cons_zero, List.getElem?_cons_succ] at c2
  have c3 := blk_cell (j := 3) b1
  simp only [List.getElem?_toArray, List.getElem?_cons_zero, List.getElem?_cons_succ] at c3
  have c4 := blk_cell (j := 4) b1
  simp only [List.getElem?_toArray, List.getElem?_cons_zero, List.getElem?_cons_succ] at c4
  have d0 := blk_cell (j := 0) b2
  simp only [List.getElem?_toArray, List.getElem?_cons_zero, List.getElem?_cons_succ] at d0
  have d1 := blk_cell (j := 1) b2
  simp only [List.getElem?_toArray, List.getElem?_cons_zero, List.getElem?_cons_succ] at d1
  have d2 := blk_cell (j := 2) b2
  simp only [List.getElem?_toArray, List.getElem?_cons_zero, List.getElem?_cons_succ] at d2
  have d3 := blk_cell (j := 3) b2
  simp only [List.getElem?_toArray, List.getElem?_cons_zero, List.getElem?_cons_succ] at d3
  have d4 := blk_cell (j := 4) b2
  simp only [List.getElem?_toArray, List.getElem?_cons_zero, List.getElem?_cons_succ] at d4
  go_wp2_with fail
  clear c0 c1 c2 c3 c4 d0 d1 d2 d3 d4
  refine (rSame3_same x f EX w21 hX hS).mono ?_
  rintro e w22 ⟨rfl, hb⟩
  replace hm := (hb.cell (World.block_lt_of_cell? _ _ hm)).trans hm
  replace hS := (hS.below hb).more hb.size
  replace b1 := blk_below b1 hb
  replace hX := (hX.below hb).more hb.size
  replace b2 := blk_below b2 hb
  replace hbt := hbt.trans (hb.mono hbt.size)
  clear hb
  go_wp2_with fail
  go_ret
  exact ⟨rfl, hbt⟩

end Go.Proofs.YtfockoihmoljfaaGreatDoor
