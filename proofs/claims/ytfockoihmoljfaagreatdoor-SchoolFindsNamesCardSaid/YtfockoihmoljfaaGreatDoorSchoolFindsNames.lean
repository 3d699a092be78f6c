/-
  SchoolFindsNames, walked.
-/
import Derived.Test.YtfockoihmoljfaaGreatDoorLive3
import Derived.Test.YtfockoihmoljfaaGreatDoorFewW3
namespace Go.Proofs.YtfockoihmoljfaaGreatDoor
open Go.RowKit Go.Shelf
set_option linter.unusedVariables false
set_option linter.unusedSimpArgs false

set_option maxRecDepth 100000 in
set_option maxHeartbeats 8000000 in
theorem schoolFindsNames_any (f : Sc.Five) (s : Sc.Sch) (k x : Int) (mx : Int) (w : World) (hS : Sc.RdSch w w.heap.size f s) (hF : f.nS ≤ 5864062014805 ∧ f.nR ≤ 5864062014805 ∧ f.nP ≤ 5864062014805 ∧ f.nG ≤ 5864062014805 ∧ f.nL ≤ 5864062014805) (hk : okI k) (hx : okI x) (hm : w.cell? ⟨0, 0, none⟩ = some (.int .i64 mx)) :
    Calls Tryz.prog 7 #[.agg f.vals, .int .i64 k, .int .i64 x] w fun e w' => e = .returned (.bool true) ∧ Below w.heap.size w w' := by
  have hbt := Below.refl w.heap.size w
  have HF := Lib.hid hF
  clear hF
  have HLN := Lib.hid hS.lens
  have mS : f.nS ≤ f.cS ∧ f.cS ≤ 9223372036854775807 := ⟨hS.slots.le, hS.slots.max⟩
  have mR : f.nR ≤ f.cR ∧ f.cR ≤ 9223372036854775807 := ⟨hS.rooms.le, hS.rooms.max⟩
  have mP : f.nP ≤ f.cP ∧ f.cP ≤ 9223372036854775807 := ⟨hS.people.le, hS.people.max⟩
  have mG : f.nG ≤ f.cG ∧ f.cG ≤ 9223372036854775807 := ⟨hS.groups.le, hS.groups.max⟩
  have mL : f.nL ≤ f.cL ∧ f.cL ≤ 9223372036854775807 := ⟨hS.lessons.le, hS.lessons.max⟩
  obtain ⟨V1, hV⟩ : ∃ V1, V1 = w.alloc (.cells #[.slice f.aS f.nS f.cS, .slice f.aR f.nR f.cR, .slice f.aP f.nP f.cP, .slice f.aG f.nG f.cG, .slice f.aL f.nL f.cL] 28) := ⟨_, rfl⟩
  have b0 := blk_new hV
  have hb := below_new hV
  replace hS := (hS.below hb).more hb.size
  replace hm := (hb.cell (World.block_lt_of_cell? _ _ hm)).trans hm
  replace hbt := hbt.trans (hb.mono hbt.size)
  clear hb
  have HSV1 : Hid (V1.heap.size = w.heap.size + 1) := by show V1.heap.size = _; rw [hV, World.size_alloc]
  have HVV1 := Lib.hid hV.symm
  clear hV
  clear HSV1
  unfold Sc.Five.vals
  go_enter Tryz.func7, Tryz.ntmps7
  go_wp2_with fail
  rw [HVV1.out]
  clear HVV1
  refine (live3_any mx V1 hm).mono ?_
  rintro e w1 ⟨rfl, hb⟩
  replace hS := (hS.below hb).more hb.size
  replace hm := (hb.cell (World.block_lt_of_cell? _ _ hm)).trans hm
  replace b0 := blk_below b0 hb
  replace hbt := hbt.trans (hb.mono hbt.size)
  clear hb
  have c0 := blk_cell (j := 0) b0
  simp only [List.getElem?_toArray, List.getElem?_cons_zero, List.getElem?_cons_succ] at c0
  have c1 := blk_cell (j := 1) b0
  simp only [List.getElem?_toArray, List.getElem?_cons_zero, List.getElem?_cons_succ] at c1
  have c2 := blk_cell (j := 2) b0
  simp only [List.getElem?_toArray, List.getElem?_cons_zero, List.getElem?_cons_succ] at c2
  have c3 := blk_cell (j := 3) b0
  simp only [List.getElem?_toArray, List.getElem?_cons_zero, List.getElem?_cons_succ] at c3
  have c4 := blk_cell (j := 4) b0
  simp only [List.getElem?_toArray, List.getElem?_cons_zero, List.getElem?_cons_succ] at c4
  go_wp2_with fail
  clear c0 c1 c2 c3 c4
  refine (rFew3_any f s w1 hS HF.out).mono ?_
  rintro e w2 ⟨bo, rfl, hbo, hb⟩
  have HB := Lib.hid hbo
  clear hbo
  replace hS := (hS.below hb).more hb.size
  replace hm := (hb.cell (World.block_lt_of_cell? _ _ hm)).trans hm
  replace b0 := blk_below b0 hb
  replace hbt := hbt.trans (hb.mono hbt.size)
  clear hb
  cases bo with
  | false =>
    go_wp2_with fail
    go_ret
    exact ⟨rfl, hbt⟩
  | true =>
    have hz := HB.out rfl
    have HZ := Lib.hid hz
    clear hz HB
    unfold okI at hk hx
    have c0 := blk_cell (j := 0) b0
    simp only [List.getElem?_toArray, List.getElem?_cons_zero, List.getElem?_cons_succ] at c0
    have c1 := blk_cell (j := 1) b0
    simp only [List.getElem?_toArray, List.getElem?_cons_zero, List.getElem?_cons_succ] at c1
    have c2 := blk_cell (j := 2) b0
    simp only [List.getElem?_toArray, List.getElem?_cons_zero, List.getElem?_cons_succ] at c2
    have c3 := blk_cell (j := 3) b0
    simp only [List.getElem?_toArray, List.getElem?_cons_zero, List.getElem?_cons_succ] at c3
    have c4 := blk_cell (j := 4) b0
    simp only [List.getElem?_toArray, List.getElem?_cons_zero, List.getElem?_cons_succ] at c4
    go_wp2_with fail
    clear c0 c1 c2 c3 c4
    refine (sCheck_any f s mx w2 hS hm).mono ?_
    rintro e w3 ⟨rfl, hb⟩
    obtain ⟨er, her⟩ : ∃ er, er = Sc.chk s := ⟨_, rfl⟩
    rw [← her]
    have HER := Lib.hid her
    clear her
    replace hS := (hS.below hb).more hb.size
    replace hm := (hb.cell (World.block_lt_of_cell? _ _ hm)).trans hm
    replace b0 := blk_below b0 hb
    replace hbt := hbt.trans (hb.mono hbt.size)
    clear hb
    by_cases he : er = 0
    · rw [HER.out] at he
      have HOK := Lib.hid he
      have h0 : er = 0 := by rw [HER.out]; exact he
      subst h0
      clear he HER
      have c0 := blk_cell (j := 0) b0
      simp only [List.getElem?_toArray, List.getElem?_cons_zero, List.getElem?_cons_succ] at c0
      have c1 := blk_cell (j := 1) b0
      simp only [List.getElem?_toArray, List.getElem?_cons_zero, List.getElem?_cons_succ] at c1
      have c2 := blk_cell (j := 2) b0
      simp only [List.getElem?_toArray, List.getElem?_cons_zero, List.getElem?_cons_succ] at c2
      have c3 := blk_cell (j := 3) b0
      simp only [List.getElem?_toArray, List.getElem?_cons_zero, List.getElem?_cons_succ] at c3
      have c4 := blk_cell (j := 4) b0
      simp only [List.getElem?_toArray, List.getElem?_cons_zero, List.getElem?_cons_succ] at c4
      go_wp2_with fail
      clear c0 c1 c2 c3 c4
      refine (sCount_any f s k w3 hS).mono ?_
      rintro e w4 ⟨rfl, hb⟩
      obtain ⟨nn, hnn⟩ : ∃ nn, nn = (Sc.names s k).length := ⟨_, rfl⟩
      rw [← hnn]
      have HNN := Lib.hid hnn
      clear hnn
      replace hS := (hS.below hb).more hb.size
      replace hm := (hb.cell (World.block_lt_of_cell? _ _ hm)).trans hm
      replace b0 := blk_below b0 hb
      replace hbt := hbt.trans (hb.mono hbt.size)
      clear hb
      have c0 := blk_cell (j := 0) b0
      simp only [List.getElem?_toArray, List.getElem?_cons_zero, List.getElem?_cons_succ] at c0
      have c1 := blk_cell (j := 1) b0
      simp only [List.getElem?_toArray, List.getElem?_cons_zero, List.getElem?_cons_succ] at c1
      have c2 := blk_cell (j := 2) b0
      simp only [List.getElem?_toArray, List.getElem?_cons_zero, List.getElem?_cons_succ] at c2
      have c3 := blk_cell (j := 3) b0
      simp only [List.getElem?_toArray, List.getElem?_cons_zero, List.getElem?_cons_succ] at c3
      have c4 := blk_cell (j := 4) b0
      simp only [List.getElem?_toArray, List.getElem?_cons_zero, List.getElem?_cons_succ] at c4
      go_wp2_with fail
      clear c0 c1 c2 c3 c4
      refine (sName_any f s k x w4 hS).mono ?_
      rintro e w5 ⟨rfl, hb⟩
      replace hS := (hS.below hb).more hb.size
      replace hm := (hb.cell (World.block_lt_of_cell? _ _ hm)).trans hm
      replace b0 := blk_below b0 hb
      replace hbt := hbt.trans (hb.mono hbt.size)
      clear hb
      have c0 := blk_cell (j := 0) b0
      simp only [List.getElem?_toArray, List.getElem?_cons_zero, List.getElem?_cons_succ] at c0
      have c1 := blk_cell (j := 1) b0
      simp only [List.getElem?_toArray, List.getElem?_cons_zero, List.getElem?_cons_succ] at c1
      have c2 := blk_cell (j := 2) b0
      simp only [List.getElem?_toArray, List.getElem?_cons_zero, List.getElem?_cons_succ] at c2
      have c3 := blk_cell (j := 3) b0
      simp only [List.getElem?_toArray, List.getElem?_cons_zero, List.getElem?_cons_succ] at c3
      have c4 := blk_cell (j := 4) b0
      simp only [List.getElem?_toArray, List.getElem?_cons_zero, List.getElem?_cons_succ] at c4
      go_wp2_with fail
      clear c0 c1 c2 c3 c4
      refine (sFind_any f s k (Sc.nameAt (Sc.names s k) x) w5 hS).mono ?_
      rintro e w6 ⟨rfl, hb⟩
      replace hS := (hS.below hb).more hb.size
      replace hm := (hb.cell (World.block_lt_of_cell? _ _ hm)).trans hm
      replace b0 := blk_below b0 hb
      replace hbt := hbt.trans (hb.mono hbt.size)
      clear hb
      by_cases h1 : x < 0
      · obtain ⟨o1, o2⟩ := Sc.find_out HOK.out (k := k) (x := x) (by rw [← HNN.out]; omega)
        rw [o1, o2, show strOf [] = ⟨#[]⟩ from rfl]
        clear o1 o2
        have d1 : decide (x < 0) = true := by simp [h1]
        go_wp2_with fail
        go_ret
        exact ⟨rfl, hbt⟩
      · by_cases h2 : (nn : Int) ≤ x
        · obtain ⟨o1, o2⟩ := Sc.find_out HOK.out (k := k) (x := x) (by rw [← HNN.out]; omega)
          rw [o1, o2, show strOf [] = ⟨#[]⟩ from rfl]
          clear o1 o2
          have d1 : decide (x < 0) = false := by simp; omega
          have d2 : decide ((nn : Int) ≤ x) = true := by simp [h2]
          go_wp2_with fail
          go_ret
          exact ⟨rfl, hbt⟩
        · obtain ⟨j, rfl⟩ : ∃ j : Nat, x = j := ⟨x.toNat, by omega⟩
          obtain ⟨i1, i2, i3, i4, i5⟩ := Sc.find_in HOK.out (k := k) (j := j) (by rw [← HNN.out]; omega)
          rw [← HNN.out] at i5
          rw [i2]
          have i7 := str_beq (Sc.nameAt (Sc.names s k) (j : Int)) []
          rw [decide_eq_false i1, show strOf ([] : List UInt8) = ⟨#[]⟩ from rfl] at i7
          clear i1 i2
          generalize strOf (Sc.nameAt (Sc.names s k) (j : Int)) = na at i7 ⊢
          have d1 : decide ((j : Int) < 0) = false := by simp
          have d2 : decide ((nn : Int) ≤ (j : Int)) = false := by simp; omega
          have d3 : decide ((1 : Int) ≤ k) = true := by simp [i3]
          have d4 : decide (k ≤ 7) = true := by simp [i4]
          have d5 : decide ((nn : Int) ≤ 64) = true := by simp; omega
          have d6 : decide (nn ≤ j) = false := by simp; omega
          have d7 : decide (nn ≤ 64) = true := by simp [i5]
          have E : ((j : Int) == (j : Int)) = true := by simp
          have i0 : (⟨#[]⟩ : ByteArray).toList = [] := by
            rw [ByteArray.toList]
            unfold ByteArray.toList.loop
            rfl
          rw [i0] at i7
          have i8 : na.toList ≠ [] := by simpa using i7
          have i9 : (na.toList == []) = false := by simpa using i8
          have i10 : (na.toList != []) = true := by simpa using i8
          go_wp2_with fail
          go_ret
          exact ⟨rfl, hbt⟩
    · have d5 : (er != 0) = true := by simp [he]
      clear he
      go_wp2_with fail
      go_ret
      exact ⟨rfl, hbt⟩

end Go.Proofs.YtfockoihmoljfaaGreatDoor
