/-
  WeekAll, walked.
-/
import Derived.Test.YtojbjaklngdlcaaGreatDoorFew4
import Derived.Test.YtojbjaklngdlcaaGreatDoorRAl
namespace Go.Proofs.YtojbjaklngdlcaaGreatDoor
open Go.RowKit Go.Shelf
set_option linter.unusedVariables false
set_option linter.unusedSimpArgs false

set_option maxRecDepth 100000 in
set_option maxHeartbeats 3000000 in
theorem weekAll_any (f : Sc.Five) (s : Sc.Sch) (most : Int) (mx : Int) (w : World) (hS : Sc.RdSch w w.heap.size f s) (hF : f.nS ≤ 5864062014805 ∧ f.nR ≤ 5864062014805 ∧ f.nP ≤ 5864062014805 ∧ f.nG ≤ 5864062014805 ∧ f.nL ≤ 5864062014805) (hmo : okI most) (hm : w.cell? ⟨0, 0, none⟩ = some (.int .i64 mx)) :
    Calls Tryz.prog 5 #[.agg f.vals, .int .i64 most] w fun e w' => e = .returned (.bool true) ∧ Below w.heap.size w w' := by
  have hbt := Below.refl w.heap.size w
  have HF := Lib.hid hF
  clear hF
  have HLN := Lib.hid hS.lens
  have mS : f.nS ≤ f.cS ∧ f.cS ≤ 9223372036854775807 := ⟨hS.slots.le, hS.slots.max⟩
  have mR : f.nR ≤ f.cR ∧ f.cR ≤ 9223372036854775807 := ⟨hS.rooms.le, hS.rooms.max⟩
  have mP : f.nP ≤ f.cP ∧ f.cP ≤ 9223372036854775807 := ⟨hS.people.le, hS.people.max⟩
  have mG : f.nG ≤ f.cG ∧ f.cG ≤ 9223372036854775807 := ⟨hS.groups.le, hS.groups.max⟩
  have mL : f.nL ≤ f.cL ∧ f.cL ≤ 9223372036854775807 := ⟨hS.lessons.le, hS.lessons.max⟩
  unfold okI at hmo
  obtain ⟨V1, hV⟩ : ∃ V1, V1 = w.alloc (.cells #[.slice f.aS f.nS f.cS, .slice f.aR f.nR f.cR, .slice f.aP f.nP f.cP, .slice f.aG f.nG f.cG, .slice f.aL f.nL f.cL] 28) := ⟨_, rfl⟩
  have b0 := blk_new hV
  have hb := below_new hV
  replace hS := (hS.below hb).more hb.size
  replace hm := (hb.cell (World.block_lt_of_cell? _ _ hm)).trans hm
  replace hbt := hbt.trans (hb.mono hbt.size)
  clear hb
  have HSV1 : Hid (V1.heap.size = w.heap.size + 1) := by show V1.heap.size = _; rw [hV, World.size_alloc]
  have HVV1 := Lib.hid hV.symm
  clear hV
  clear HSV1
  unfold Sc.Five.vals
  go_enter Tryz.func5, Tryz.ntmps5
  go_wp2_with fail
  rw [HVV1.out]
  clear HVV1
  refine (live4_any mx V1 hm).mono ?_
  rintro e w1 ⟨rfl, hb⟩
  replace hS := (hS.below hb).more hb.size
  replace hm := (hb.cell (World.block_lt_of_cell? _ _ hm)).trans hm
  replace b0 := blk_below b0 hb
  replace hbt := hbt.trans (hb.mono hbt.size)
  clear hb
  have c0 := blk_cell (j := 0) b0
  simp only [List.getElem?_toArray, List.getElem?_cons_zero, List.getElem?_cons_succ] at c0
  have c1 := blk_cell (j := 1) b0
  simp only [List.getElem?_toArray, List.getElem?_cons_zero, List.getElem?_cons_succ] at c1
  have c2 := blk_cell (j := 2) b0
  simp only [List.getElem?_toArray, List.getElem?_cons_zero, List.getElem?_cons_succ] at c2
  have c3 := blk_cell (j := 3) b0
  simp only [List.getElem?_toArray, List.getElem?_cons_zero, List.getElem?_cons_succ] at c3
  have c4 := blk_cell (j := 4) b0
  simp only [List.getElem?_toArray, List.getElem?_cons_zero, List.getElem?_cons_succ] at c4
  go_wp2_with fail
  clear c0 c1 c2 c3 c4
  refine (few4_any f s none 0 0 w1 hS HF.out ⟨by omega, by omega⟩).mono ?_
  rintro e w2 ⟨bo, rfl, hbo, hb⟩
  have HB := Lib.hid hbo
  clear hbo
  replace hS := (hS.below hb).more hb.size
  replace hm := (hb.cell (World.block_lt_of_cell? _ _ hm)).trans hm
  replace b0 := blk_below b0 hb
  replace hbt := hbt.trans (hb.mono hbt.size)
  clear hb
  cases bo with
  | false =>
    go_wp2_with fail
    go_ret
    exact ⟨rfl, hbt⟩
  | true =>
    have hz := (HB.out rfl).1
    have HZ := Lib.hid hz
    have hs : f.nS ≤ 1000 ∧ f.nR ≤ 1000 ∧ f.nL ≤ 1000 := ⟨by omega, by omega, by omega⟩
    have HS := Lib.hid hs
    clear hz hs HB
    by_cases hmost : 300 < most
    · have t0 : decide (300 < most) = true := by simp; omega
      go_wp2_with fail
      go_ret
      exact ⟨rfl, hbt⟩
    · have t0 : decide (300 < most) = false := by simp; omega
      have hm300 : most ≤ 300 := by omega
      have HPOS : Hid (Sc.chk s = 0 → 0 < f.nS ∧ 0 < f.nR) := fun h0 => by have := Sc.chk_pos h0; rw [HLN.out.1, HLN.out.2.1] at this; exact this
      have c0 := blk_cell (j := 0) b0
      simp only [List.getElem?_toArray, List.getElem?_cons_zero, List.getElem?_cons_succ] at c0
      have c1 := blk_cell (j := 1) b0
      simp only [List.getElem?_toArray, List.getElem?_cons_zero, List.getElem?_cons_succ] at c1
      have c2 := blk_cell (j := 2) b0
      simp only [List.getElem?_toArray, List.getElem?_cons_zero, List.getElem?_cons_succ] at c2
      have c3 := blk_cell (j := 3) b0
      simp only [List.getElem?_toArray, List.getElem?_cons_zero, List.getElem?_cons_succ] at c3
      have c4 := blk_cell (j := 4) b0
      simp only [List.getElem?_toArray, List.getElem?_cons_zero, List.getElem?_cons_succ] at c4
      go_wp2_with fail
      clear c0 c1 c2 c3 c4
      refine (wAll_any f s most mx w2 hS hm hm300 HS.out HPOS.out).mono ?_
      rintro e w3 ⟨A3, n3, q3, rfl, hW, hb⟩
      replace hS := (hS.below hb).more hb.size
      replace hm := (hb.cell (World.block_lt_of_cell? _ _ hm)).trans hm
      replace b0 := blk_below b0 hb
      replace hbt := hbt.trans (hb.mono hbt.size)
      clear hb
      obtain ⟨R, hR⟩ : ∃ R, R = Wk.allR s most := ⟨_, rfl⟩
      rw [← hR] at hW ⊢
      have HR := Lib.hid hR
      clear hR
      obtain ⟨R1, R2⟩ := R
      dsimp only at hW ⊢
      replace hW : RdWs w3 w3.heap.size A3 n3 q3 R1 := hW
      have hn := hW.len
      have y31 := hW.max
      have y32 := hW.le
      have HN := Lib.hid hn
      clear hn
      have c0 := blk_cell (j := 0) b0
      simp only [List.getElem?_toArray, List.getElem?_cons_zero, List.getElem?_cons_succ] at c0
      have c1 := blk_cell (j := 1) b0
      simp only [List.getElem?_toArray, List.getElem?_cons_zero, List.getElem?_cons_succ] at c1
      have c2 := blk_cell (j := 2) b0
      simp only [List.getElem?_toArray, List.getElem?_cons_zero, List.getElem?_cons_succ] at c2
      have c3 := blk_cell (j := 3) b0
      simp only [List.getElem?_toArray, List.getElem?_cons_zero, List.getElem?_cons_succ] at c3
      have c4 := blk_cell (j := 4) b0
      simp only [List.getElem?_toArray, List.getElem?_cons_zero, List.getElem?_cons_succ] at c4
      go_wp2_with fail
      clear c0 c1 c2 c3 c4
      refine (rAll4_any f s most w3 hS HZ.out hm300 HPOS.out).mono ?_
      rintro e w4 ⟨A4, n4, q4, rfl, hW4, hb⟩
      rw [← HR.out] at hW4 ⊢
      dsimp only at hW4 ⊢
      replace hW4 : RdWs w4 w4.heap.size A4 n4 q4 R1 := hW4
      have hn4 := hW4.len
      rw [HN.out] at hn4
      subst hn4
      have y41 := hW4.max
      have y42 := hW4.le
      replace hS := (hS.below hb).more hb.size
      replace hm := (hb.cell (World.block_lt_of_cell? _ _ hm)).trans hm
      replace b0 := blk_below b0 hb
      replace hW := (hW.below hb).more hb.size
      replace hbt := hbt.trans (hb.mono hbt.size)
      clear hb
      have E0 : ((n3 : Int) != (n3 : Int)) = false := by simp
      have E1 : (R2 != R2) = false := by simp
      go_wp2_with fail
      go_loopw [9] (fun iv wr => ∃ i : Nat, i ≤ n3 ∧ iv = .int .i64 i ∧ RdWs wr wr.heap.size A3 n3 q3 R1 ∧ RdWs wr wr.heap.size A4 n3 q4 R1 ∧ Below w.heap.size w wr) (fun iv _ => n3 - (intOf iv).toNat)
      case atStart => exact ⟨0, by omega, rfl, hW, hW4, hbt⟩
      case round =>
        clear hS hm b0 hW hW4 hbt
        obtain ⟨i, hi, rfl, hW, hW4, hbt⟩ := hrel
        by_cases hin : i < n3
        · have t1 : decide ((i : Int) < (n3 : Int)) = true := by simp; omega
          have u1 : decide (i < n3) = true := by simp; omega
          obtain ⟨x, hx⟩ : ∃ x, R1[i]? = some x := ⟨_, List.getElem?_eq_getElem (by rw [HN.out]; exact hin)⟩
          obtain ⟨ad, Ai, qi, hA3, _, x0, hi0⟩ := hW.at_ hin hx
          obtain ⟨ad', Ai', qi', hA4, _, x1, hi1⟩ := hW4.at_ hin hx
          obtain ⟨xl, hxl⟩ : ∃ xl, xl = x.length := ⟨_, rfl⟩
          rw [← hxl] at x0 x1 hi0 hi1
          clear hxl hx
          subst hA3 hA4
          have o1 := hi0.max
          have o2 := hi0.le
          have o3 := hi1.max
          have o4 := hi1.le
          go_wp2_with fail
          refine wp_region_plan [([0, 1, 2, 3, 4, 5, 6, 7], some 8), ([9], none)] (by kernel_rfl) (by kernel_rfl) ?_
          intro wd hsz hb
          clear hsz
          replace hW := (hW.below hb).more hb.size
          replace hW4 := (hW4.below hb).more hb.size
          replace x0 := (hb.cell (World.block_lt_of_cell? _ _ x0)).trans x0
          replace x1 := (hb.cell (World.block_lt_of_cell? _ _ x1)).trans x1
          replace hi0 := (hi0.below hb).more hb.size
          replace hi1 := (hi1.below hb).more hb.size
          replace hbt := hbt.trans (hb.mono hbt.size)
          clear hb
          simp only [pickP, pick, List.map_cons, List.map_nil, Option.map_some, Option.map_none, List.getD_cons_zero, List.getD_cons_succ]
          have e0 := fun x : Ext wd.heap.size wd => (x.cell (World.block_lt_of_cell? _ _ x0)).trans x0
          have e1 := fun x : Ext wd.heap.size wd => (x.cell (World.block_lt_of_cell? _ _ x1)).trans x1
          refine plan_cons ?_
          (repeat (go_big_quiet_step (fail)))
          refine plan_nil ?_
          clear e0 e1 x0 x1
          refine plan_call (by kernel_rfl) (fun K hK => ?_)
          go_simp
          refine (same4_any Ai Ai' xl qi xl qi' x x wd hi0 hi1).mono ?_
          rintro e w9 ⟨rfl, hb⟩
          rw [show decide (x = x) = true by simp]
          refine hK.out _ _ hb ?_
          clear hK K
          (try simp only [Act.put, List.setIfInBounds_toArray, List.set_cons_zero, List.set_cons_succ])
          replace hW := (hW.below hb).more hb.size
          replace hW4 := (hW4.below hb).more hb.size
          replace hbt := hbt.trans (hb.mono hbt.size)
          clear hb
          refine plan_cons ?_
          (repeat (go_big_quiet_step (fail)))
          refine plan_nil ?_
          refine plan_end ?_
          clear hi0 hi1
          go_wp2_with fail
          go_roundw
          case rel => exact ⟨i + 1, by omega, by go_num, hW, hW4, hbt⟩
          case measure => simp [intOf]; omega
        · obtain rfl : i = n3 := by omega
          have t1 : decide ((i : Int) < (i : Int)) = false := by simp
          go_wp2_with fail
          go_ret
          exact ⟨rfl, hbt⟩

end Go.Proofs.YtojbjaklngdlcaaGreatDoor
