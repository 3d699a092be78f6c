/-
  WeekEnumerates, walked.
-/
import Derived.Test.YtcnldbhkppfmmaaDoorAhead4
namespace Go.Proofs.YtcnldbhkppfmmaaDoor
open Go.RowKit Go.Shelf
set_option linter.unusedVariables false
set_option linter.unusedSimpArgs false

set_option maxRecDepth 100000 in
set_option maxHeartbeats 3000000 in
theorem weekEnumerates_any (f : Sc.Five) (s : Sc.Sch) (A : Option Addr) (n c : Nat) (l : List Pl) (mx : Int) (w : World) (hS : Sc.RdSch w w.heap.size f s) (hF : f.nS ≤ 5864062014805 ∧ f.nR ≤ 5864062014805 ∧ f.nP ≤ 5864062014805 ∧ f.nG ≤ 5864062014805 ∧ f.nL ≤ 5864062014805) (hl : RdP w w.heap.size A n c l) (hm : w.cell? ⟨0, 0, none⟩ = some (.int .i64 mx)) :
    Calls Tryd.prog 6 #[.agg f.vals, .agg #[.slice A n c]] w fun e w' => e = .returned (.bool true) ∧ Below w.heap.size w w' := by
  have hbt := Below.refl w.heap.size w
  have HF := Lib.hid hF
  clear hF
  have HLN := Lib.hid hS.lens
  have mS : f.nS ≤ f.cS ∧ f.cS ≤ 9223372036854775807 := ⟨hS.slots.le, hS.slots.max⟩
  have mR : f.nR ≤ f.cR ∧ f.cR ≤ 9223372036854775807 := ⟨hS.rooms.le, hS.rooms.max⟩
  have mP : f.nP ≤ f.cP ∧ f.cP ≤ 9223372036854775807 := ⟨hS.people.le, hS.people.max⟩
  have mG : f.nG ≤ f.cG ∧ f.cG ≤ 9223372036854775807 := ⟨hS.groups.le, hS.groups.max⟩
  have mL : f.nL ≤ f.cL ∧ f.cL ≤ 9223372036854775807 := ⟨hS.lessons.le, hS.lessons.max⟩
  have hl1 := hl.max
  have hl2 := hl.le
  have hlL := Lib.hid hl.len
  obtain ⟨V1, hV⟩ : ∃ V1, V1 = w.alloc (.cells #[.slice f.aS f.nS f.cS, .slice f.aR f.nR f.cR, .slice f.aP f.nP f.cP, .slice f.aG f.nG f.cG, .slice f.aL f.nL f.cL] 45) := ⟨_, rfl⟩
  have b0 := blk_new hV
  have hb := below_new hV
  replace hS := (hS.below hb).more hb.size
  replace hm := (hb.cell (World.block_lt_of_cell? _ _ hm)).trans hm
  replace hl := (hl.below hb).more hb.size
  replace hbt := hbt.trans (hb.mono hbt.size)
  clear hb
  have HSV1 : Hid (V1.heap.size = w.heap.size + 1) := by show V1.heap.size = _; rw [hV, World.size_alloc]
  have HVV1 := Lib.hid hV.symm
  clear hV
  obtain ⟨V2, hV⟩ : ∃ V2, V2 = V1.alloc (.cells #[.slice A n c] 24) := ⟨_, rfl⟩
  have b1 := blk_new hV
  have hb := below_new hV
  replace hS := (hS.below hb).more hb.size
  replace hm := (hb.cell (World.block_lt_of_cell? _ _ hm)).trans hm
  replace hl := (hl.below hb).more hb.size
  replace b0 := blk_below b0 hb
  replace hbt := hbt.trans (hb.mono hbt.size)
  clear hb
  have HSV2 : Hid (V2.heap.size = V1.heap.size + 1) := by show V2.heap.size = _; rw [hV, World.size_alloc]
  have HVV2 := Lib.hid hV.symm
  clear hV
  rw [HSV1.out] at b1
  rw [← HVV1.out] at HVV2
  clear HSV1 HSV2
  unfold Sc.Five.vals
  go_enter Tryd.func6, Tryd.ntmps6
  go_wp2_with fail
  rw [HVV2.out]
  clear HVV1 HVV2
  refine (live4_any mx V2 hm).mono ?_
  rintro e w1 ⟨rfl, hb⟩
  replace hS := (hS.below hb).more hb.size
  replace hm := (hb.cell (World.block_lt_of_cell? _ _ hm)).trans hm
  replace hl := (hl.below hb).more hb.size
  replace b0 := blk_below b0 hb
  replace b1 := blk_below b1 hb
  replace hbt := hbt.trans (hb.mono hbt.size)
  clear hb
  have c0 := blk_cell (j := 0) b0
  simp only [List.getElem?_toArray, List.getElem?_cons_zero, List.getElem?_cons_succ] at c0
  have c1 := blk_cell (j := 1) b0
  simp only [List.getElem?_toArray, List.getElem?_cons_zero, List.getElem?_cons_succ] at c1
  have c2 := blk_cell (j := 2) b0
  simp only [List.getElem?_toArray, List.getElem?_cons_zero, List.getElem?_cons_succ] at c2
  have c3 := blk_cell (j := 3) b0
  simp only [List.getElem?_toArray, List.getElem?_cons_zero, List.getElem?_cons_succ] at c3
  have c4 := blk_cell (j := 4) b0
  simp only [List.getElem?_toArray, List.getElem?_cons_zero, List.getElem?_cons_succ] at c4
  have d0 := blk_cell (j := 0) b1
  simp only [List.getElem?_toArray, List.getElem?_cons_zero, List.getElem?_cons_succ] at d0
  go_wp2_with fail
  clear c0 c1 c2 c3 c4 d0
  refine (few4_any f s A n c w1 hS HF.out ⟨hl2, hl1⟩).mono ?_
  rintro e w2 ⟨bo, rfl, hbo, hb⟩
  have HB := Lib.hid hbo
  clear hbo
  replace hS := (hS.below hb).more hb.size
  replace hm := (hb.cell (World.block_lt_of_cell? _ _ hm)).trans hm
  replace hl := (hl.below hb).more hb.size
  replace b0 := blk_below b0 hb
  replace b1 := blk_below b1 hb
  replace hbt := hbt.trans (hb.mono hbt.size)
  clear hb
  cases bo with
  | false =>
    go_wp2_with fail
    go_ret
    exact ⟨rfl, hbt⟩
  | true =>
    obtain ⟨⟨s1, s2, s3, s4, s5⟩, hn100⟩ := HB.out rfl
    clear HB
    have hs : f.nS ≤ 1000 ∧ f.nR ≤ 1000 ∧ f.nL ≤ 1000 := ⟨by omega, by omega, by omega⟩
    have c0 := blk_cell (j := 0) b0
    simp only [List.getElem?_toArray, List.getElem?_cons_zero, List.getElem?_cons_succ] at c0
    have c1 := blk_cell (j := 1) b0
    simp only [List.getElem?_toArray, List.getElem?_cons_zero, List.getElem?_cons_succ] at c1
    have c2 := blk_cell (j := 2) b0
    simp only [List.getElem?_toArray, List.getElem?_cons_zero, List.getElem?_cons_succ] at c2
    have c3 := blk_cell (j := 3) b0
    simp only [List.getElem?_toArray, List.getElem?_cons_zero, List.getElem?_cons_succ] at c3
    have c4 := blk_cell (j := 4) b0
    simp only [List.getElem?_toArray, List.getElem?_cons_zero, List.getElem?_cons_succ] at c4
    have d0 := blk_cell (j := 0) b1
    simp only [List.getElem?_toArray, List.getElem?_cons_zero, List.getElem?_cons_succ] at d0
    go_wp2_with fail
    clear c0 c1 c2 c3 c4 d0
    refine (fewAll4_any f w2 mS mR mL).mono ?_
    rintro e w3 ⟨bo, rfl, hbo, hb⟩
    have HB := Lib.hid hbo
    clear hbo
    replace hS := (hS.below hb).more hb.size
    replace hm := (hb.cell (World.block_lt_of_cell? _ _ hm)).trans hm
    replace hl := (hl.below hb).more hb.size
    replace b0 := blk_below b0 hb
    replace b1 := blk_below b1 hb
    replace hbt := hbt.trans (hb.mono hbt.size)
    clear hb
    cases bo with
    | false =>
      go_wp2_with fail
      go_ret
      exact ⟨rfl, hbt⟩
    | true =>
      have HQ := Lib.hid (HB.out rfl)
      clear HB
      have c0 := blk_cell (j := 0) b0
      simp only [List.getElem?_toArray, List.getElem?_cons_zero, List.getElem?_cons_succ] at c0
      have c1 := blk_cell (j := 1) b0
      simp only [List.getElem?_toArray, List.getElem?_cons_zero, List.getElem?_cons_succ] at c1
      have c2 := blk_cell (j := 2) b0
      simp only [List.getElem?_toArray, List.getElem?_cons_zero, List.getElem?_cons_succ] at c2
      have c3 := blk_cell (j := 3) b0
      simp only [List.getElem?_toArray, List.getElem?_cons_zero, List.getElem?_cons_succ] at c3
      have c4 := blk_cell (j := 4) b0
      simp only [List.getElem?_toArray, List.getElem?_cons_zero, List.getElem?_cons_succ] at c4
      have d0 := blk_cell (j := 0) b1
      simp only [List.getElem?_toArray, List.getElem?_cons_zero, List.getElem?_cons_succ] at d0
      go_wp2_with fail
      clear c0 c1 c2 c3 c4 d0
      refine (sCheck_any f s mx w3 hS hm).mono ?_
      rintro e w4 ⟨rfl, hb⟩
      replace hS := (hS.below hb).more hb.size
      replace hm := (hb.cell (World.block_lt_of_cell? _ _ hm)).trans hm
      replace hl := (hl.below hb).more hb.size
      replace b0 := blk_below b0 hb
      replace b1 := blk_below b1 hb
      replace hbt := hbt.trans (hb.mono hbt.size)
      clear hb
      by_cases hE : ¬ Sc.chk s = 0
      · generalize Sc.chk s = er at *
        have d1 : (er != 0) = true := by simp; omega
        go_wp2_with fail
        go_ret
        exact ⟨rfl, hbt⟩
      · have hE : Sc.chk s = 0 := Classical.not_not.1 hE
        have hpos := Sc.chk_pos hE
        have hsm := Sc.chk_small hE
        rw [HLN.out.1, HLN.out.2.1] at hpos
        rw [HLN.out.1, HLN.out.2.1, HLN.out.2.2.1, HLN.out.2.2.2.1, HLN.out.2.2.2.2] at hsm
        have hplc := HQ.out
        rw [Wk.plc_eq hpos.1 hpos.2 hsm.1 (by omega)] at hplc
        have hmany := Wk.allR_many hE (by rw [HLN.out.1, HLN.out.2.1, HLN.out.2.2.2.2]; exact hplc.1)
        have hlist := Wk.listed_iff hE l
        rw [HLN.out.1, HLN.out.2.1, HLN.out.2.2.2.2] at hmany hlist
        have HE := Lib.hid hE
        rw [hE]
        clear hE HQ
        obtain ⟨D, hD⟩ : ∃ D, D = f.nS * f.nR := ⟨_, rfl⟩
        have hD0 : 0 < D := by rw [hD]; exact Nat.mul_pos hpos.1 hpos.2
        rw [← hD] at hplc hmany hlist
        have HD := Lib.hid hD
        clear hD
        obtain ⟨N, hN⟩ : ∃ N, N = D ^ f.nL := ⟨_, rfl⟩
        rw [← hN] at hplc hmany hlist
        have HN := Lib.hid hN
        clear hN
        have HLIST := Lib.hid hlist
        have HMANY := Lib.hid hmany
        clear hlist hmany
        obtain ⟨h300, hL20⟩ := hplc
        have c0 := blk_cell (j := 0) b0
        simp only [List.getElem?_toArray, List.getElem?_cons_zero, List.getElem?_cons_succ] at c0
        have c1 := blk_cell (j := 1) b0
        simp only [List.getElem?_toArray, List.getElem?_cons_zero, List.getElem?_cons_succ] at c1
        have c2 := blk_cell (j := 2) b0
        simp only [List.getElem?_toArray, List.getElem?_cons_zero, List.getElem?_cons_succ] at c2
        have c3 := blk_cell (j := 3) b0
        simp only [List.getElem?_toArray, List.getElem?_cons_zero, List.getElem?_cons_succ] at c3
        have c4 := blk_cell (j := 4) b0
        simp only [List.getElem?_toArray, List.getElem?_cons_zero, List.getElem?_cons_succ] at c4
        have d0 := blk_cell (j := 0) b1
        simp only [List.getElem?_toArray, List.getElem?_cons_zero, List.getElem?_cons_succ] at d0
        go_wp2_with fail
        clear c0 c1 c2 c3 c4 d0
        refine (wAll_any f s 300 mx w4 hS hm (by omega) hs (fun _ => hpos)).mono ?_
        rintro e w5 ⟨A5, n5, q5, rfl, hW, hb⟩
        rw [HMANY.out] at hW ⊢
        dsimp only at hW ⊢
        replace hW : RdWs w5 w5.heap.size A5 n5 q5 _ := hW
        have hn := hW.len
        rw [List.length_map, List.length_range] at hn
        subst hn
        have HLW : Hid (∀ i, i < N → ((List.range N).map (Wk.dec f.nS f.nR f.nL))[i]? = some (Wk.dec f.nS f.nR f.nL i)) := fun i hi => by rw [List.getElem?_map, List.getElem?_range hi]; rfl
        obtain ⟨LW, hLW⟩ : ∃ LW, LW = (List.range N).map (Wk.dec f.nS f.nR f.nL) := ⟨_, rfl⟩
        rw [← hLW] at hW HLW
        clear hLW HMANY
        have y51 := hW.max
        have y52 := hW.le
        replace hS := (hS.below hb).more hb.size
        replace hm := (hb.cell (World.block_lt_of_cell? _ _ hm)).trans hm
        replace hl := (hl.below hb).more hb.size
        replace b0 := blk_below b0 hb
        replace b1 := blk_below b1 hb
        replace hbt := hbt.trans (hb.mono hbt.size)
        clear hb
        go_wp2_with fail
        go_loopw [7, 8] (fun nv jv wr => ∃ (j z : Nat), j ≤ f.nL ∧ jv = .int .i64 j ∧ nv = .int .i64 (z : Int) ∧ z = D ^ j ∧ wr = w5) (fun _ jv _ => f.nL - (intOf jv).toNat)
        case atStart => exact ⟨0, 1, by omega, rfl, rfl, by simp, rfl⟩
        case round =>
          obtain ⟨j, z, hj, rfl, rfl, hz, rfl⟩ := hrel
          have HZ := Lib.hid hz
          clear hz
          have c0 := blk_cell (j := 0) b0
          simp only [List.getElem?_toArray, List.getElem?_cons_zero, List.getElem?_cons_succ] at c0
          have c1 := blk_cell (j := 1) b0
          simp only [List.getElem?_toArray, List.getElem?_cons_zero, List.getElem?_cons_succ] at c1
          have c4 := blk_cell (j := 4) b0
          simp only [List.getElem?_toArray, List.getElem?_cons_zero, List.getElem?_cons_succ] at c4
          by_cases hjL : j < f.nL
          · have t1 : decide ((j : Int) < (f.nL : Int)) = true := by simp; omega
            have hzN : z ≤ 300 := by
              rw [HZ.out]
              refine Nat.le_trans (Nat.pow_le_pow_right hD0 (show j ≤ f.nL by omega)) ?_
              rw [← HN.out]; exact h300
            have hp1 : z * f.nS ≤ 300 * 1000 := Nat.mul_le_mul hzN hs.1
            have hp2 : z * f.nS * f.nR ≤ 300 * 1000 * 1000 := Nat.mul_le_mul hp1 hs.2.1
            have HV : Hid (wrap64 (wrap64 ((z : Int) * (f.nS : Int)) * (f.nR : Int)) = ((z * f.nS * f.nR : Nat) : Int)) := by
              show _ = _
              rw [show (z : Int) * (f.nS : Int) = ((z * f.nS : Nat) : Int) by simp]
              generalize z * f.nS = y at *
              rw [show wrap64 ((y : Nat) : Int) = (y : Int) by unfold wrap64; omega, show (y : Int) * (f.nR : Int) = ((y * f.nR : Nat) : Int) by simp]
              generalize y * f.nR = x at *
              unfold wrap64
              omega
            have HZ2 : Hid (z * f.nS * f.nR = D ^ (j + 1)) := by show _ = _; rw [HZ.out, Nat.pow_succ, HD.out, Nat.mul_assoc]
            clear hp1 hp2
            go_wp2_with fail
            go_roundw
            case rel => exact ⟨j + 1, z * f.nS * f.nR, by omega, by go_num, by rw [HV.out], HZ2.out, trivial⟩
            case measure => simp [intOf]; omega
          · obtain rfl : j = f.nL := by omega
            have t1 : decide ((f.nL : Int) < (f.nL : Int)) = false := by simp
            have hzN : z = N := by rw [HZ.out, HN.out]
            subst hzN
            clear HZ
            have t2 : ((z : Int) != (z : Int)) = false := by simp
            go_wp2_with fail
            clear c0 c1 c4
            go_loopw [9, 10] (fun bv iv wr => ∃ (i : Nat) (b : Bool), i ≤ z ∧ iv = .int .i64 i ∧ bv = .bool b ∧ (b = true ↔ ∃ k, k < i ∧ Wk.dec f.nS f.nR f.nL k = l) ∧ Sc.RdSch wr wr.heap.size f s ∧ wr.cell? ⟨0, 0, none⟩ = some (.int .i64 mx) ∧ RdP wr wr.heap.size A n c l ∧ wr.heap[w.heap.size]? = some (.cells #[.slice f.aS f.nS f.cS, .slice f.aR f.nR f.cR, .slice f.aP f.nP f.cP, .slice f.aG f.nG f.cG, .slice f.aL f.nL f.cL] 45) ∧ wr.heap[w.heap.size + 1]? = some (.cells #[.slice A n c] 24) ∧ RdWs wr wr.heap.size A5 z q5 LW ∧ Below w.heap.size w wr) (fun _ iv _ => z - (intOf iv).toNat)
            case atStart => exact ⟨0, false, by omega, rfl, rfl, by simp, hS, hm, hl, b0, b1, hW, hbt⟩
            case round =>
              clear hS hm hl b0 b1 hW hbt
              obtain ⟨i, b, hi, rfl, rfl, hin, hS, hm, hl, b0, b1, hW, hbt⟩ := hrel
              have HIN := Lib.hid hin
              clear hin
              by_cases hiz : i < z
              · have t1 : decide ((i : Int) < (z : Int)) = true := by simp; omega
                have u1 : decide (i < z) = true := by simp; omega
                have hdi : Wk.dec f.nS f.nR f.nL i = Wk.dec f.nS f.nR f.nL i := rfl
                have hok := Wk.dec_placed (S := f.nS) (R := f.nR) f.nL i (by rw [← HD.out, ← HN.out]; exact hiz)
                have hlen := Wk.dec_length f.nS f.nR f.nL i
                have HCK : Hid (Wk.wchk s (Wk.dec f.nS f.nR f.nL i) = 0) := Wk.wchk_ok HE.out ⟨by rw [hlen, HLN.out.2.2.2.2], by rw [HLN.out.1, HLN.out.2.1]; exact hok⟩
                clear hok hdi
                have HLEN := Lib.hid hlen
                clear hlen
                obtain ⟨ad, Ai, qi, hA5, _, xi, hi0⟩ := hW.at_ hiz (HLW.out i hiz)
                rw [HLEN.out] at xi hi0
                have o1 := hi0.max
                have o2 := hi0.le
                by_cases hi1 : i < 1
                · have hi00 : i = 0 := by omega
                  subst hi00
                  subst hA5
                  rw [add_zero'] at xi
                  go_wp2_with fail
                  refine wp_region_plan [([0, 1, 2, 3, 4], some 5), ([6, 7, 8, 9, 10, 11, 12, 13, 14, 15, 16, 17, 18, 19], some 20), ([21, 22, 23], none)] (by kernel_rfl) (by kernel_rfl) ?_
                  intro wd hsz hb
                  clear hsz
                  replace hS := (hS.below hb).more hb.size
                  replace hm := (hb.cell (World.block_lt_of_cell? _ _ hm)).trans hm
                  replace hl := (hl.below hb).more hb.size
                  replace b0 := blk_below b0 hb
                  replace b1 := blk_below b1 hb
                  replace hW := (hW.below hb).more hb.size
                  replace xi := (hb.cell (World.block_lt_of_cell? _ _ xi)).trans xi
                  replace hi0 := (hi0.below hb).more hb.size
                  replace hbt := hbt.trans (hb.mono hbt.size)
                  clear hb
                  simp only [pickP, pick, List.map_cons, List.map_nil, Option.map_some, Option.map_none, List.getD_cons_zero, List.getD_cons_succ]
                  have c0 : ∀ x : Ext wd.heap.size wd, x.val.cell? ⟨w.heap.size, 0, none⟩ = some (.slice f.aS f.nS f.cS) := fun x => ((x.cell (blk_lt b0)).trans (blk_cell b0)).trans rfl
                  have c1 : ∀ x : Ext wd.heap.size wd, x.val.cell? ⟨w.heap.size, 1, none⟩ = some (.slice f.aR f.nR f.cR) := fun x => ((x.cell (blk_lt b0)).trans (blk_cell b0)).trans rfl
                  have c2 : ∀ x : Ext wd.heap.size wd, x.val.cell? ⟨w.heap.size, 2, none⟩ = some (.slice f.aP f.nP f.cP) := fun x => ((x.cell (blk_lt b0)).trans (blk_cell b0)).trans rfl
                  have c3 : ∀ x : Ext wd.heap.size wd, x.val.cell? ⟨w.heap.size, 3, none⟩ = some (.slice f.aG f.nG f.cG) := fun x => ((x.cell (blk_lt b0)).trans (blk_cell b0)).trans rfl
                  have c4 : ∀ x : Ext wd.heap.size wd, x.val.cell? ⟨w.heap.size, 4, none⟩ = some (.slice f.aL f.nL f.cL) := fun x => ((x.cell (blk_lt b0)).trans (blk_cell b0)).trans rfl
                  have yi : ∀ x : Ext wd.heap.size wd, x.val.cell? ad = some (.slice Ai f.nL qi) := fun x => (x.cell (World.block_lt_of_cell? _ _ xi)).trans xi
                  refine plan_cons ?_
                  (repeat (go_big_quiet_step (fail)))
                  refine plan_nil ?_
                  clear c0 c1 c2 c3 c4 yi
                  refine plan_call (by kernel_rfl) (fun K hK => ?_)
                  go_simp
                  refine (wCheck_any f s Ai f.nL qi _ mx wd hS hi0 hm).mono ?_
                  rintro e wc ⟨rfl, hb⟩
                  rw [HCK.out]
                  refine hK.out _ _ hb ?_
                  clear hK K
                  (try simp only [Act.put, List.setIfInBounds_toArray, List.set_cons_zero, List.set_cons_succ])
                  replace hS := (hS.below hb).more hb.size
                  replace hm := (hb.cell (World.block_lt_of_cell? _ _ hm)).trans hm
                  replace hl := (hl.below hb).more hb.size
                  replace b0 := blk_below b0 hb
                  replace b1 := blk_below b1 hb
                  replace hW := (hW.below hb).more hb.size
                  replace xi := (hb.cell (World.block_lt_of_cell? _ _ xi)).trans xi
                  replace hi0 := (hi0.below hb).more hb.size
                  replace hbt := hbt.trans (hb.mono hbt.size)
                  clear hb
                  refine plan_cons ?_
                  (repeat (go_big_quiet_step (fail)))
                  refine plan_nil ?_
                  refine plan_pass (by kernel_rfl) ?_
                  (try simp only [Act.put, List.setIfInBounds_toArray, List.set_cons_zero, List.set_cons_succ])
                  refine plan_cons ?_
                  (repeat (go_big_quiet_step (fail)))
                  refine plan_nil ?_
                  refine plan_end ?_
                  by_cases hbt2 : b = true
                  · subst hbt2
                    go_wp2_with fail
                    refine wp_region_plan [([0, 1, 2, 3, 4, 5, 6], some 7), ([8, 9], none)] (by kernel_rfl) (by kernel_rfl) ?_
                    intro we hsz hb
                    clear hsz
                    replace hS := (hS.below hb).more hb.size
                    replace hm := (hb.cell (World.block_lt_of_cell? _ _ hm)).trans hm
                    replace hl := (hl.below hb).more hb.size
                    replace b0 := blk_below b0 hb
                    replace b1 := blk_below b1 hb
                    replace hW := (hW.below hb).more hb.size
                    replace xi := (hb.cell (World.block_lt_of_cell? _ _ xi)).trans xi
                    replace hi0 := (hi0.below hb).more hb.size
                    replace hbt := hbt.trans (hb.mono hbt.size)
                    clear hb
                    simp only [pickP, pick, List.map_cons, List.map_nil, Option.map_some, Option.map_none, List.getD_cons_zero, List.getD_cons_succ]
                    refine plan_cons ?_
                    (repeat (go_big_quiet_step (fail)))
                    refine plan_nil ?_
                    refine plan_pass (by kernel_rfl) ?_
                    (try simp only [Act.put, List.setIfInBounds_toArray, List.set_cons_zero, List.set_cons_succ])
                    refine plan_cons ?_
                    (repeat (go_big_quiet_step (fail)))
                    refine plan_nil ?_
                    refine plan_end ?_
                    have HB2 : Hid (true = true ↔ ∃ q, q < 0 + 1 ∧ Wk.dec f.nS f.nR f.nL q = l) := ⟨fun h => by obtain ⟨q, h1, h2⟩ := HIN.out.1 trivial; exact ⟨q, by omega, h2⟩, fun _ => rfl⟩
                    go_wp2_with fail
                    go_roundw
                    case rel => exact ⟨0 + 1, true, by omega, by go_num, rfl, HB2.out, hS, hm, hl, b0, b1, hW, hbt⟩
                    case measure => simp [intOf]; omega
                  · have hbt2 : b = false := by simpa using hbt2
                    subst hbt2
                    go_wp2_with fail
                    refine wp_region_plan [([0, 1, 2, 3, 4, 5, 6], some 7), ([8, 9], none)] (by kernel_rfl) (by kernel_rfl) ?_
                    intro we hsz hb
                    clear hsz
                    replace hS := (hS.below hb).more hb.size
                    replace hm := (hb.cell (World.block_lt_of_cell? _ _ hm)).trans hm
                    replace hl := (hl.below hb).more hb.size
                    replace b0 := blk_below b0 hb
                    replace b1 := blk_below b1 hb
                    replace hW := (hW.below hb).more hb.size
                    replace xi := (hb.cell (World.block_lt_of_cell? _ _ xi)).trans xi
                    replace hi0 := (hi0.below hb).more hb.size
                    replace hbt := hbt.trans (hb.mono hbt.size)
                    clear hb
                    simp only [pickP, pick, List.map_cons, List.map_nil, Option.map_some, Option.map_none, List.getD_cons_zero, List.getD_cons_succ]
                    have yi : ∀ x : Ext we.heap.size we, x.val.cell? ad = some (.slice Ai f.nL qi) := fun x => (x.cell (World.block_lt_of_cell? _ _ xi)).trans xi
                    have d0 : ∀ x : Ext we.heap.size we, x.val.cell? ⟨w.heap.size + 1, 0, none⟩ = some (.slice A n c) := fun x => ((x.cell (blk_lt b1)).trans (blk_cell b1)).trans rfl
                    refine plan_cons ?_
                    (repeat (go_big_quiet_step (fail)))
                    refine plan_nil ?_
                    clear yi d0
                    refine plan_call (by kernel_rfl) (fun K hK => ?_)
                    go_simp
                    refine (same4_any Ai A f.nL qi n c (Wk.dec f.nS f.nR f.nL (0)) l we hi0 hl).mono ?_
                    rintro e wf ⟨rfl, hb⟩
                    refine hK.out _ _ hb ?_
                    clear hK K
                    (try simp only [Act.put, List.setIfInBounds_toArray, List.set_cons_zero, List.set_cons_succ])
                    replace hS := (hS.below hb).more hb.size
                    replace hm := (hb.cell (World.block_lt_of_cell? _ _ hm)).trans hm
                    replace hl := (hl.below hb).more hb.size
                    replace b0 := blk_below b0 hb
                    replace b1 := blk_below b1 hb
                    replace hW := (hW.below hb).more hb.size
                    replace xi := (hb.cell (World.block_lt_of_cell? _ _ xi)).trans xi
                    replace hi0 := (hi0.below hb).more hb.size
                    replace hbt := hbt.trans (hb.mono hbt.size)
                    clear hb
                    have HB2 : Hid ((decide (Wk.dec f.nS f.nR f.nL (0) = l)) = true ↔ ∃ q, q < 0 + 1 ∧ Wk.dec f.nS f.nR f.nL q = l) := by
                      show _ ↔ _
                      rw [decide_eq_true_iff]
                      constructor
                      · intro h; exact ⟨0, by omega, h⟩
                      · rintro ⟨q, h1, h2⟩
                        by_cases hk : q < 0
                        · have := HIN.out.2 ⟨q, hk, h2⟩; cases this
                        · have hqi : q = 0 := by omega
                          rw [← hqi]; exact h2
                    generalize decide (Wk.dec f.nS f.nR f.nL (0) = l) = b3 at *
                    refine plan_cons ?_
                    (repeat (go_big_quiet_step (fail)))
                    refine plan_nil ?_
                    refine plan_end ?_
                    go_wp2_with fail
                    go_roundw
                    case rel => exact ⟨0 + 1, b3, by omega, by go_num, rfl, HB2.out, hS, hm, hl, b0, b1, hW, hbt⟩
                    case measure => simp [intOf]; omega
                · obtain ⟨k, rfl⟩ : ∃ k, i = k + 1 := ⟨i - 1, by omega⟩
                  have hAH := Wk.lex_next (S := f.nS) (R := f.nR) (L := f.nL) (i := k) (by rw [← HD.out, ← HN.out]; exact hiz)
                  have HAH := Lib.hid hAH
                  clear hAH
                  have HLENk := Lib.hid (Wk.dec_length f.nS f.nR f.nL k)
                  obtain ⟨ad2, Ak, qk, hA6, _, xk, hk0⟩ := hW.at_ (i := k) (by omega) (HLW.out k (by omega))
                  subst hA5
                  injection hA6 with hA6
                  subst hA6
                  rw [HLENk.out] at xk hk0
                  have o3 := hk0.max
                  have o4 := hk0.le
                  have t5 : decide ((0 : Int) < ((k + 1 : Nat) : Int)) = true := by simp <;> omega
                  have u5 : decide ((0 : Int) < (k : Int) + 1) = true := by simp <;> omega
                  have u6 : decide (k < z) = true := by simp <;> omega
                  rw [show ad.add (k + 1) = ⟨ad.block, ad.off + (k + 1), none⟩ by unfold Addr.add; simp] at xi
                  go_wp2_with fail
                  refine wp_region_plan [([0, 1, 2, 3, 4], some 5), ([6, 7, 8, 9, 10, 11, 12, 13, 14, 15, 16, 17, 18, 19], some 20), ([21, 22, 23], none)] (by kernel_rfl) (by kernel_rfl) ?_
                  intro wd hsz hb
                  clear hsz
                  replace hS := (hS.below hb).more hb.size
                  replace hm := (hb.cell (World.block_lt_of_cell? _ _ hm)).trans hm
                  replace hl := (hl.below hb).more hb.size
                  replace b0 := blk_below b0 hb
                  replace b1 := blk_below b1 hb
                  replace hW := (hW.below hb).more hb.size
                  replace xi := (hb.cell (World.block_lt_of_cell? _ _ xi)).trans xi
                  replace hi0 := (hi0.below hb).more hb.size
                  replace xk := (hb.cell (World.block_lt_of_cell? _ _ xk)).trans xk
                  replace hk0 := (hk0.below hb).more hb.size
                  replace hbt := hbt.trans (hb.mono hbt.size)
                  clear hb
                  simp only [pickP, pick, List.map_cons, List.map_nil, Option.map_some, Option.map_none, List.getD_cons_zero, List.getD_cons_succ]
                  have c0 : ∀ x : Ext wd.heap.size wd, x.val.cell? ⟨w.heap.size, 0, none⟩ = some (.slice f.aS f.nS f.cS) := fun x => ((x.cell (blk_lt b0)).trans (blk_cell b0)).trans rfl
                  have c1 : ∀ x : Ext wd.heap.size wd, x.val.cell? ⟨w.heap.size, 1, none⟩ = some (.slice f.aR f.nR f.cR) := fun x => ((x.cell (blk_lt b0)).trans (blk_cell b0)).trans rfl
                  have c2 : ∀ x : Ext wd.heap.size wd, x.val.cell? ⟨w.heap.size, 2, none⟩ = some (.slice f.aP f.nP f.cP) := fun x => ((x.cell (blk_lt b0)).trans (blk_cell b0)).trans rfl
                  have c3 : ∀ x : Ext wd.heap.size wd, x.val.cell? ⟨w.heap.size, 3, none⟩ = some (.slice f.aG f.nG f.cG) := fun x => ((x.cell (blk_lt b0)).trans (blk_cell b0)).trans rfl
                  have c4 : ∀ x : Ext wd.heap.size wd, x.val.cell? ⟨w.heap.size, 4, none⟩ = some (.slice f.aL f.nL f.cL) := fun x => ((x.cell (blk_lt b0)).trans (blk_cell b0)).trans rfl
                  have yi : ∀ x : Ext wd.heap.size wd, x.val.cell? ⟨ad.block, ad.off + (k + 1), none⟩ = some (.slice Ai f.nL qi) := fun x => (x.cell (World.block_lt_of_cell? _ _ xi)).trans xi
                  refine plan_cons ?_
                  (repeat (go_big_quiet_step (fail)))
                  refine plan_nil ?_
                  clear c0 c1 c2 c3 c4 yi
                  refine plan_call (by kernel_rfl) (fun K hK => ?_)
                  go_simp
                  refine (wCheck_any f s Ai f.nL qi _ mx wd hS hi0 hm).mono ?_
                  rintro e wc ⟨rfl, hb⟩
                  rw [HCK.out]
                  refine hK.out _ _ hb ?_
                  clear hK K
                  (try simp only [Act.put, List.setIfInBounds_toArray, List.set_cons_zero, List.set_cons_succ])
                  replace hS := (hS.below hb).more hb.size
                  replace hm := (hb.cell (World.block_lt_of_cell? _ _ hm)).trans hm
                  replace hl := (hl.below hb).more hb.size
                  replace b0 := blk_below b0 hb
                  replace b1 := blk_below b1 hb
                  replace hW := (hW.below hb).more hb.size
                  replace xi := (hb.cell (World.block_lt_of_cell? _ _ xi)).trans xi
                  replace hi0 := (hi0.below hb).more hb.size
                  replace xk := (hb.cell (World.block_lt_of_cell? _ _ xk)).trans xk
                  replace hk0 := (hk0.below hb).more hb.size
                  replace hbt := hbt.trans (hb.mono hbt.size)
                  clear hb
                  have yi : ∀ x : Ext wc.heap.size wc, x.val.cell? ⟨ad.block, ad.off + (k + 1), none⟩ = some (.slice Ai f.nL qi) := fun x => (x.cell (World.block_lt_of_cell? _ _ xi)).trans xi
                  have yk : ∀ x : Ext wc.heap.size wc, x.val.cell? (ad.add k) = some (.slice Ak f.nL qk) := fun x => (x.cell (World.block_lt_of_cell? _ _ xk)).trans xk
                  refine plan_cons ?_
                  (repeat (go_big_quiet_step (fail)))
                  refine plan_nil ?_
                  clear yi yk
                  refine plan_call (by kernel_rfl) (fun K hK => ?_)
                  go_simp
                  refine (ahead4_any Ak Ai f.nL qk f.nL qi _ _ wc hk0 hi0).mono ?_
                  rintro e wg ⟨rfl, hb⟩
                  rw [HAH.out]
                  refine hK.out _ _ hb ?_
                  clear hK K
                  (try simp only [Act.put, List.setIfInBounds_toArray, List.set_cons_zero, List.set_cons_succ])
                  replace hS := (hS.below hb).more hb.size
                  replace hm := (hb.cell (World.block_lt_of_cell? _ _ hm)).trans hm
                  replace hl := (hl.below hb).more hb.size
                  replace b0 := blk_below b0 hb
                  replace b1 := blk_below b1 hb
                  replace hW := (hW.below hb).more hb.size
                  replace xi := (hb.cell (World.block_lt_of_cell? _ _ xi)).trans xi
                  replace hi0 := (hi0.below hb).more hb.size
                  replace xk := (hb.cell (World.block_lt_of_cell? _ _ xk)).trans xk
                  replace hk0 := (hk0.below hb).more hb.size
                  replace hbt := hbt.trans (hb.mono hbt.size)
                  clear hb
                  refine plan_cons ?_
                  (repeat (go_big_quiet_step (fail)))
                  refine plan_nil ?_
                  refine plan_end ?_
                  by_cases hbt2 : b = true
                  · subst hbt2
                    go_wp2_with fail
                    refine wp_region_plan [([0, 1, 2, 3, 4, 5, 6], some 7), ([8, 9], none)] (by kernel_rfl) (by kernel_rfl) ?_
                    intro we hsz hb
                    clear hsz
                    replace hS := (hS.below hb).more hb.size
                    replace hm := (hb.cell (World.block_lt_of_cell? _ _ hm)).trans hm
                    replace hl := (hl.below hb).more hb.size
                    replace b0 := blk_below b0 hb
                    replace b1 := blk_below b1 hb
                    replace hW := (hW.below hb).more hb.size
                    replace xi := (hb.cell (World.block_lt_of_cell? _ _ xi)).trans xi
                    replace hi0 := (hi0.below hb).more hb.size
                    replace xk := (hb.cell (World.block_lt_of_cell? _ _ xk)).trans xk
                    replace hk0 := (hk0.below hb).more hb.size
                    replace hbt := hbt.trans (hb.mono hbt.size)
                    clear hb
                    simp only [pickP, pick, List.map_cons, List.map_nil, Option.map_some, Option.map_none, List.getD_cons_zero, List.getD_cons_succ]
                    refine plan_cons ?_
                    (repeat (go_big_quiet_step (fail)))
                    refine plan_nil ?_
                    refine plan_pass (by kernel_rfl) ?_
                    (try simp only [Act.put, List.setIfInBounds_toArray, List.set_cons_zero, List.set_cons_succ])
                    refine plan_cons ?_
                    (repeat (go_big_quiet_step (fail)))
                    refine plan_nil ?_
                    refine plan_end ?_
                    have HB2 : Hid (true = true ↔ ∃ q, q < k + 1 + 1 ∧ Wk.dec f.nS f.nR f.nL q = l) := ⟨fun h => by obtain ⟨q, h1, h2⟩ := HIN.out.1 trivial; exact ⟨q, by omega, h2⟩, fun _ => rfl⟩
                    go_wp2_with fail
                    go_roundw
                    case rel => exact ⟨k + 1 + 1, true, by omega, by go_num, rfl, HB2.out, hS, hm, hl, b0, b1, hW, hbt⟩
                    case measure => simp [intOf]; omega
                  · have hbt2 : b = false := by simpa using hbt2
                    subst hbt2
                    go_wp2_with fail
                    refine wp_region_plan [([0, 1, 2, 3, 4, 5, 6], some 7), ([8, 9], none)] (by kernel_rfl) (by kernel_rfl) ?_
                    intro we hsz hb
                    clear hsz
                    replace hS := (hS.below hb).more hb.size
                    replace hm := (hb.cell (World.block_lt_of_cell? _ _ hm)).trans hm
                    replace hl := (hl.below hb).more hb.size
                    replace b0 := blk_below b0 hb
                    replace b1 := blk_below b1 hb
                    replace hW := (hW.below hb).more hb.size
                    replace xi := (hb.cell (World.block_lt_of_cell? _ _ xi)).trans xi
                    replace hi0 := (hi0.below hb).more hb.size
                    replace xk := (hb.cell (World.block_lt_of_cell? _ _ xk)).trans xk
                    replace hk0 := (hk0.below hb).more hb.size
                    replace hbt := hbt.trans (hb.mono hbt.size)
                    clear hb
                    simp only [pickP, pick, List.map_cons, List.map_nil, Option.map_some, Option.map_none, List.getD_cons_zero, List.getD_cons_succ]
                    have yi : ∀ x : Ext we.heap.size we, x.val.cell? ⟨ad.block, ad.off + (k + 1), none⟩ = some (.slice Ai f.nL qi) := fun x => (x.cell (World.block_lt_of_cell? _ _ xi)).trans xi
                    have d0 : ∀ x : Ext we.heap.size we, x.val.cell? ⟨w.heap.size + 1, 0, none⟩ = some (.slice A n c) := fun x => ((x.cell (blk_lt b1)).trans (blk_cell b1)).trans rfl
                    refine plan_cons ?_
                    (repeat (go_big_quiet_step (fail)))
                    refine plan_nil ?_
                    clear yi d0
                    refine plan_call (by kernel_rfl) (fun K hK => ?_)
                    go_simp
                    refine (same4_any Ai A f.nL qi n c (Wk.dec f.nS f.nR f.nL (k + 1)) l we hi0 hl).mono ?_
                    rintro e wf ⟨rfl, hb⟩
                    refine hK.out _ _ hb ?_
                    clear hK K
                    (try simp only [Act.put, List.setIfInBounds_toArray, List.set_cons_zero, List.set_cons_succ])
                    replace hS := (hS.below hb).more hb.size
                    replace hm := (hb.cell (World.block_lt_of_cell? _ _ hm)).trans hm
                    replace hl := (hl.below hb).more hb.size
                    replace b0 := blk_below b0 hb
                    replace b1 := blk_below b1 hb
                    replace hW := (hW.below hb).more hb.size
                    replace xi := (hb.cell (World.block_lt_of_cell? _ _ xi)).trans xi
                    replace hi0 := (hi0.below hb).more hb.size
                    replace xk := (hb.cell (World.block_lt_of_cell? _ _ xk)).trans xk
                    replace hk0 := (hk0.below hb).more hb.size
                    replace hbt := hbt.trans (hb.mono hbt.size)
                    clear hb
                    have HB2 : Hid ((decide (Wk.dec f.nS f.nR f.nL (k + 1) = l)) = true ↔ ∃ q, q < k + 1 + 1 ∧ Wk.dec f.nS f.nR f.nL q = l) := by
                      show _ ↔ _
                      rw [decide_eq_true_iff]
                      constructor
                      · intro h; exact ⟨k + 1, by omega, h⟩
                      · rintro ⟨q, h1, h2⟩
                        by_cases hk : q < k + 1
                        · have := HIN.out.2 ⟨q, hk, h2⟩; cases this
                        · have hqi : q = k + 1 := by omega
                          rw [← hqi]; exact h2
                    generalize decide (Wk.dec f.nS f.nR f.nL (k + 1) = l) = b3 at *
                    refine plan_cons ?_
                    (repeat (go_big_quiet_step (fail)))
                    refine plan_nil ?_
                    refine plan_end ?_
                    go_wp2_with fail
                    go_roundw
                    case rel => exact ⟨k + 1 + 1, b3, by omega, by go_num, rfl, HB2.out, hS, hm, hl, b0, b1, hW, hbt⟩
                    case measure => simp [intOf]; omega
              · obtain rfl : i = z := by omega
                have t1 : decide ((i : Int) < (i : Int)) = false := by simp
                have c0 := blk_cell (j := 0) b0
                simp only [List.getElem?_toArray, List.getElem?_cons_zero, List.getElem?_cons_succ] at c0
                have c1 := blk_cell (j := 1) b0
                simp only [List.getElem?_toArray, List.getElem?_cons_zero, List.getElem?_cons_succ] at c1
                have c2 := blk_cell (j := 2) b0
                simp only [List.getElem?_toArray, List.getElem?_cons_zero, List.getElem?_cons_succ] at c2
                have c3 := blk_cell (j := 3) b0
                simp only [List.getElem?_toArray, List.getElem?_cons_zero, List.getElem?_cons_succ] at c3
                have c4 := blk_cell (j := 4) b0
                simp only [List.getElem?_toArray, List.getElem?_cons_zero, List.getElem?_cons_succ] at c4
                have d0 := blk_cell (j := 0) b1
                simp only [List.getElem?_toArray, List.getElem?_cons_zero, List.getElem?_cons_succ] at d0
                go_wp2_with fail
                clear c0 c1 c2 c3 c4 d0
                refine (wCheck_any f s A n c l mx wr hS hl hm).mono ?_
                rintro e w7 ⟨rfl, hb⟩
                have HBB : Hid (b = true ↔ Wk.wchk s l = 0) := HIN.out.trans HLIST.out
                generalize Wk.wchk s l = wE at *
                have d9 : (b == (wE == 0)) = true := by
                  rw [beq_iff_eq, Bool.eq_iff_iff, HBB.out]
                  simp
                replace hS := (hS.below hb).more hb.size
                replace hm := (hb.cell (World.block_lt_of_cell? _ _ hm)).trans hm
                replace hl := (hl.below hb).more hb.size
                replace b0 := blk_below b0 hb
                replace b1 := blk_below b1 hb
                replace hW := (hW.below hb).more hb.size
                replace hbt := hbt.trans (hb.mono hbt.size)
                clear hb
                go_wp2_with fail
                go_ret
                exact ⟨rfl, hbt⟩

end Go.Proofs.YtcnldbhkppfmmaaDoor
