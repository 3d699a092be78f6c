/-
  WeekRoundTrip, walked.
-/
import Derived.Test.YtcnldbhkppfmmaaDoorFew4
import Derived.Test.YtcnldbhkppfmmaaDoorRtP
namespace Go.Proofs.YtcnldbhkppfmmaaDoor
open Go.RowKit Go.Shelf
set_option linter.unusedVariables false
set_option linter.unusedSimpArgs false

theorem Wk.okPs_wk {s : Sc.Sch} {u : List Pl} (h : Wk.wchk s u = 0) (h1 : s.slots.length ≤ 1000) (h2 : s.rooms.length ≤ 1000) : okPs u := fun p hp => by
  obtain ⟨_, _, hk⟩ := Wk.wchk_zero h
  obtain ⟨⟨a1, a2⟩, b1, b2⟩ := hk p hp
  unfold okI
  omega
theorem Wk.okPs_of {s : Sc.Sch} {a : List Bool} (h1 : s.slots.length ≤ 1000) (h2 : s.rooms.length ≤ 1000) : okPs (Wk.ofR s a).1 := by
  by_cases h : (Wk.ofR s a).2 = 0
  · exact Wk.okPs_wk (Wk.rt_tr h).1 h1 h2
  · rw [Wk.ofR_err h]; simp [okPs]

set_option maxRecDepth 100000 in
set_option maxHeartbeats 8000000 in
theorem weekRoundTrip_any (f : Sc.Five) (s : Sc.Sch) (A : Option Addr) (n c : Nat) (l : List Pl) (O : Option Addr) (o co : Nat) (os : List Bool) (mx : Int) (w : World) (hS : Sc.RdSch w w.heap.size f s) (hF : f.nS ≤ 5864062014805 ∧ f.nR ≤ 5864062014805 ∧ f.nP ≤ 5864062014805 ∧ f.nG ≤ 5864062014805 ∧ f.nL ≤ 5864062014805) (hl : RdP w w.heap.size A n c l) (hO : RdO w w.heap.size O o co os) (hm : w.cell? ⟨0, 0, none⟩ = some (.int .i64 mx)) :
    Calls Tryd.prog 4 #[.agg f.vals, .agg #[.slice A n c], .slice O o co] w fun e w' => e = .returned (.bool true) ∧ Below w.heap.size w w' := by
  have hbt := Below.refl w.heap.size w
  have HF := Lib.hid hF
  clear hF
  have HLN := Lib.hid hS.lens
  have mS : f.nS ≤ f.cS ∧ f.cS ≤ 9223372036854775807 := ⟨hS.slots.le, hS.slots.max⟩
  have mR : f.nR ≤ f.cR ∧ f.cR ≤ 9223372036854775807 := ⟨hS.rooms.le, hS.rooms.max⟩
  have mP : f.nP ≤ f.cP ∧ f.cP ≤ 9223372036854775807 := ⟨hS.people.le, hS.people.max⟩
  have mG : f.nG ≤ f.cG ∧ f.cG ≤ 9223372036854775807 := ⟨hS.groups.le, hS.groups.max⟩
  have mL : f.nL ≤ f.cL ∧ f.cL ≤ 9223372036854775807 := ⟨hS.lessons.le, hS.lessons.max⟩
  have hl1 := hl.max
  have hl2 := hl.le
  have hlL := Lib.hid hl.len
  have hO1 := hO.max
  have hO2 := hO.le
  have hOL := Lib.hid hO.len
  obtain ⟨V1, hV⟩ : ∃ V1, V1 = w.alloc (.cells #[.slice f.aS f.nS f.cS, .slice f.aR f.nR f.cR, .slice f.aP f.nP f.cP, .slice f.aG f.nG f.cG, .slice f.aL f.nL f.cL] 45) := ⟨_, rfl⟩
  have b0 := blk_new hV
  have hb := below_new hV
  replace hS := (hS.below hb).more hb.size
  replace hm := (hb.cell (World.block_lt_of_cell? _ _ hm)).trans hm
  replace hl := (hl.below hb).more hb.size
  replace hO := (hO.below hb).more hb.size
  replace hbt := hbt.trans (hb.mono hbt.size)
  clear hb
  have HSV1 : Hid (V1.heap.size = w.heap.size + 1) := by show V1.heap.size = _; rw [hV, World.size_alloc]
  have HVV1 := Lib.hid hV.symm
  clear hV
  obtain ⟨V2, hV⟩ : ∃ V2, V2 = V1.alloc (.cells #[.slice A n c] 24) := ⟨_, rfl⟩
  have b1 := blk_new hV
  have hb := below_new hV
  replace hS := (hS.below hb).more hb.size
  replace hm := (hb.cell (World.block_lt_of_cell? _ _ hm)).trans hm
  replace hl := (hl.below hb).more hb.size
  replace hO := (hO.below hb).more hb.size
  replace b0 := blk_below b0 hb
  replace hbt := hbt.trans (hb.mono hbt.size)
  clear hb
  have HSV2 : Hid (V2.heap.size = V1.heap.size + 1) := by show V2.heap.size = _; rw [hV, World.size_alloc]
  have HVV2 := Lib.hid hV.symm
  clear hV
  rw [HSV1.out] at b1
  rw [← HVV1.out] at HVV2
  clear HSV1 HSV2
  unfold Sc.Five.vals
  go_enter Tryd.func4, Tryd.ntmps4
  go_wp2_with fail
  rw [HVV2.out]
  clear HVV1 HVV2
  refine (live4_any mx V2 hm).mono ?_
  rintro e w1 ⟨rfl, hb⟩
  replace hS := (hS.below hb).more hb.size
  replace hm := (hb.cell (World.block_lt_of_cell? _ _ hm)).trans hm
  replace hl := (hl.below hb).more hb.size
  replace hO := (hO.below hb).more hb.size
  replace b0 := blk_below b0 hb
  replace b1 := blk_below b1 hb
  replace hbt := hbt.trans (hb.mono hbt.size)
  clear hb
  have c0 := blk_cell (j := 0) b0
  simp only [List.getElem?_toArray, List.getElem?_cons_zero, List.getElem?_cons_succ] at c0
  have c1 := blk_cell (j := 1) b0
  simp only [List.getElem?_toArray, List.getElem?_cons_zero, List.getElem?_cons_succ] at c1
  have c2 := blk_cell (j := 2) b0
  simp only [List.getElem?_toArray, List.getElem?_cons_zero, List.getElem?_cons_succ] at c2
  have c3 := blk_cell (j := 3) b0
  simp only [List.getElem?_toArray, List.getElem?_cons_zero, List.getElem?_cons_succ] at c3
  have c4 := blk_cell (j := 4) b0
  simp only [List.getElem?_toArray, List.getElem?_cons_zero, List.getElem?_cons_succ] at c4
  have d0 := blk_cell (j := 0) b1
  simp only [List.getElem?_toArray, List.getElem?_cons_zero, List.getElem?_cons_succ] at d0
  go_wp2_with fail
  clear c0 c1 c2 c3 c4 d0
  refine (few4_any f s A n c w1 hS HF.out ⟨hl2, hl1⟩).mono ?_
  rintro e w2 ⟨bo, rfl, hbo, hb⟩
  have HB := Lib.hid hbo
  clear hbo
  replace hS := (hS.below hb).more hb.size
  replace hm := (hb.cell (World.block_lt_of_cell? _ _ hm)).trans hm
  replace hl := (hl.below hb).more hb.size
  replace hO := (hO.below hb).more hb.size
  replace b0 := blk_below b0 hb
  replace b1 := blk_below b1 hb
  replace hbt := hbt.trans (hb.mono hbt.size)
  clear hb
  cases bo with
  | false =>
    go_wp2_with fail
    go_ret
    exact ⟨rfl, hbt⟩
  | true =>
    obtain ⟨⟨s1, s2, s3, s4, s5⟩, hn100⟩ := HB.out rfl
    clear HB
    have hs : f.nS ≤ 1000 ∧ f.nR ≤ 1000 ∧ f.nL ≤ 1000 := ⟨by omega, by omega, by omega⟩
    have HSS : Hid (s.slots.length ≤ 1000 ∧ s.rooms.length ≤ 1000) := ⟨by rw [HLN.out.1]; omega, by rw [HLN.out.2.1]; omega⟩
    have c0 := blk_cell (j := 0) b0
    simp only [List.getElem?_toArray, List.getElem?_cons_zero, List.getElem?_cons_succ] at c0
    have c1 := blk_cell (j := 1) b0
    simp only [List.getElem?_toArray, List.getElem?_cons_zero, List.getElem?_cons_succ] at c1
    have c2 := blk_cell (j := 2) b0
    simp only [List.getElem?_toArray, List.getElem?_cons_zero, List.getElem?_cons_succ] at c2
    have c3 := blk_cell (j := 3) b0
    simp only [List.getElem?_toArray, List.getElem?_cons_zero, List.getElem?_cons_succ] at c3
    have c4 := blk_cell (j := 4) b0
    simp only [List.getElem?_toArray, List.getElem?_cons_zero, List.getElem?_cons_succ] at c4
    have d0 := blk_cell (j := 0) b1
    simp only [List.getElem?_toArray, List.getElem?_cons_zero, List.getElem?_cons_succ] at d0
    by_cases ho6 : 6000 < o
    · have tho6 : decide ((6000 : Int) < (o : Int)) = true := by simp; omega
      have uho6 : decide (6000 < o) = true := by simp; omega
      go_wp2_with fail
      go_ret
      exact ⟨rfl, hbt⟩
    · have tho6 : decide ((6000 : Int) < (o : Int)) = false := by simp; omega
      have uho6 : decide (6000 < o) = false := by simp; omega
      clear c0 c1 c2 c3 c4 d0
      have c0 := blk_cell (j := 0) b0
      simp only [List.getElem?_toArray, List.getElem?_cons_zero, List.getElem?_cons_succ] at c0
      have c1 := blk_cell (j := 1) b0
      simp only [List.getElem?_toArray, List.getElem?_cons_zero, List.getElem?_cons_succ] at c1
      have c2 := blk_cell (j := 2) b0
      simp only [List.getElem?_toArray, List.getElem?_cons_zero, List.getElem?_cons_succ] at c2
      have c3 := blk_cell (j := 3) b0
      simp only [List.getElem?_toArray, List.getElem?_cons_zero, List.getElem?_cons_succ] at c3
      have c4 := blk_cell (j := 4) b0
      simp only [List.getElem?_toArray, List.getElem?_cons_zero, List.getElem?_cons_succ] at c4
      have d0 := blk_cell (j := 0) b1
      simp only [List.getElem?_toArray, List.getElem?_cons_zero, List.getElem?_cons_succ] at d0
      go_wp2_with fail
      clear c0 c1 c2 c3 c4 d0
      refine (wTrue_any f s A n c l mx w2 hS hl hm hs).mono ?_
      rintro e w3 ⟨v3, rfl, ho3, hb⟩
      replace hS := (hS.below hb).more hb.size
      replace hm := (hb.cell (World.block_lt_of_cell? _ _ hm)).trans hm
      replace hl := (hl.below hb).more hb.size
      replace hO := (hO.below hb).more hb.size
      replace b0 := blk_below b0 hb
      replace b1 := blk_below b1 hb
      replace hbt := hbt.trans (hb.mono hbt.size)
      clear hb
      by_cases hW : ¬ Wk.wchk s l = 0
      · have HW : Hid (Wk.wchk s l ≠ 0) := hW
        obtain ⟨A3, q3, rfl, h3⟩ := own_rd ho3
        have y31 : (Wk.trR s l).1.length ≤ q3 ∧ q3 ≤ 9223372036854775807 := ⟨h3.le, h3.max⟩
        rw [Wk.trR_err]
        clear ho3 h3
        generalize (Wk.trR s l).1.length = t3 at *
        obtain ⟨e3, he3⟩ : ∃ e3, e3 = Wk.wchk s l := ⟨_, rfl⟩
        rw [← he3] at hW ⊢
        have HE3 := Lib.hid he3
        clear he3
        have d3 : (e3 == 0) = false := by simp; omega
        clear hW
        have c0 := blk_cell (j := 0) b0
        simp only [List.getElem?_toArray, List.getElem?_cons_zero, List.getElem?_cons_succ] at c0
        have c1 := blk_cell (j := 1) b0
        simp only [List.getElem?_toArray, List.getElem?_cons_zero, List.getElem?_cons_succ] at c1
        have c2 := blk_cell (j := 2) b0
        simp only [List.getElem?_toArray, List.getElem?_cons_zero, List.getElem?_cons_succ] at c2
        have c3 := blk_cell (j := 3) b0
        simp only [List.getElem?_toArray, List.getElem?_cons_zero, List.getElem?_cons_succ] at c3
        have c4 := blk_cell (j := 4) b0
        simp only [List.getElem?_toArray, List.getElem?_cons_zero, List.getElem?_cons_succ] at c4
        have d0 := blk_cell (j := 0) b1
        simp only [List.getElem?_toArray, List.getElem?_cons_zero, List.getElem?_cons_succ] at d0
        go_wp2_with fail
        clear c0 c1 c2 c3 c4 d0
        refine (wOf_any f s O o co os mx w3 hS hO hm hs).mono ?_
        rintro e w6 ⟨v6, rfl, ho6, hb⟩
        obtain ⟨A6, q6, rfl, h6⟩ := own_rdP ho6 (Wk.okPs_of HSS.out.1 HSS.out.2)
        clear ho6
        replace hS := (hS.below hb).more hb.size
        replace hm := (hb.cell (World.block_lt_of_cell? _ _ hm)).trans hm
        replace hl := (hl.below hb).more hb.size
        replace hO := (hO.below hb).more hb.size
        replace b0 := blk_below b0 hb
        replace b1 := blk_below b1 hb
        replace hbt := hbt.trans (hb.mono hbt.size)
        clear hb
        have HE := Lib.hid (Wk.ofR_err (s := s) (a := os))
        have HT := Lib.hid (Wk.rt_tr (s := s) (a := os))
        obtain ⟨U, hU⟩ : ∃ U, U = Wk.ofR s os := ⟨_, rfl⟩
        rw [← hU] at h6 HE HT ⊢
        clear hU
        obtain ⟨u, gE⟩ := U
        dsimp only at *
        obtain ⟨ul, hul⟩ : ∃ ul, ul = u.length := ⟨_, rfl⟩
        rw [← hul] at h6 ⊢
        have HUL := Lib.hid hul
        clear hul
        have y61 := h6.max
        have y62 := h6.le
        obtain ⟨V6, hV⟩ : ∃ V6, V6 = w6.alloc (.cells #[.slice A6 ul q6] 24) := ⟨_, rfl⟩
        have b6 := blk_new hV
        have hb := below_new hV
        replace hS := (hS.below hb).more hb.size
        replace hm := (hb.cell (World.block_lt_of_cell? _ _ hm)).trans hm
        replace hl := (hl.below hb).more hb.size
        replace hO := (hO.below hb).more hb.size
        replace b0 := blk_below b0 hb
        replace b1 := blk_below b1 hb
        replace h6 := (h6.below hb).more hb.size
        replace hbt := hbt.trans (hb.mono hbt.size)
        clear hb
        have HSV6 : Hid (V6.heap.size = w6.heap.size + 1) := by show V6.heap.size = _; rw [hV, World.size_alloc]
        have HVV6 := Lib.hid hV.symm
        clear hV
        clear HSV6
        by_cases hg : ¬ gE = 0
        · have hu0 : ul = 0 := by rw [HUL.out, HE.out hg]; rfl
          subst hu0
          have d1 : (gE != 0) = true := by simp; omega
          have e0 := blk_cell (j := 0) b6
          simp only [List.getElem?_toArray, List.getElem?_cons_zero, List.getElem?_cons_succ] at e0
          rw [← HVV6.out] at e0
          go_wp2_with fail
          rw [HVV6.out]
          go_wp2_with fail
          go_ret
          exact ⟨rfl, hbt⟩
        · have hg : gE = 0 := Classical.not_not.1 hg
          subst hg
          obtain ⟨hw0, hvv⟩ := HT.out rfl
          have HW0 := Lib.hid hw0
          have HVV := Lib.hid hvv
          clear hvv hw0 HE HT
          have e0 := blk_cell (j := 0) b6
          simp only [List.getElem?_toArray, List.getElem?_cons_zero, List.getElem?_cons_succ] at e0
          have c0 := blk_cell (j := 0) b0
          simp only [List.getElem?_toArray, List.getElem?_cons_zero, List.getElem?_cons_succ] at c0
          have c1 := blk_cell (j := 1) b0
          simp only [List.getElem?_toArray, List.getElem?_cons_zero, List.getElem?_cons_succ] at c1
          have c2 := blk_cell (j := 2) b0
          simp only [List.getElem?_toArray, List.getElem?_cons_zero, List.getElem?_cons_succ] at c2
          have c3 := blk_cell (j := 3) b0
          simp only [List.getElem?_toArray, List.getElem?_cons_zero, List.getElem?_cons_succ] at c3
          have c4 := blk_cell (j := 4) b0
          simp only [List.getElem?_toArray, List.getElem?_cons_zero, List.getElem?_cons_succ] at c4
          have d0 := blk_cell (j := 0) b1
          simp only [List.getElem?_toArray, List.getElem?_cons_zero, List.getElem?_cons_succ] at d0
          rw [← HVV6.out] at e0 c0 c1 c2 c3 c4 d0
          go_wp2_with fail
          rw [HVV6.out]
          clear e0 c0 c1 c2 c3 c4 d0 HVV6
          refine (wTrue_any f s A6 ul q6 u mx V6 hS h6 hm hs).mono ?_
          rintro e w7 ⟨v7, rfl, ho7, hb⟩
          rw [Wk.trR_err, HW0.out]
          replace hS := (hS.below hb).more hb.size
          replace hm := (hb.cell (World.block_lt_of_cell? _ _ hm)).trans hm
          replace hl := (hl.below hb).more hb.size
          replace hO := (hO.below hb).more hb.size
          replace b0 := blk_below b0 hb
          replace b1 := blk_below b1 hb
          replace h6 := (h6.below hb).more hb.size
          replace b6 := blk_below b6 hb
          replace hbt := hbt.trans (hb.mono hbt.size)
          clear hb
          have hTL : (Wk.trR s u).1.length = f.nL * (f.nS + f.nR) + 1 := by
            unfold Wk.trR
            rw [if_neg (fun hh => hh HW0.out)]
            dsimp only
            rw [Wk.trK_length, HLN.out.1, HLN.out.2.1, HLN.out.2.2.2.2]
          rw [hTL] at ho7
          obtain ⟨T, hT⟩ : ∃ T, T = (Wk.trR s u).1 := ⟨_, rfl⟩
          rw [← hT] at ho7 HVV hTL
          clear hT
          obtain ⟨A7, q7, rfl, h7⟩ := own_rd ho7
          replace h7 : RdO w7 w7.heap.size A7 (f.nL * (f.nS + f.nR) + 1) q7 T := h7
          clear ho7
          have hprod : f.nL * (f.nS + f.nR) ≤ 2000000 := Nat.le_trans (Nat.mul_le_mul hs.2.2 (show f.nS + f.nR ≤ 2000 by omega)) (by omega)
          obtain ⟨V, hV⟩ : ∃ V, V = f.nL * (f.nS + f.nR) := ⟨_, rfl⟩
          have HV := Lib.hid hV
          rw [← hV] at h7 hTL hprod ⊢
          clear hV
          have y71 := h7.max
          have y72 := h7.le
          have c0 := blk_cell (j := 0) b0
          simp only [List.getElem?_toArray, List.getElem?_cons_zero, List.getElem?_cons_succ] at c0
          have c1 := blk_cell (j := 1) b0
          simp only [List.getElem?_toArray, List.getElem?_cons_zero, List.getElem?_cons_succ] at c1
          have c2 := blk_cell (j := 2) b0
          simp only [List.getElem?_toArray, List.getElem?_cons_zero, List.getElem?_cons_succ] at c2
          have c3 := blk_cell (j := 3) b0
          simp only [List.getElem?_toArray, List.getElem?_cons_zero, List.getElem?_cons_succ] at c3
          have c4 := blk_cell (j := 4) b0
          simp only [List.getElem?_toArray, List.getElem?_cons_zero, List.getElem?_cons_succ] at c4
          have d0 := blk_cell (j := 0) b1
          simp only [List.getElem?_toArray, List.getElem?_cons_zero, List.getElem?_cons_succ] at d0
          go_wp2_with fail
          clear c0 c1 c2 c3 c4 d0
          refine (wVars_any f w7 mS mR mL hs).mono ?_
          rintro e w8 ⟨rfl, hb⟩
          rw [← HV.out]
          replace hS := (hS.below hb).more hb.size
          replace hm := (hb.cell (World.block_lt_of_cell? _ _ hm)).trans hm
          replace hl := (hl.below hb).more hb.size
          replace hO := (hO.below hb).more hb.size
          replace b0 := blk_below b0 hb
          replace b1 := blk_below b1 hb
          replace h6 := (h6.below hb).more hb.size
          replace b6 := blk_below b6 hb
          replace h7 := (h7.below hb).more hb.size
          replace hbt := hbt.trans (hb.mono hbt.size)
          clear hb
          have d2 : (((V + 1 : Nat) : Int) != ((V : Nat) : Int) + 1) = false := by simp
          have e0 := blk_cell (j := 0) b6
          simp only [List.getElem?_toArray, List.getElem?_cons_zero, List.getElem?_cons_succ] at e0
          have c0 := blk_cell (j := 0) b0
          simp only [List.getElem?_toArray, List.getElem?_cons_zero, List.getElem?_cons_succ] at c0
          have c1 := blk_cell (j := 1) b0
          simp only [List.getElem?_toArray, List.getElem?_cons_zero, List.getElem?_cons_succ] at c1
          have c2 := blk_cell (j := 2) b0
          simp only [List.getElem?_toArray, List.getElem?_cons_zero, List.getElem?_cons_succ] at c2
          have c3 := blk_cell (j := 3) b0
          simp only [List.getElem?_toArray, List.getElem?_cons_zero, List.getElem?_cons_succ] at c3
          have c4 := blk_cell (j := 4) b0
          simp only [List.getElem?_toArray, List.getElem?_cons_zero, List.getElem?_cons_succ] at c4
          have d0 := blk_cell (j := 0) b1
          simp only [List.getElem?_toArray, List.getElem?_cons_zero, List.getElem?_cons_succ] at d0
          go_wp2_with fail
          clear c0 c1 c2 c3 c4 d0
          (try clear e0)
          refine (wCheck_any f s A6 ul q6 u mx w8 hS h6 hm).mono ?_
          rintro e w9 ⟨rfl, hb⟩
          rw [HW0.out]
          replace hS := (hS.below hb).more hb.size
          replace hm := (hb.cell (World.block_lt_of_cell? _ _ hm)).trans hm
          replace hl := (hl.below hb).more hb.size
          replace hO := (hO.below hb).more hb.size
          replace b0 := blk_below b0 hb
          replace b1 := blk_below b1 hb
          replace h6 := (h6.below hb).more hb.size
          replace b6 := blk_below b6 hb
          replace h7 := (h7.below hb).more hb.size
          replace hbt := hbt.trans (hb.mono hbt.size)
          clear hb
          go_wp2_with fail
          go_loopw [15] (fun iv wr => ∃ (j nq : Nat), 1 ≤ j ∧ j ≤ V + 1 ∧ iv = .int .i64 j ∧ wr = w9.drewN nq) (fun iv _ => V + 1 - (intOf iv).toNat)
          case atStart => exact ⟨1, 0, by omega, by omega, rfl, rfl⟩
          case round =>
            obtain ⟨j, nq0, hj1, hj, rfl, rfl⟩ := hrel
            have hb : Below w9.heap.size w9 (w9.drewN nq0) := below_drewN' (Below.refl _ _) _
            replace hS := (hS.below hb).more hb.size
            replace hm := (hb.cell (World.block_lt_of_cell? _ _ hm)).trans hm
            replace hl := (hl.below hb).more hb.size
            replace hO := (hO.below hb).more hb.size
            replace b0 := blk_below b0 hb
            replace b1 := blk_below b1 hb
            replace h6 := (h6.below hb).more hb.size
            replace b6 := blk_below b6 hb
            replace h7 := (h7.below hb).more hb.size
            replace hbt := hbt.trans (hb.mono hbt.size)
            clear hb
            generalize hwr : w9.drewN nq0 = wr at *
            have HWR := Lib.hid hwr.symm
            clear hwr
            by_cases hjV : j < V + 1
            · have t1 : decide ((j : Int) < ((V + 1 : Nat) : Int)) = true := by simp; omega
              have t1' : decide ((j : Int) < (V : Int) + 1) = true := by simp; omega
              have t2 : decide (j < V + 1) = true := by simp; omega
              have hjT : j < T.length := by rw [hTL]; exact hjV
              obtain ⟨ad, rfl, _, x0⟩ := h7.at_ hjV hjT
              have hval := HVV.out j hj1 (by rw [HLN.out.1, HLN.out.2.1, HLN.out.2.2.2.2, ← HV.out]; exact hjV)
              rw [List.getElem?_eq_getElem hjT] at hval
              injection hval with hval
              rw [hval] at x0
              clear hval
              by_cases hjo : j < o
              · have hjo' : j < os.length := by rw [hOL.out]; exact hjo
                obtain ⟨ad2, rfl, _, z0⟩ := hO.at_ hjo hjo'
                have hh : Wk.holds os (j : Int) = os[j] := by
                  unfold Wk.holds
                  rw [Int.toNat_natCast, List.getD_eq_getElem?_getD, List.getElem?_eq_getElem hjo']
                  simp
                  omega
                rw [hh] at x0
                clear hh
                generalize os[j] = bb at *
                have t3 : decide ((j : Int) < (o : Int)) = true := by simp; omega
                have t4 : decide (j < o) = true := by simp; omega
                go_wp2_with fail
                go_quiet (fail)
                go_wp2_with fail
                go_roundw
                case rel => exact ⟨j + 1, nq0 + nq, by omega, by omega, by go_num, by rw [HWR.out, World.drewN_drewN]⟩
                case measure => simp [intOf]; omega
              · have hh : Wk.holds os (j : Int) = false := by
                  unfold Wk.holds
                  rw [hOL.out, decide_eq_false (by omega), Bool.false_and]
                rw [hh] at x0
                clear hh
                have t3 : decide ((j : Int) < (o : Int)) = false := by simp; omega
                go_wp2_with fail
                go_quiet (fail)
                go_wp2_with fail
                go_roundw
                case rel => exact ⟨j + 1, nq0 + nq, by omega, by omega, by go_num, by rw [HWR.out, World.drewN_drewN]⟩
                case measure => simp [intOf]; omega
            · obtain rfl : j = V + 1 := by omega
              have t1 : decide (((V + 1 : Nat) : Int) < ((V + 1 : Nat) : Int)) = false := by simp
              have t1' : decide (((V + 1 : Nat) : Int) < (V : Int) + 1) = false := by simp
              have c0 := blk_cell (j := 0) b0
              simp only [List.getElem?_toArray, List.getElem?_cons_zero, List.getElem?_cons_succ] at c0
              have c1 := blk_cell (j := 1) b0
              simp only [List.getElem?_toArray, List.getElem?_cons_zero, List.getElem?_cons_succ] at c1
              have c2 := blk_cell (j := 2) b0
              simp only [List.getElem?_toArray, List.getElem?_cons_zero, List.getElem?_cons_succ] at c2
              have c3 := blk_cell (j := 3) b0
              simp only [List.getElem?_toArray, List.getElem?_cons_zero, List.getElem?_cons_succ] at c3
              have c4 := blk_cell (j := 4) b0
              simp only [List.getElem?_toArray, List.getElem?_cons_zero, List.getElem?_cons_succ] at c4
              have d0 := blk_cell (j := 0) b1
              simp only [List.getElem?_toArray, List.getElem?_cons_zero, List.getElem?_cons_succ] at d0
              go_wp2_with fail
              clear c0 c1 c2 c3 c4 d0
              refine (wCheck_any f s A n c l mx wr hS hl hm).mono ?_
              rintro e w10 ⟨rfl, hb⟩
              have hWW := HW.out
              generalize Wk.wchk s l = wE at *
              replace hS := (hS.below hb).more hb.size
              replace hm := (hb.cell (World.block_lt_of_cell? _ _ hm)).trans hm
              replace hl := (hl.below hb).more hb.size
              replace hO := (hO.below hb).more hb.size
              replace b0 := blk_below b0 hb
              replace b1 := blk_below b1 hb
              replace h6 := (h6.below hb).more hb.size
              replace b6 := blk_below b6 hb
              replace h7 := (h7.below hb).more hb.size
              replace hbt := hbt.trans (hb.mono hbt.size)
              clear hb
              have d9 : (wE == 0) = false := by simp; omega
              go_wp2_with fail
              go_ret
              exact ⟨rfl, hbt⟩
      · have hW : Wk.wchk s l = 0 := Classical.not_not.1 hW
        have HW : Hid (Wk.wchk s l = 0) := hW
        rw [Wk.trR_err, hW]
        have hof := Wk.rt_of hW
        clear hW
        have HOF := Lib.hid hof
        clear hof
        obtain ⟨T3, hT3⟩ : ∃ T3, T3 = (Wk.trR s l).1 := ⟨_, rfl⟩
        rw [← hT3] at ho3 HOF
        clear hT3
        obtain ⟨A3, q3, rfl, h3⟩ := own_rd ho3
        replace h3 : RdO w3 w3.heap.size A3 T3.length q3 T3 := h3
        clear ho3
        obtain ⟨t3, ht3⟩ : ∃ t3, t3 = T3.length := ⟨_, rfl⟩
        rw [← ht3] at h3 ⊢
        clear ht3
        have y31 := h3.max
        have y32 := h3.le
        have c0 := blk_cell (j := 0) b0
        simp only [List.getElem?_toArray, List.getElem?_cons_zero, List.getElem?_cons_succ] at c0
        have c1 := blk_cell (j := 1) b0
        simp only [List.getElem?_toArray, List.getElem?_cons_zero, List.getElem?_cons_succ] at c1
        have c2 := blk_cell (j := 2) b0
        simp only [List.getElem?_toArray, List.getElem?_cons_zero, List.getElem?_cons_succ] at c2
        have c3 := blk_cell (j := 3) b0
        simp only [List.getElem?_toArray, List.getElem?_cons_zero, List.getElem?_cons_succ] at c3
        have c4 := blk_cell (j := 4) b0
        simp only [List.getElem?_toArray, List.getElem?_cons_zero, List.getElem?_cons_succ] at c4
        have d0 := blk_cell (j := 0) b1
        simp only [List.getElem?_toArray, List.getElem?_cons_zero, List.getElem?_cons_succ] at d0
        go_wp2_with fail
        clear c0 c1 c2 c3 c4 d0
        refine (wOf_any f s A3 t3 q3 T3 mx w3 hS h3 hm hs).mono ?_
        rintro e w4 ⟨v4, rfl, ho4, hb⟩
        rw [HOF.out] at ho4 ⊢
        dsimp only at ho4 ⊢
        rw [hlL.out] at ho4
        obtain ⟨A4, q4, rfl, h4⟩ := own_rdP ho4 hl.2
        clear ho4
        have y41 := h4.max
        have y42 := h4.le
        replace hS := (hS.below hb).more hb.size
        replace hm := (hb.cell (World.block_lt_of_cell? _ _ hm)).trans hm
        replace hl := (hl.below hb).more hb.size
        replace hO := (hO.below hb).more hb.size
        replace b0 := blk_below b0 hb
        replace b1 := blk_below b1 hb
        replace h3 := (h3.below hb).more hb.size
        replace hbt := hbt.trans (hb.mono hbt.size)
        clear hb
        obtain ⟨V4, hV⟩ : ∃ V4, V4 = w4.alloc (.cells #[.slice A4 n q4] 24) := ⟨_, rfl⟩
        have b4 := blk_new hV
        have hb := below_new hV
        replace hS := (hS.below hb).more hb.size
        replace hm := (hb.cell (World.block_lt_of_cell? _ _ hm)).trans hm
        replace hl := (hl.below hb).more hb.size
        replace hO := (hO.below hb).more hb.size
        replace b0 := blk_below b0 hb
        replace b1 := blk_below b1 hb
        replace h3 := (h3.below hb).more hb.size
        replace h4 := (h4.below hb).more hb.size
        replace hbt := hbt.trans (hb.mono hbt.size)
        clear hb
        have HSV4 : Hid (V4.heap.size = w4.heap.size + 1) := by show V4.heap.size = _; rw [hV, World.size_alloc]
        have HVV4 := Lib.hid hV.symm
        clear hV
        clear HSV4
        have e0 := blk_cell (j := 0) b4
        simp only [List.getElem?_toArray, List.getElem?_cons_zero, List.getElem?_cons_succ] at e0
        have c0 := blk_cell (j := 0) b0
        simp only [List.getElem?_toArray, List.getElem?_cons_zero, List.getElem?_cons_succ] at c0
        have c1 := blk_cell (j := 1) b0
        simp only [List.getElem?_toArray, List.getElem?_cons_zero, List.getElem?_cons_succ] at c1
        have c2 := blk_cell (j := 2) b0
        simp only [List.getElem?_toArray, List.getElem?_cons_zero, List.getElem?_cons_succ] at c2
        have c3 := blk_cell (j := 3) b0
        simp only [List.getElem?_toArray, List.getElem?_cons_zero, List.getElem?_cons_succ] at c3
        have c4 := blk_cell (j := 4) b0
        simp only [List.getElem?_toArray, List.getElem?_cons_zero, List.getElem?_cons_succ] at c4
        have d0 := blk_cell (j := 0) b1
        simp only [List.getElem?_toArray, List.getElem?_cons_zero, List.getElem?_cons_succ] at d0
        rw [← HVV4.out] at e0 c0 c1 c2 c3 c4 d0
        go_wp2_with fail
        rw [HVV4.out]
        clear e0 c0 c1 c2 c3 c4 d0 HVV4
        refine (same4_any A4 A n q4 n c _ _ V4 h4 hl).mono ?_
        rintro e w5 ⟨rfl, hb⟩
        rw [show decide (l = l) = true by simp]
        replace hS := (hS.below hb).more hb.size
        replace hm := (hb.cell (World.block_lt_of_cell? _ _ hm)).trans hm
        replace hl := (hl.below hb).more hb.size
        replace hO := (hO.below hb).more hb.size
        replace b0 := blk_below b0 hb
        replace b1 := blk_below b1 hb
        replace h3 := (h3.below hb).more hb.size
        replace h4 := (h4.below hb).more hb.size
        replace b4 := blk_below b4 hb
        replace hbt := hbt.trans (hb.mono hbt.size)
        clear hb
        have c0 := blk_cell (j := 0) b0
        simp only [List.getElem?_toArray, List.getElem?_cons_zero, List.getElem?_cons_succ] at c0
        have c1 := blk_cell (j := 1) b0
        simp only [List.getElem?_toArray, List.getElem?_cons_zero, List.getElem?_cons_succ] at c1
        have c2 := blk_cell (j := 2) b0
        simp only [List.getElem?_toArray, List.getElem?_cons_zero, List.getElem?_cons_succ] at c2
        have c3 := blk_cell (j := 3) b0
        simp only [List.getElem?_toArray, List.getElem?_cons_zero, List.getElem?_cons_succ] at c3
        have c4 := blk_cell (j := 4) b0
        simp only [List.getElem?_toArray, List.getElem?_cons_zero, List.getElem?_cons_succ] at c4
        have d0 := blk_cell (j := 0) b1
        simp only [List.getElem?_toArray, List.getElem?_cons_zero, List.getElem?_cons_succ] at d0
        go_wp2_with fail
        clear c0 c1 c2 c3 c4 d0
        refine (wOf_any f s O o co os mx w5 hS hO hm hs).mono ?_
        rintro e w6 ⟨v6, rfl, ho6, hb⟩
        obtain ⟨A6, q6, rfl, h6⟩ := own_rdP ho6 (Wk.okPs_of HSS.out.1 HSS.out.2)
        clear ho6
        replace hS := (hS.below hb).more hb.size
        replace hm := (hb.cell (World.block_lt_of_cell? _ _ hm)).trans hm
        replace hl := (hl.below hb).more hb.size
        replace hO := (hO.below hb).more hb.size
        replace b0 := blk_below b0 hb
        replace b1 := blk_below b1 hb
        replace h3 := (h3.below hb).more hb.size
        replace h4 := (h4.below hb).more hb.size
        replace b4 := blk_below b4 hb
        replace hbt := hbt.trans (hb.mono hbt.size)
        clear hb
        have HE := Lib.hid (Wk.ofR_err (s := s) (a := os))
        have HT := Lib.hid (Wk.rt_tr (s := s) (a := os))
        obtain ⟨U, hU⟩ : ∃ U, U = Wk.ofR s os := ⟨_, rfl⟩
        rw [← hU] at h6 HE HT ⊢
        clear hU
        obtain ⟨u, gE⟩ := U
        dsimp only at *
        obtain ⟨ul, hul⟩ : ∃ ul, ul = u.length := ⟨_, rfl⟩
        rw [← hul] at h6 ⊢
        have HUL := Lib.hid hul
        clear hul
        have y61 := h6.max
        have y62 := h6.le
        obtain ⟨V6, hV⟩ : ∃ V6, V6 = w6.alloc (.cells #[.slice A6 ul q6] 24) := ⟨_, rfl⟩
        have b6 := blk_new hV
        have hb := below_new hV
        replace hS := (hS.below hb).more hb.size
        replace hm := (hb.cell (World.block_lt_of_cell? _ _ hm)).trans hm
        replace hl := (hl.below hb).more hb.size
        replace hO := (hO.below hb).more hb.size
        replace b0 := blk_below b0 hb
        replace b1 := blk_below b1 hb
        replace h3 := (h3.below hb).more hb.size
        replace h4 := (h4.below hb).more hb.size
        replace b4 := blk_below b4 hb
        replace h6 := (h6.below hb).more hb.size
        replace hbt := hbt.trans (hb.mono hbt.size)
        clear hb
        have HSV6 : Hid (V6.heap.size = w6.heap.size + 1) := by show V6.heap.size = _; rw [hV, World.size_alloc]
        have HVV6 := Lib.hid hV.symm
        clear hV
        clear HSV6
        by_cases hg : ¬ gE = 0
        · have hu0 : ul = 0 := by rw [HUL.out, HE.out hg]; rfl
          subst hu0
          have d1 : (gE != 0) = true := by simp; omega
          have e0 := blk_cell (j := 0) b6
          simp only [List.getElem?_toArray, List.getElem?_cons_zero, List.getElem?_cons_succ] at e0
          rw [← HVV6.out] at e0
          go_wp2_with fail
          rw [HVV6.out]
          go_wp2_with fail
          go_ret
          exact ⟨rfl, hbt⟩
        · have hg : gE = 0 := Classical.not_not.1 hg
          subst hg
          obtain ⟨hw0, hvv⟩ := HT.out rfl
          have HW0 := Lib.hid hw0
          have HVV := Lib.hid hvv
          clear hvv hw0 HE HT
          have e0 := blk_cell (j := 0) b6
          simp only [List.getElem?_toArray, List.getElem?_cons_zero, List.getElem?_cons_succ] at e0
          have c0 := blk_cell (j := 0) b0
          simp only [List.getElem?_toArray, List.getElem?_cons_zero, List.getElem?_cons_succ] at c0
          have c1 := blk_cell (j := 1) b0
          simp only [List.getElem?_toArray, List.getElem?_cons_zero, List.getElem?_cons_succ] at c1
          have c2 := blk_cell (j := 2) b0
          simp only [List.getElem?_toArray, List.getElem?_cons_zero, List.getElem?_cons_succ] at c2
          have c3 := blk_cell (j := 3) b0
          simp only [List.getElem?_toArray, List.getElem?_cons_zero, List.getElem?_cons_succ] at c3
          have c4 := blk_cell (j := 4) b0
          simp only [List.getElem?_toArray, List.getElem?_cons_zero, List.getElem?_cons_succ] at c4
          have d0 := blk_cell (j := 0) b1
          simp only [List.getElem?_toArray, List.getElem?_cons_zero, List.getElem?_cons_succ] at d0
          rw [← HVV6.out] at e0 c0 c1 c2 c3 c4 d0
          go_wp2_with fail
          rw [HVV6.out]
          clear e0 c0 c1 c2 c3 c4 d0 HVV6
          refine (wTrue_any f s A6 ul q6 u mx V6 hS h6 hm hs).mono ?_
          rintro e w7 ⟨v7, rfl, ho7, hb⟩
          rw [Wk.trR_err, HW0.out]
          replace hS := (hS.below hb).more hb.size
          replace hm := (hb.cell (World.block_lt_of_cell? _ _ hm)).trans hm
          replace hl := (hl.below hb).more hb.size
          replace hO := (hO.below hb).more hb.size
          replace b0 := blk_below b0 hb
          replace b1 := blk_below b1 hb
          replace h3 := (h3.below hb).more hb.size
          replace h4 := (h4.below hb).more hb.size
          replace b4 := blk_below b4 hb
          replace h6 := (h6.below hb).more hb.size
          replace b6 := blk_below b6 hb
          replace hbt := hbt.trans (hb.mono hbt.size)
          clear hb
          have hTL : (Wk.trR s u).1.length = f.nL * (f.nS + f.nR) + 1 := by
            unfold Wk.trR
            rw [if_neg (fun hh => hh HW0.out)]
            dsimp only
            rw [Wk.trK_length, HLN.out.1, HLN.out.2.1, HLN.out.2.2.2.2]
          rw [hTL] at ho7
          obtain ⟨T, hT⟩ : ∃ T, T = (Wk.trR s u).1 := ⟨_, rfl⟩
          rw [← hT] at ho7 HVV hTL
          clear hT
          obtain ⟨A7, q7, rfl, h7⟩ := own_rd ho7
          replace h7 : RdO w7 w7.heap.size A7 (f.nL * (f.nS + f.nR) + 1) q7 T := h7
          clear ho7
          have hprod : f.nL * (f.nS + f.nR) ≤ 2000000 := Nat.le_trans (Nat.mul_le_mul hs.2.2 (show f.nS + f.nR ≤ 2000 by omega)) (by omega)
          obtain ⟨V, hV⟩ : ∃ V, V = f.nL * (f.nS + f.nR) := ⟨_, rfl⟩
          have HV := Lib.hid hV
          rw [← hV] at h7 hTL hprod ⊢
          clear hV
          have y71 := h7.max
          have y72 := h7.le
          have c0 := blk_cell (j := 0) b0
          simp only [List.getElem?_toArray, List.getElem?_cons_zero, List.getElem?_cons_succ] at c0
          have c1 := blk_cell (j := 1) b0
          simp only [List.getElem?_toArray, List.getElem?_cons_zero, List.getElem?_cons_succ] at c1
          have c2 := blk_cell (j := 2) b0
          simp only [List.getElem?_toArray, List.getElem?_cons_zero, List.getElem?_cons_succ] at c2
          have c3 := blk_cell (j := 3) b0
          simp only [List.getElem?_toArray, List.getElem?_cons_zero, List.getElem?_cons_succ] at c3
          have c4 := blk_cell (j := 4) b0
          simp only [List.getElem?_toArray, List.getElem?_cons_zero, List.getElem?_cons_succ] at c4
          have d0 := blk_cell (j := 0) b1
          simp only [List.getElem?_toArray, List.getElem?_cons_zero, List.getElem?_cons_succ] at d0
          go_wp2_with fail
          clear c0 c1 c2 c3 c4 d0
          refine (wVars_any f w7 mS mR mL hs).mono ?_
          rintro e w8 ⟨rfl, hb⟩
          rw [← HV.out]
          replace hS := (hS.below hb).more hb.size
          replace hm := (hb.cell (World.block_lt_of_cell? _ _ hm)).trans hm
          replace hl := (hl.below hb).more hb.size
          replace hO := (hO.below hb).more hb.size
          replace b0 := blk_below b0 hb
          replace b1 := blk_below b1 hb
          replace h3 := (h3.below hb).more hb.size
          replace h4 := (h4.below hb).more hb.size
          replace b4 := blk_below b4 hb
          replace h6 := (h6.below hb).more hb.size
          replace b6 := blk_below b6 hb
          replace h7 := (h7.below hb).more hb.size
          replace hbt := hbt.trans (hb.mono hbt.size)
          clear hb
          have d2 : (((V + 1 : Nat) : Int) != ((V : Nat) : Int) + 1) = false := by simp
          have e0 := blk_cell (j := 0) b6
          simp only [List.getElem?_toArray, List.getElem?_cons_zero, List.getElem?_cons_succ] at e0
          have c0 := blk_cell (j := 0) b0
          simp only [List.getElem?_toArray, List.getElem?_cons_zero, List.getElem?_cons_succ] at c0
          have c1 := blk_cell (j := 1) b0
          simp only [List.getElem?_toArray, List.getElem?_cons_zero, List.getElem?_cons_succ] at c1
          have c2 := blk_cell (j := 2) b0
          simp only [List.getElem?_toArray, List.getElem?_cons_zero, List.getElem?_cons_succ] at c2
          have c3 := blk_cell (j := 3) b0
          simp only [List.getElem?_toArray, List.getElem?_cons_zero, List.getElem?_cons_succ] at c3
          have c4 := blk_cell (j := 4) b0
          simp only [List.getElem?_toArray, List.getElem?_cons_zero, List.getElem?_cons_succ] at c4
          have d0 := blk_cell (j := 0) b1
          simp only [List.getElem?_toArray, List.getElem?_cons_zero, List.getElem?_cons_succ] at d0
          go_wp2_with fail
          clear c0 c1 c2 c3 c4 d0
          (try clear e0)
          refine (wCheck_any f s A6 ul q6 u mx w8 hS h6 hm).mono ?_
          rintro e w9 ⟨rfl, hb⟩
          rw [HW0.out]
          replace hS := (hS.below hb).more hb.size
          replace hm := (hb.cell (World.block_lt_of_cell? _ _ hm)).trans hm
          replace hl := (hl.below hb).more hb.size
          replace hO := (hO.below hb).more hb.size
          replace b0 := blk_below b0 hb
          replace b1 := blk_below b1 hb
          replace h3 := (h3.below hb).more hb.size
          replace h4 := (h4.below hb).more hb.size
          replace b4 := blk_below b4 hb
          replace h6 := (h6.below hb).more hb.size
          replace b6 := blk_below b6 hb
          replace h7 := (h7.below hb).more hb.size
          replace hbt := hbt.trans (hb.mono hbt.size)
          clear hb
          go_wp2_with fail
          go_loopw [15] (fun iv wr => ∃ (j nq : Nat), 1 ≤ j ∧ j ≤ V + 1 ∧ iv = .int .i64 j ∧ wr = w9.drewN nq) (fun iv _ => V + 1 - (intOf iv).toNat)
          case atStart => exact ⟨1, 0, by omega, by omega, rfl, rfl⟩
          case round =>
            obtain ⟨j, nq0, hj1, hj, rfl, rfl⟩ := hrel
            have hb : Below w9.heap.size w9 (w9.drewN nq0) := below_drewN' (Below.refl _ _) _
            replace hS := (hS.below hb).more hb.size
            replace hm := (hb.cell (World.block_lt_of_cell? _ _ hm)).trans hm
            replace hl := (hl.below hb).more hb.size
            replace hO := (hO.below hb).more hb.size
            replace b0 := blk_below b0 hb
            replace b1 := blk_below b1 hb
            replace h3 := (h3.below hb).more hb.size
            replace h4 := (h4.below hb).more hb.size
            replace b4 := blk_below b4 hb
            replace h6 := (h6.below hb).more hb.size
            replace b6 := blk_below b6 hb
            replace h7 := (h7.below hb).more hb.size
            replace hbt := hbt.trans (hb.mono hbt.size)
            clear hb
            generalize hwr : w9.drewN nq0 = wr at *
            have HWR := Lib.hid hwr.symm
            clear hwr
            by_cases hjV : j < V + 1
            · have t1 : decide ((j : Int) < ((V + 1 : Nat) : Int)) = true := by simp; omega
              have t1' : decide ((j : Int) < (V : Int) + 1) = true := by simp; omega
              have t2 : decide (j < V + 1) = true := by simp; omega
              have hjT : j < T.length := by rw [hTL]; exact hjV
              obtain ⟨ad, rfl, _, x0⟩ := h7.at_ hjV hjT
              have hval := HVV.out j hj1 (by rw [HLN.out.1, HLN.out.2.1, HLN.out.2.2.2.2, ← HV.out]; exact hjV)
              rw [List.getElem?_eq_getElem hjT] at hval
              injection hval with hval
              rw [hval] at x0
              clear hval
              by_cases hjo : j < o
              · have hjo' : j < os.length := by rw [hOL.out]; exact hjo
                obtain ⟨ad2, rfl, _, z0⟩ := hO.at_ hjo hjo'
                have hh : Wk.holds os (j : Int) = os[j] := by
                  unfold Wk.holds
                  rw [Int.toNat_natCast, List.getD_eq_getElem?_getD, List.getElem?_eq_getElem hjo']
                  simp
                  omega
                rw [hh] at x0
                clear hh
                generalize os[j] = bb at *
                have t3 : decide ((j : Int) < (o : Int)) = true := by simp; omega
                have t4 : decide (j < o) = true := by simp; omega
                go_wp2_with fail
                go_quiet (fail)
                go_wp2_with fail
                go_roundw
                case rel => exact ⟨j + 1, nq0 + nq, by omega, by omega, by go_num, by rw [HWR.out, World.drewN_drewN]⟩
                case measure => simp [intOf]; omega
              · have hh : Wk.holds os (j : Int) = false := by
                  unfold Wk.holds
                  rw [hOL.out, decide_eq_false (by omega), Bool.false_and]
                rw [hh] at x0
                clear hh
                have t3 : decide ((j : Int) < (o : Int)) = false := by simp; omega
                go_wp2_with fail
                go_quiet (fail)
                go_wp2_with fail
                go_roundw
                case rel => exact ⟨j + 1, nq0 + nq, by omega, by omega, by go_num, by rw [HWR.out, World.drewN_drewN]⟩
                case measure => simp [intOf]; omega
            · obtain rfl : j = V + 1 := by omega
              have t1 : decide (((V + 1 : Nat) : Int) < ((V + 1 : Nat) : Int)) = false := by simp
              have t1' : decide (((V + 1 : Nat) : Int) < (V : Int) + 1) = false := by simp
              have c0 := blk_cell (j := 0) b0
              simp only [List.getElem?_toArray, List.getElem?_cons_zero, List.getElem?_cons_succ] at c0
              have c1 := blk_cell (j := 1) b0
              simp only [List.getElem?_toArray, List.getElem?_cons_zero, List.getElem?_cons_succ] at c1
              have c2 := blk_cell (j := 2) b0
              simp only [List.getElem?_toArray, List.getElem?_cons_zero, List.getElem?_cons_succ] at c2
              have c3 := blk_cell (j := 3) b0
              simp only [List.getElem?_toArray, List.getElem?_cons_zero, List.getElem?_cons_succ] at c3
              have c4 := blk_cell (j := 4) b0
              simp only [List.getElem?_toArray, List.getElem?_cons_zero, List.getElem?_cons_succ] at c4
              have d0 := blk_cell (j := 0) b1
              simp only [List.getElem?_toArray, List.getElem?_cons_zero, List.getElem?_cons_succ] at d0
              go_wp2_with fail
              clear c0 c1 c2 c3 c4 d0
              refine (wCheck_any f s A n c l mx wr hS hl hm).mono ?_
              rintro e w10 ⟨rfl, hb⟩
              have hWW := HW.out
              generalize Wk.wchk s l = wE at *
              replace hS := (hS.below hb).more hb.size
              replace hm := (hb.cell (World.block_lt_of_cell? _ _ hm)).trans hm
              replace hl := (hl.below hb).more hb.size
              replace hO := (hO.below hb).more hb.size
              replace b0 := blk_below b0 hb
              replace b1 := blk_below b1 hb
              replace h3 := (h3.below hb).more hb.size
              replace h4 := (h4.below hb).more hb.size
              replace b4 := blk_below b4 hb
              replace h6 := (h6.below hb).more hb.size
              replace b6 := blk_below b6 hb
              replace h7 := (h7.below hb).more hb.size
              replace hbt := hbt.trans (hb.mono hbt.size)
              clear hb
              have d9 : (wE == 0) = true := by simp; omega
              go_wp2_with fail
              go_ret
              exact ⟨rfl, hbt⟩

end Go.Proofs.YtcnldbhkppfmmaaDoor
