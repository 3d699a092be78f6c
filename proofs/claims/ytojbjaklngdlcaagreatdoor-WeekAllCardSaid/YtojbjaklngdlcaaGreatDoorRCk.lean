/-
  The walks of the reference's Check (school, week), Vars, At and In.
-/
import Derived.Test.YtojbjaklngdlcaaGreatDoorRefM
import Derived.Test.YtojbjaklngdlcaaGreatDoorWkW
namespace Go.Proofs.YtojbjaklngdlcaaGreatDoor
open Go.RowKit Go.Shelf
set_option linter.unusedVariables false
set_option linter.unusedSimpArgs false

set_option maxRecDepth 100000 in
set_option maxHeartbeats 4000000 in
theorem rCheck3_any (f : Sc.Five) (s : Sc.Sch) (w : World) (h : Sc.RdSch w w.heap.size f s) (hb : f.nS ≤ 80 ∧ f.nR ≤ 80 ∧ f.nP ≤ 80 ∧ f.nG ≤ 80 ∧ f.nL ≤ 80) :
    Calls Tryz.prog 34 #[.agg f.vals] w fun e w' => e = .returned (.int .i64 (Sc.chk s)) ∧ Below w.heap.size w w' := by
  have HLN := Lib.hid h.lens
  have hbt := Below.refl w.heap.size w
  have HBIG : Hid (Sc.Big s ↔ (50 < f.nS ∨ 32 < f.nR ∨ 64 < f.nP ∨ 64 < f.nG ∨ 64 < f.nL)) := by
    obtain ⟨l1, l2, l3, l4, l5⟩ := HLN.out
    show _ ↔ _
    unfold Sc.Big
    rw [l1, l2, l3, l4, l5]
  have mS : f.nS ≤ f.cS ∧ f.cS ≤ 9223372036854775807 := ⟨h.slots.le, h.slots.max⟩
  have mR : f.nR ≤ f.cR ∧ f.cR ≤ 9223372036854775807 := ⟨h.rooms.le, h.rooms.max⟩
  have mP : f.nP ≤ f.cP ∧ f.cP ≤ 9223372036854775807 := ⟨h.people.le, h.people.max⟩
  have mG : f.nG ≤ f.cG ∧ f.cG ≤ 9223372036854775807 := ⟨h.groups.le, h.groups.max⟩
  have mL : f.nL ≤ f.cL ∧ f.cL ≤ 9223372036854775807 := ⟨h.lessons.le, h.lessons.max⟩
  obtain ⟨V1, hV⟩ : ∃ V1, V1 = w.alloc (.cells #[.slice f.aS f.nS f.cS, .slice f.aR f.nR f.cR, .slice f.aP f.nP f.cP, .slice f.aG f.nG f.cG, .slice f.aL f.nL f.cL] 28) := ⟨_, rfl⟩
  have b0 := blk_new hV
  have hb := below_new hV
  replace h := (h.below hb).more hb.size
  replace hbt := hbt.trans (hb.mono hbt.size)
  clear hb
  have HSV1 : Hid (V1.heap.size = w.heap.size + 1) := by show V1.heap.size = _; rw [hV, World.size_alloc]
  have HVV1 := Lib.hid hV.symm
  clear hV
  clear HSV1
  unfold Sc.Five.vals
  have c0 := blk_cell (j := 0) b0
  simp only [List.getElem?_toArray, List.getElem?_cons_zero, List.getElem?_cons_succ] at c0
  have c1 := blk_cell (j := 1) b0
  simp only [List.getElem?_toArray, List.getElem?_cons_zero, List.getElem?_cons_succ] at c1
  have c2 := blk_cell (j := 2) b0
  simp only [List.getElem?_toArray, List.getElem?_cons_zero, List.getElem?_cons_succ] at c2
  have c3 := blk_cell (j := 3) b0
  simp only [List.getElem?_toArray, List.getElem?_cons_zero, List.getElem?_cons_succ] at c3
  have c4 := blk_cell (j := 4) b0
  simp only [List.getElem?_toArray, List.getElem?_cons_zero, List.getElem?_cons_succ] at c4
  rw [← HVV1.out] at c0 c1 c2 c3 c4
  go_enter Tryz.func34, Tryz.ntmps34
  go_wp2_with fail
  rw [HVV1.out]
  clear HVV1 c0 c1 c2 c3 c4
  refine (rMay_any f s V1 h hb).mono ?_
  rintro e w2 ⟨b, rfl, hiff, hb2⟩
  clear h
  replace b0 := blk_below b0 hb2
  replace hbt := hbt.trans (hb2.mono hbt.size)
  clear hb2
  have c0 := blk_cell (j := 0) b0
  simp only [List.getElem?_toArray, List.getElem?_cons_zero, List.getElem?_cons_succ] at c0
  have c1 := blk_cell (j := 1) b0
  simp only [List.getElem?_toArray, List.getElem?_cons_zero, List.getElem?_cons_succ] at c1
  have c2 := blk_cell (j := 2) b0
  simp only [List.getElem?_toArray, List.getElem?_cons_zero, List.getElem?_cons_succ] at c2
  have c3 := blk_cell (j := 3) b0
  simp only [List.getElem?_toArray, List.getElem?_cons_zero, List.getElem?_cons_succ] at c3
  have c4 := blk_cell (j := 4) b0
  simp only [List.getElem?_toArray, List.getElem?_cons_zero, List.getElem?_cons_succ] at c4
  cases b
  · have HC : Hid (Sc.chk s = 1) := Sc.chk_bad (fun hm => by have := hiff.2 hm; cases this)
    clear hiff
    go_wp2_with fail
    go_ret
    exact ⟨by rw [HC.out]; rfl, hbt⟩
  · have HM := Lib.hid (hiff.1 rfl)
    clear hiff
    by_cases g0 : 50 < f.nS
    · have tg0 : decide ((50 : Int) < (f.nS : Int)) = true := by simp; omega
      have ug0 : decide (50 < f.nS) = true := by simp; omega
      have HC : Hid (Sc.chk s = 2) := Sc.chk_big HM.out (HBIG.out.2 (by omega))
      go_wp2_with fail
      go_ret
      exact ⟨by rw [HC.out]; rfl, hbt⟩
    · have tg0 : decide ((50 : Int) < (f.nS : Int)) = false := by simp; omega
      have ug0 : decide (50 < f.nS) = false := by simp; omega
      by_cases g1 : 32 < f.nR
      · have tg1 : decide ((32 : Int) < (f.nR : Int)) = true := by simp; omega
        have ug1 : decide (32 < f.nR) = true := by simp; omega
        have HC : Hid (Sc.chk s = 2) := Sc.chk_big HM.out (HBIG.out.2 (by omega))
        go_wp2_with fail
        go_ret
        exact ⟨by rw [HC.out]; rfl, hbt⟩
      · have tg1 : decide ((32 : Int) < (f.nR : Int)) = false := by simp; omega
        have ug1 : decide (32 < f.nR) = false := by simp; omega
        by_cases g2 : 64 < f.nP
        · have tg2 : decide ((64 : Int) < (f.nP : Int)) = true := by simp; omega
          have ug2 : decide (64 < f.nP) = true := by simp; omega
          have HC : Hid (Sc.chk s = 2) := Sc.chk_big HM.out (HBIG.out.2 (by omega))
          go_wp2_with fail
          go_ret
          exact ⟨by rw [HC.out]; rfl, hbt⟩
        · have tg2 : decide ((64 : Int) < (f.nP : Int)) = false := by simp; omega
          have ug2 : decide (64 < f.nP) = false := by simp; omega
          by_cases g3 : 64 < f.nG
          · have tg3 : decide ((64 : Int) < (f.nG : Int)) = true := by simp; omega
            have ug3 : decide (64 < f.nG) = true := by simp; omega
            have HC : Hid (Sc.chk s = 2) := Sc.chk_big HM.out (HBIG.out.2 (by omega))
            go_wp2_with fail
            go_ret
            exact ⟨by rw [HC.out]; rfl, hbt⟩
          · have tg3 : decide ((64 : Int) < (f.nG : Int)) = false := by simp; omega
            have ug3 : decide (64 < f.nG) = false := by simp; omega
            by_cases g4 : 64 < f.nL
            · have tg4 : decide ((64 : Int) < (f.nL : Int)) = true := by simp; omega
              have ug4 : decide (64 < f.nL) = true := by simp; omega
              have HC : Hid (Sc.chk s = 2) := Sc.chk_big HM.out (HBIG.out.2 (by omega))
              go_wp2_with fail
              go_ret
              exact ⟨by rw [HC.out]; rfl, hbt⟩
            · have tg4 : decide ((64 : Int) < (f.nL : Int)) = false := by simp; omega
              have ug4 : decide (64 < f.nL) = false := by simp; omega
              have HC : Hid (Sc.chk s = 0) := Sc.chk_good HM.out (fun hq => by have := HBIG.out.1 hq; omega)
              go_wp2_with fail
              go_ret
              exact ⟨by rw [HC.out]; rfl, hbt⟩

set_option maxRecDepth 100000 in
set_option maxHeartbeats 4000000 in
theorem rCheck4_any (f : Sc.Five) (s : Sc.Sch) (A : Option Addr) (n c : Nat) (ps : List Pl) (w : World) (h : Sc.RdSch w w.heap.size f s) (hp : RdP w w.heap.size A n c ps) (hz : f.nS ≤ 80 ∧ f.nR ≤ 80 ∧ f.nP ≤ 80 ∧ f.nG ≤ 80 ∧ f.nL ≤ 80) :
    Calls Tryz.prog 9 #[.agg f.vals, .agg #[.slice A n c]] w fun e w' => e = .returned (.int .i64 (Wk.wchk s ps)) ∧ Below w.heap.size w w' := by
  have q1 := hp.max
  have q2 := hp.le
  have HN := Lib.hid hp.len
  have HLN := Lib.hid h.lens
  have mS : f.nS ≤ f.cS ∧ f.cS ≤ 9223372036854775807 := ⟨h.slots.le, h.slots.max⟩
  have mR : f.nR ≤ f.cR ∧ f.cR ≤ 9223372036854775807 := ⟨h.rooms.le, h.rooms.max⟩
  have mL : f.nL ≤ f.cL ∧ f.cL ≤ 9223372036854775807 := ⟨h.lessons.le, h.lessons.max⟩
  have hbt := Below.refl w.heap.size w
  have hp0 := hp
  obtain ⟨V1, hV⟩ : ∃ V1, V1 = w.alloc (.cells #[.slice f.aS f.nS f.cS, .slice f.aR f.nR f.cR, .slice f.aP f.nP f.cP, .slice f.aG f.nG f.cG, .slice f.aL f.nL f.cL] 28) := ⟨_, rfl⟩
  have b0 := blk_new hV
  have hb := below_new hV
  replace h := (h.below hb).more hb.size
  replace hp := (hp.below hb).more hb.size
  replace hbt := hbt.trans (hb.mono hbt.size)
  clear hb
  have HSV1 : Hid (V1.heap.size = w.heap.size + 1) := by show V1.heap.size = _; rw [hV, World.size_alloc]
  have HVV1 := Lib.hid hV.symm
  clear hV
  obtain ⟨V2, hV⟩ : ∃ V2, V2 = V1.alloc (.cells #[.slice A n c] 31) := ⟨_, rfl⟩
  have b1 := blk_new hV
  have hb := below_new hV
  replace h := (h.below hb).more hb.size
  replace hp := (hp.below hb).more hb.size
  replace b0 := blk_below b0 hb
  replace hbt := hbt.trans (hb.mono hbt.size)
  clear hb
  have HSV2 : Hid (V2.heap.size = V1.heap.size + 1) := by show V2.heap.size = _; rw [hV, World.size_alloc]
  have HVV2 := Lib.hid hV.symm
  clear hV
  rw [HSV1.out] at b1
  rw [← HVV1.out] at HVV2
  unfold Sc.Five.vals
  have c0 := blk_cell (j := 0) b0
  simp only [List.getElem?_toArray, List.getElem?_cons_zero, List.getElem?_cons_succ] at c0
  have c1 := blk_cell (j := 1) b0
  simp only [List.getElem?_toArray, List.getElem?_cons_zero, List.getElem?_cons_succ] at c1
  have c2 := blk_cell (j := 2) b0
  simp only [List.getElem?_toArray, List.getElem?_cons_zero, List.getElem?_cons_succ] at c2
  have c3 := blk_cell (j := 3) b0
  simp only [List.getElem?_toArray, List.getElem?_cons_zero, List.getElem?_cons_succ] at c3
  have c4 := blk_cell (j := 4) b0
  simp only [List.getElem?_toArray, List.getElem?_cons_zero, List.getElem?_cons_succ] at c4
  rw [← HVV2.out] at c0 c1 c2 c3 c4
  go_enter Tryz.func9, Tryz.ntmps9
  go_wp2_with fail
  rw [HVV2.out]
  clear HVV2 HVV1 HSV1 HSV2 c0 c1 c2 c3 c4
  refine (rCheck3_any f s V2 h hz).mono ?_
  rintro e w3 ⟨rfl, hb⟩
  replace h := (h.below hb).more hb.size
  replace hp := (hp.below hb).more hb.size
  replace b0 := blk_below b0 hb
  replace b1 := blk_below b1 hb
  replace hbt := hbt.trans (hb.mono hbt.size)
  clear hb
  by_cases hE : Sc.chk s ≠ 0
  · have HC := Lib.hid (Wk.wchk_err (ps := ps) hE)
    generalize Sc.chk s = er at *
    have dE : (er != 0) = true := by simp; omega
    go_wp2_with fail
    go_ret
    exact ⟨by rw [HC.out]; rfl, hbt⟩
  · have hE : Sc.chk s = 0 := Classical.not_not.1 hE
    have HE := Lib.hid hE
    rw [hE]
    clear hE
    have c0 := blk_cell (j := 0) b0
    simp only [List.getElem?_toArray, List.getElem?_cons_zero, List.getElem?_cons_succ] at c0
    have c1 := blk_cell (j := 1) b0
    simp only [List.getElem?_toArray, List.getElem?_cons_zero, List.getElem?_cons_succ] at c1
    have c2 := blk_cell (j := 2) b0
    simp only [List.getElem?_toArray, List.getElem?_cons_zero, List.getElem?_cons_succ] at c2
    have c3 := blk_cell (j := 3) b0
    simp only [List.getElem?_toArray, List.getElem?_cons_zero, List.getElem?_cons_succ] at c3
    have c4 := blk_cell (j := 4) b0
    simp only [List.getElem?_toArray, List.getElem?_cons_zero, List.getElem?_cons_succ] at c4
    have d0 := blk_cell (j := 0) b1
    simp only [List.getElem?_toArray, List.getElem?_cons_zero, List.getElem?_cons_succ] at d0
    by_cases hnl : ¬ n = f.nL
    · have dN : ((n : Int) != (f.nL : Int)) = true := by simp; omega
      have HC := Lib.hid (Wk.wchk_bad HE.out (fun hk : Wk.wkOk s ps => hnl (by have := hk.1; rw [HN.out, HLN.out.2.2.2.2] at this; exact this)))
      clear hnl
      go_wp2_with fail
      go_ret
      exact ⟨by rw [HC.out]; rfl, hbt⟩
    · have dN : ((n : Int) != (f.nL : Int)) = false := by simp; omega
      have HNL : Hid (n = f.nL) := Classical.not_not.1 hnl
      clear hnl
      go_wp2_with fail
      clear c0 c1 c2 c3 c4 d0 dN
      clear hp h
      go_loopw [6] (fun iv wr => ∃ j : Nat, j ≤ n ∧ iv = .int .i64 j ∧ (∀ x ∈ ps.take j, Wk.placed s.slots.length s.rooms.length x) ∧ wr.heap[w.heap.size]? = some (.cells #[.slice f.aS f.nS f.cS, .slice f.aR f.nR f.cR, .slice f.aP f.nP f.cP, .slice f.aG f.nG f.cG, .slice f.aL f.nL f.cL] 28) ∧ wr.heap[w.heap.size + 1]? = some (.cells #[.slice A n c] 31) ∧ Below w.heap.size w wr) (fun iv _ => n - (intOf iv).toNat)
      case atStart => exact ⟨0, by omega, rfl, by simp, b0, b1, hbt⟩
      case round =>
        clear b0 b1 hbt
        obtain ⟨j, hj, rfl, hall, b0, b1, hbt⟩ := hrel
        have HA := Lib.hid hall
        clear hall
        have d0 := blk_cell (j := 0) b1
        simp only [List.getElem?_toArray, List.getElem?_cons_zero, List.getElem?_cons_succ] at d0
        by_cases hjn : j < n
        · have hjl : j < ps.length := by rw [HN.out]; exact hjn
          obtain ⟨ad, rfl, hab, x0, x1, _, _⟩ := (hp0.below hbt).at_ hjn hjl
          have d1 : decide ((j : Int) < (n : Int)) = true := by simp; omega
          have d2 : decide (j < n) = true := by simp; omega
          have HB : Hid (¬ Wk.placed s.slots.length s.rooms.length ps[j] → Wk.wchk s ps = 40) := fun hn => Wk.wchk_bad HE.out (fun hk => hn (hk.2 _ (List.getElem_mem hjl)))
          have HG : Hid (Wk.placed s.slots.length s.rooms.length ps[j] → ∀ x ∈ ps.take (j + 1), Wk.placed s.slots.length s.rooms.length x) := fun hq => all_snoc hjl HA.out hq
          clear HA
          generalize ps[j] = p at *
          obtain ⟨sl, ro⟩ := p
          dsimp only at *
          rw [HLN.out.1, HLN.out.2.1] at HB HG
          unfold Wk.placed Wk.idx at HB
          have HG : Hid ((0 ≤ sl ∧ sl < (f.nS : Int)) ∧ (0 ≤ ro ∧ ro < (f.nR : Int)) → ∀ x ∈ ps.take (j + 1), Wk.placed f.nS f.nR x) := HG
          dsimp only at HB
          obtain ⟨V6, hV⟩ : ∃ V6, V6 = wr.alloc (.cells #[.int .i64 sl, .int .i64 ro] 62) := ⟨_, rfl⟩
          have b6 := blk_new hV
          have hb := below_new hV
          have HV6 := Lib.hid hV.symm
          clear hV
          replace b0 := blk_below b0 hb
          replace b1 := blk_below b1 hb
          replace hbt := hbt.trans (hb.mono hbt.size)
          clear hb
          have e0 := blk_cell (j := 0) b6
          simp only [List.getElem?_toArray, List.getElem?_cons_zero, List.getElem?_cons_succ] at e0
          have e1 := blk_cell (j := 1) b6
          simp only [List.getElem?_toArray, List.getElem?_cons_zero, List.getElem?_cons_succ] at e1
          have k0 := blk_cell (j := 0) b0
          simp only [List.getElem?_toArray, List.getElem?_cons_zero, List.getElem?_cons_succ] at k0
          have k1 := blk_cell (j := 1) b0
          simp only [List.getElem?_toArray, List.getElem?_cons_zero, List.getElem?_cons_succ] at k1
          have l0 := blk_cell (j := 0) b1
          simp only [List.getElem?_toArray, List.getElem?_cons_zero, List.getElem?_cons_succ] at l0
          rw [← HV6.out] at e0 e1 k0 k1 l0
          by_cases t1 : 0 ≤ sl
          · have v0 : decide (sl < 0) = false := by simp; omega
            by_cases t2 : sl < (f.nS : Int)
            · have v1 : decide ((f.nS : Int) ≤ sl) = false := by simp; omega
              by_cases t3 : 0 ≤ ro
              · have v2 : decide (ro < 0) = false := by simp; omega
                by_cases t4 : ro < (f.nR : Int)
                · have v3 : decide ((f.nR : Int) ≤ ro) = false := by simp; omega
                  have HO := Lib.hid (HG.out ⟨⟨t1, t2⟩, ⟨t3, t4⟩⟩)
                  rw [← HLN.out.1, ← HLN.out.2.1] at HO
                  clear HB HG
                  go_wp2_with fail
                  rw [HV6.out]
                  go_roundw
                  case rel => exact ⟨j + 1, by omega, by go_num, HO.out, b0, b1, hbt⟩
                  case measure => simp [intOf]; omega
                · have v3 : decide ((f.nR : Int) ≤ ro) = true := by simp; omega
                  have HC := Lib.hid (HB.out (by omega))
                  clear HB HG
                  go_wp2_with fail
                  rw [HV6.out]
                  go_ret
                  exact ⟨by rw [HC.out]; rfl, hbt⟩
              · have v2 : decide (ro < 0) = true := by simp; omega
                have HC := Lib.hid (HB.out (by omega))
                clear HB HG
                go_wp2_with fail
                rw [HV6.out]
                go_ret
                exact ⟨by rw [HC.out]; rfl, hbt⟩
            · have v1 : decide ((f.nS : Int) ≤ sl) = true := by simp; omega
              have HC := Lib.hid (HB.out (by omega))
              clear HB HG
              go_wp2_with fail
              rw [HV6.out]
              go_ret
              exact ⟨by rw [HC.out]; rfl, hbt⟩
          · have v0 : decide (sl < 0) = true := by simp; omega
            have HC := Lib.hid (HB.out (by omega))
            clear HB HG
            go_wp2_with fail
            rw [HV6.out]
            go_ret
            exact ⟨by rw [HC.out]; rfl, hbt⟩
        · obtain rfl : j = n := by omega
          have d1 : decide ((j : Int) < (j : Int)) = false := by simp
          have HC := Lib.hid (Wk.wchk_ok HE.out (⟨by rw [HN.out, HLN.out.2.2.2.2]; exact HNL.out, all_done HA.out (by rw [HN.out]; omega)⟩ : Wk.wkOk s ps))
          clear HA
          go_wp2_with fail
          go_ret
          exact ⟨by rw [HC.out]; rfl, hbt⟩

set_option maxRecDepth 100000 in
set_option maxHeartbeats 4000000 in
theorem rVars4_any (f : Sc.Five) (w : World) (mS : f.nS ≤ f.cS ∧ f.cS ≤ 9223372036854775807) (mR : f.nR ≤ f.cR ∧ f.cR ≤ 9223372036854775807) (mL : f.nL ≤ f.cL ∧ f.cL ≤ 9223372036854775807) (hs : f.nS ≤ 1000 ∧ f.nR ≤ 1000 ∧ f.nL ≤ 1000) :
    Calls Tryz.prog 11 #[.agg f.vals] w fun e w' => e = .returned (.int .i64 ((f.nL * (f.nS + f.nR) : Nat) : Int)) ∧ Below w.heap.size w w' := by
  obtain ⟨V1, hV⟩ : ∃ V1, V1 = w.alloc (.cells #[.slice f.aS f.nS f.cS, .slice f.aR f.nR f.cR, .slice f.aP f.nP f.cP, .slice f.aG f.nG f.cG, .slice f.aL f.nL f.cL] 28) := ⟨_, rfl⟩
  have b0 := blk_new hV
  have hb := below_new hV
  have HV := Lib.hid hV.symm
  clear hV
  unfold Sc.Five.vals
  have q1 : ((f.nL : Nat) : Int) * ((f.nS : Nat) : Int) ≤ 1000000 := by have := Nat.mul_le_mul (show f.nL ≤ 1000 by omega) (show f.nS ≤ 1000 by omega); have := Int.ofNat_le.2 this; simpa using this
  have q1p : 0 ≤ ((f.nL : Nat) : Int) * ((f.nS : Nat) : Int) := Int.mul_nonneg (by omega) (by omega)
  have q2 : ((f.nL : Nat) : Int) * ((f.nR : Nat) : Int) ≤ 1000000 := by have := Nat.mul_le_mul (show f.nL ≤ 1000 by omega) (show f.nR ≤ 1000 by omega); have := Int.ofNat_le.2 this; simpa using this
  have q2p : 0 ≤ ((f.nL : Nat) : Int) * ((f.nR : Nat) : Int) := Int.mul_nonneg (by omega) (by omega)
  have c0 := blk_cell (j := 0) b0
  simp only [List.getElem?_toArray, List.getElem?_cons_zero, List.getElem?_cons_succ] at c0
  have c1 := blk_cell (j := 1) b0
  simp only [List.getElem?_toArray, List.getElem?_cons_zero, List.getElem?_cons_succ] at c1
  have c2 := blk_cell (j := 2) b0
  simp only [List.getElem?_toArray, List.getElem?_cons_zero, List.getElem?_cons_succ] at c2
  have c3 := blk_cell (j := 3) b0
  simp only [List.getElem?_toArray, List.getElem?_cons_zero, List.getElem?_cons_succ] at c3
  have c4 := blk_cell (j := 4) b0
  simp only [List.getElem?_toArray, List.getElem?_cons_zero, List.getElem?_cons_succ] at c4
  rw [← HV.out] at c0 c1 c4
  go_enter Tryz.func11, Tryz.ntmps11
  go_wp2_with fail
  rw [HV.out]
  go_ret
  exact ⟨ret_int (by rw [Nat.mul_add]; simp), hb⟩

set_option maxRecDepth 100000 in
set_option maxHeartbeats 4000000 in
theorem rAt4_any (f : Sc.Five) (l x : Int) (w : World) (mS : f.nS ≤ f.cS ∧ f.cS ≤ 9223372036854775807) (mR : f.nR ≤ f.cR ∧ f.cR ≤ 9223372036854775807) (mL : f.nL ≤ f.cL ∧ f.cL ≤ 9223372036854775807) (hs : f.nS ≤ 1000 ∧ f.nR ≤ 1000 ∧ f.nL ≤ 1000) :
    Calls Tryz.prog 13 #[.agg f.vals, .int .i64 l, .int .i64 x] w fun e w' => e = .returned (.int .i64 (Wk.atI f.nL f.nS l x)) ∧ Below w.heap.size w w' := by
  obtain ⟨V1, hV⟩ : ∃ V1, V1 = w.alloc (.cells #[.slice f.aS f.nS f.cS, .slice f.aR f.nR f.cR, .slice f.aP f.nP f.cP, .slice f.aG f.nG f.cG, .slice f.aL f.nL f.cL] 28) := ⟨_, rfl⟩
  have b0 := blk_new hV
  have hb := below_new hV
  have HV := Lib.hid hV.symm
  clear hV
  unfold Sc.Five.vals
  have c0 := blk_cell (j := 0) b0
  simp only [List.getElem?_toArray, List.getElem?_cons_zero, List.getElem?_cons_succ] at c0
  have c1 := blk_cell (j := 1) b0
  simp only [List.getElem?_toArray, List.getElem?_cons_zero, List.getElem?_cons_succ] at c1
  have c2 := blk_cell (j := 2) b0
  simp only [List.getElem?_toArray, List.getElem?_cons_zero, List.getElem?_cons_succ] at c2
  have c3 := blk_cell (j := 3) b0
  simp only [List.getElem?_toArray, List.getElem?_cons_zero, List.getElem?_cons_succ] at c3
  have c4 := blk_cell (j := 4) b0
  simp only [List.getElem?_toArray, List.getElem?_cons_zero, List.getElem?_cons_succ] at c4
  rw [← HV.out] at c0 c1 c4
  by_cases t1 : 0 ≤ l
  · have v0 : decide (l < 0) = false := by simp; omega
    by_cases t2 : l < (f.nL : Int)
    · have v1 : decide ((f.nL : Int) ≤ l) = false := by simp; omega
      by_cases t3 : 0 ≤ x
      · have v2 : decide (x < 0) = false := by simp; omega
        by_cases t4 : x < (f.nS : Int)
        · have v3 : decide ((f.nS : Int) ≤ x) = false := by simp; omega
          have HC : Hid ((Wk.atI f.nL f.nS l x) = l * (f.nS : Int) + x + 1) := if_pos ⟨⟨t1, t2⟩, ⟨t3, t4⟩⟩
          obtain ⟨L, hL⟩ : ∃ L : Nat, l = (L : Int) := ⟨l.toNat, by omega⟩
          obtain ⟨X, hX⟩ : ∃ X : Nat, x = (X : Int) := ⟨x.toNat, by omega⟩
          subst hL hX
          have q1 : ((L : Nat) : Int) * ((f.nS : Nat) : Int) ≤ 1000000 := by have := Nat.mul_le_mul (show L ≤ 1000 by omega) (show f.nS ≤ 1000 by omega); have := Int.ofNat_le.2 this; simpa using this
          have q1p : 0 ≤ ((L : Nat) : Int) * ((f.nS : Nat) : Int) := Int.mul_nonneg (by omega) (by omega)
          go_enter Tryz.func13, Tryz.ntmps13
          go_wp2_with fail
          rw [HV.out]
          go_ret
          exact ⟨ret_int (by rw [HC.out]; omega), hb⟩
        · have v3 : decide ((f.nS : Int) ≤ x) = true := by simp; omega
          have HC : Hid ((Wk.atI f.nL f.nS l x) = 0) := if_neg (fun hh => by have h1 := hh.1.1; have h2 := hh.1.2; have h3 := hh.2.1; have h4 := hh.2.2; omega)
          go_enter Tryz.func13, Tryz.ntmps13
          go_wp2_with fail
          rw [HV.out]
          go_ret
          exact ⟨by rw [HC.out]; rfl, hb⟩
      · have v2 : decide (x < 0) = true := by simp; omega
        have HC : Hid ((Wk.atI f.nL f.nS l x) = 0) := if_neg (fun hh => by have h1 := hh.1.1; have h2 := hh.1.2; have h3 := hh.2.1; have h4 := hh.2.2; omega)
        go_enter Tryz.func13, Tryz.ntmps13
        go_wp2_with fail
        rw [HV.out]
        go_ret
        exact ⟨by rw [HC.out]; rfl, hb⟩
    · have v1 : decide ((f.nL : Int) ≤ l) = true := by simp; omega
      have HC : Hid ((Wk.atI f.nL f.nS l x) = 0) := if_neg (fun hh => by have h1 := hh.1.1; have h2 := hh.1.2; have h3 := hh.2.1; have h4 := hh.2.2; omega)
      go_enter Tryz.func13, Tryz.ntmps13
      go_wp2_with fail
      rw [HV.out]
      go_ret
      exact ⟨by rw [HC.out]; rfl, hb⟩
  · have v0 : decide (l < 0) = true := by simp; omega
    have HC : Hid ((Wk.atI f.nL f.nS l x) = 0) := if_neg (fun hh => by have h1 := hh.1.1; have h2 := hh.1.2; have h3 := hh.2.1; have h4 := hh.2.2; omega)
    go_enter Tryz.func13, Tryz.ntmps13
    go_wp2_with fail
    rw [HV.out]
    go_ret
    exact ⟨by rw [HC.out]; rfl, hb⟩

set_option maxRecDepth 100000 in
set_option maxHeartbeats 4000000 in
theorem rIn4_any (f : Sc.Five) (l x : Int) (w : World) (mS : f.nS ≤ f.cS ∧ f.cS ≤ 9223372036854775807) (mR : f.nR ≤ f.cR ∧ f.cR ≤ 9223372036854775807) (mL : f.nL ≤ f.cL ∧ f.cL ≤ 9223372036854775807) (hs : f.nS ≤ 1000 ∧ f.nR ≤ 1000 ∧ f.nL ≤ 1000) :
    Calls Tryz.prog 15 #[.agg f.vals, .int .i64 l, .int .i64 x] w fun e w' => e = .returned (.int .i64 (Wk.inI f.nL f.nS f.nR l x)) ∧ Below w.heap.size w w' := by
  obtain ⟨V1, hV⟩ : ∃ V1, V1 = w.alloc (.cells #[.slice f.aS f.nS f.cS, .slice f.aR f.nR f.cR, .slice f.aP f.nP f.cP, .slice f.aG f.nG f.cG, .slice f.aL f.nL f.cL] 28) := ⟨_, rfl⟩
  have b0 := blk_new hV
  have hb := below_new hV
  have HV := Lib.hid hV.symm
  clear hV
  unfold Sc.Five.vals
  have c0 := blk_cell (j := 0) b0
  simp only [List.getElem?_toArray, List.getElem?_cons_zero, List.getElem?_cons_succ] at c0
  have c1 := blk_cell (j := 1) b0
  simp only [List.getElem?_toArray, List.getElem?_cons_zero, List.getElem?_cons_succ] at c1
  have c2 := blk_cell (j := 2) b0
  simp only [List.getElem?_toArray, List.getElem?_cons_zero, List.getElem?_cons_succ] at c2
  have c3 := blk_cell (j := 3) b0
  simp only [List.getElem?_toArray, List.getElem?_cons_zero, List.getElem?_cons_succ] at c3
  have c4 := blk_cell (j := 4) b0
  simp only [List.getElem?_toArray, List.getElem?_cons_zero, List.getElem?_cons_succ] at c4
  rw [← HV.out] at c0 c1 c4
  by_cases t1 : 0 ≤ l
  · have v0 : decide (l < 0) = false := by simp; omega
    by_cases t2 : l < (f.nL : Int)
    · have v1 : decide ((f.nL : Int) ≤ l) = false := by simp; omega
      by_cases t3 : 0 ≤ x
      · have v2 : decide (x < 0) = false := by simp; omega
        by_cases t4 : x < (f.nR : Int)
        · have v3 : decide ((f.nR : Int) ≤ x) = false := by simp; omega
          have HC : Hid ((Wk.inI f.nL f.nS f.nR l x) = (f.nL : Int) * (f.nS : Int) + l * (f.nR : Int) + x + 1) := if_pos ⟨⟨t1, t2⟩, ⟨t3, t4⟩⟩
          obtain ⟨L, hL⟩ : ∃ L : Nat, l = (L : Int) := ⟨l.toNat, by omega⟩
          obtain ⟨X, hX⟩ : ∃ X : Nat, x = (X : Int) := ⟨x.toNat, by omega⟩
          subst hL hX
          have q1 : ((L : Nat) : Int) * ((f.nR : Nat) : Int) ≤ 1000000 := by have := Nat.mul_le_mul (show L ≤ 1000 by omega) (show f.nR ≤ 1000 by omega); have := Int.ofNat_le.2 this; simpa using this
          have q1p : 0 ≤ ((L : Nat) : Int) * ((f.nR : Nat) : Int) := Int.mul_nonneg (by omega) (by omega)
          have q3 : ((f.nL : Nat) : Int) * ((f.nS : Nat) : Int) ≤ 1000000 := by have := Nat.mul_le_mul (show f.nL ≤ 1000 by omega) (show f.nS ≤ 1000 by omega); have := Int.ofNat_le.2 this; simpa using this
          have q3p : 0 ≤ ((f.nL : Nat) : Int) * ((f.nS : Nat) : Int) := Int.mul_nonneg (by omega) (by omega)
          go_enter Tryz.func15, Tryz.ntmps15
          go_wp2_with fail
          rw [HV.out]
          go_ret
          exact ⟨ret_int (by rw [HC.out]; omega), hb⟩
        · have v3 : decide ((f.nR : Int) ≤ x) = true := by simp; omega
          have HC : Hid ((Wk.inI f.nL f.nS f.nR l x) = 0) := if_neg (fun hh => by have h1 := hh.1.1; have h2 := hh.1.2; have h3 := hh.2.1; have h4 := hh.2.2; omega)
          go_enter Tryz.func15, Tryz.ntmps15
          go_wp2_with fail
          rw [HV.out]
          go_ret
          exact ⟨by rw [HC.out]; rfl, hb⟩
      · have v2 : decide (x < 0) = true := by simp; omega
        have HC : Hid ((Wk.inI f.nL f.nS f.nR l x) = 0) := if_neg (fun hh => by have h1 := hh.1.1; have h2 := hh.1.2; have h3 := hh.2.1; have h4 := hh.2.2; omega)
        go_enter Tryz.func15, Tryz.ntmps15
        go_wp2_with fail
        rw [HV.out]
        go_ret
        exact ⟨by rw [HC.out]; rfl, hb⟩
    · have v1 : decide ((f.nL : Int) ≤ l) = true := by simp; omega
      have HC : Hid ((Wk.inI f.nL f.nS f.nR l x) = 0) := if_neg (fun hh => by have h1 := hh.1.1; have h2 := hh.1.2; have h3 := hh.2.1; have h4 := hh.2.2; omega)
      go_enter Tryz.func15, Tryz.ntmps15
      go_wp2_with fail
      rw [HV.out]
      go_ret
      exact ⟨by rw [HC.out]; rfl, hb⟩
  · have v0 : decide (l < 0) = true := by simp; omega
    have HC : Hid ((Wk.inI f.nL f.nS f.nR l x) = 0) := if_neg (fun hh => by have h1 := hh.1.1; have h2 := hh.1.2; have h3 := hh.2.1; have h4 := hh.2.2; omega)
    go_enter Tryz.func15, Tryz.ntmps15
    go_wp2_with fail
    rw [HV.out]
    go_ret
    exact ⟨by rw [HC.out]; rfl, hb⟩

end Go.Proofs.YtojbjaklngdlcaaGreatDoor
