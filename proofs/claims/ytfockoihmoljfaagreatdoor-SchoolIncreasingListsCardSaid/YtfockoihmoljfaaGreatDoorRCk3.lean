/-
  The walk of the reference's Check of schools.
-/
import Derived.Test.YtfockoihmoljfaaGreatDoorRefM
namespace Go.Proofs.YtfockoihmoljfaaGreatDoor
open Go.RowKit Go.Shelf
set_option linter.unusedVariables false
set_option linter.unusedSimpArgs false

set_option maxRecDepth 100000 in
set_option maxHeartbeats 4000000 in
theorem rCheck3_any (f : Sc.Five) (s : Sc.Sch) (w : World) (h : Sc.RdSch w w.heap.size f s) (hb : f.nS ≤ 80 ∧ f.nR ≤ 80 ∧ f.nP ≤ 80 ∧ f.nG ≤ 80 ∧ f.nL ≤ 80) :
    Calls Tryz.prog 15 #[.agg f.vals] w fun e w' => e = .returned (.int .i64 (Sc.chk s)) ∧ Below w.heap.size w w' := by
  have HLN := Lib.hid (show s.slots.length = f.nS ∧ s.rooms.length = f.nR ∧ s.people.length = f.nP ∧ s.groups.length = f.nG ∧ s.lessons.length = f.nL from ⟨h.slots.len (by omega), h.rooms.len (by omega), h.people.len (by omega), h.groups.len (by omega), h.lessons.len (by omega)⟩)
  have hbt := Below.refl w.heap.size w
  have HBIG : Hid (Sc.Big s ↔ (50 < f.nS ∨ 32 < f.nR ∨ 64 < f.nP ∨ 64 < f.nG ∨ 64 < f.nL)) := by
    obtain ⟨l1, l2, l3, l4, l5⟩ := HLN.out
    show _ ↔ _
    unfold Sc.Big
    rw [l1, l2, l3, l4, l5]
  have mS : f.nS ≤ f.cS ∧ f.cS ≤ 9223372036854775807 := ⟨h.slots.le, h.slots.max⟩
  have mR : f.nR ≤ f.cR ∧ f.cR ≤ 9223372036854775807 := ⟨h.rooms.le, h.rooms.max⟩
  have mP : f.nP ≤ f.cP ∧ f.cP ≤ 9223372036854775807 := ⟨h.people.le, h.people.max⟩
  have mG : f.nG ≤ f.cG ∧ f.cG ≤ 9223372036854775807 := ⟨h.groups.le, h.groups.max⟩
  have mL : f.nL ≤ f.cL ∧ f.cL ≤ 9223372036854775807 := ⟨h.lessons.le, h.lessons.max⟩
  obtain ⟨V1, hV⟩ : ∃ V1, V1 = w.alloc (.cells #[.slice f.aS f.nS f.cS, .slice f.aR f.nR f.cR, .slice f.aP f.nP f.cP, .slice f.aG f.nG f.cG, .slice f.aL f.nL f.cL] 28) := ⟨_, rfl⟩
  have b0 := blk_new hV
  have hb := below_new hV
  replace h := (h.below hb).more hb.size
  replace hbt := hbt.trans (hb.mono hbt.size)
  clear hb
  have HSV1 : Hid (V1.heap.size = w.heap.size + 1) := by show V1.heap.size = _; rw [hV, World.size_alloc]
  have HVV1 := Lib.hid hV.symm
  clear hV
  clear HSV1
  unfold Sc.Five.vals
  have c0 := blk_cell (j := 0) b0
  simp only [List.getElem?_toArray, List.getElem?_cons_zero, List.getElem?_cons_succ] at c0
  have c1 := blk_cell (j := 1) b0
  simp only [List.getElem?_toArray, List.getElem?_cons_zero, List.getElem?_cons_succ] at c1
  have c2 := blk_cell (j := 2) b0
  simp only [List.getElem?_toArray, List.getElem?_cons_zero, List.getElem?_cons_succ] at c2
  have c3 := blk_cell (j := 3) b0
  simp only [List.getElem?_toArray, List.getElem?_cons_zero, List.getElem?_cons_succ] at c3
  have c4 := blk_cell (j := 4) b0
  simp only [List.getElem?_toArray, List.getElem?_cons_zero, List.getElem?_cons_succ] at c4
  rw [← HVV1.out] at c0 c1 c2 c3 c4
  go_enter Tryz.func15, Tryz.ntmps15
  go_wp2_with fail
  rw [HVV1.out]
  clear HVV1 c0 c1 c2 c3 c4
  refine (rMay_any f s V1 h hb).mono ?_
  rintro e w2 ⟨b, rfl, hiff, hb2⟩
  clear h
  replace b0 := blk_below b0 hb2
  replace hbt := hbt.trans (hb2.mono hbt.size)
  clear hb2
  have c0 := blk_cell (j := 0) b0
  simp only [List.getElem?_toArray, List.getElem?_cons_zero, List.getElem?_cons_succ] at c0
  have c1 := blk_cell (j := 1) b0
  simp only [List.getElem?_toArray, List.getElem?_cons_zero, List.getElem?_cons_succ] at c1
  have c2 := blk_cell (j := 2) b0
  simp only [List.getElem?_toArray, List.getElem?_cons_zero, List.getElem?_cons_succ] at c2
  have c3 := blk_cell (j := 3) b0
  simp only [List.getElem?_toArray, List.getElem?_cons_zero, List.getElem?_cons_succ] at c3
  have c4 := blk_cell (j := 4) b0
  simp only [List.getElem?_toArray, List.getElem?_cons_zero, List.getElem?_cons_succ] at c4
  cases b
  · have HC : Hid (Sc.chk s = 1) := Sc.chk_bad (fun hm => by have := hiff.2 hm; cases this)
    clear hiff
    go_wp2_with fail
    go_ret
    exact ⟨by rw [HC.out]; rfl, hbt⟩
  · have HM := Lib.hid (hiff.1 rfl)
    clear hiff
    by_cases g0 : 50 < f.nS
    · have tg0 : decide ((50 : Int) < (f.nS : Int)) = true := by simp; omega
      have ug0 : decide (50 < f.nS) = true := by simp; omega
      have HC : Hid (Sc.chk s = 2) := Sc.chk_big HM.out (HBIG.out.2 (by omega))
      go_wp2_with fail
      go_ret
      exact ⟨by rw [HC.out]; rfl, hbt⟩
    · have tg0 : decide ((50 : Int) < (f.nS : Int)) = false := by simp; omega
      have ug0 : decide (50 < f.nS) = false := by simp; omega
      by_cases g1 : 32 < f.nR
      · have tg1 : decide ((32 : Int) < (f.nR : Int)) = true := by simp; omega
        have ug1 : decide (32 < f.nR) = true := by simp; omega
        have HC : Hid (Sc.chk s = 2) := Sc.chk_big HM.out (HBIG.out.2 (by omega))
        go_wp2_with fail
        go_ret
        exact ⟨by rw [HC.out]; rfl, hbt⟩
      · have tg1 : decide ((32 : Int) < (f.nR : Int)) = false := by simp; omega
        have ug1 : decide (32 < f.nR) = false := by simp; omega
        by_cases g2 : 64 < f.nP
        · have tg2 : decide ((64 : Int) < (f.nP : Int)) = true := by simp; omega
          have ug2 : decide (64 < f.nP) = true := by simp; omega
          have HC : Hid (Sc.chk s = 2) := Sc.chk_big HM.out (HBIG.out.2 (by omega))
          go_wp2_with fail
          go_ret
          exact ⟨by rw [HC.out]; rfl, hbt⟩
        · have tg2 : decide ((64 : Int) < (f.nP : Int)) = false := by simp; omega
          have ug2 : decide (64 < f.nP) = false := by simp; omega
          by_cases g3 : 64 < f.nG
          · have tg3 : decide ((64 : Int) < (f.nG : Int)) = true := by simp; omega
            have ug3 : decide (64 < f.nG) = true := by simp; omega
            have HC : Hid (Sc.chk s = 2) := Sc.chk_big HM.out (HBIG.out.2 (by omega))
            go_wp2_with fail
            go_ret
            exact ⟨by rw [HC.out]; rfl, hbt⟩
          · have tg3 : decide ((64 : Int) < (f.nG : Int)) = false := by simp; omega
            have ug3 : decide (64 < f.nG) = false := by simp; omega
            by_cases g4 : 64 < f.nL
            · have tg4 : decide ((64 : Int) < (f.nL : Int)) = true := by simp; omega
              have ug4 : decide (64 < f.nL) = true := by simp; omega
              have HC : Hid (Sc.chk s = 2) := Sc.chk_big HM.out (HBIG.out.2 (by omega))
              go_wp2_with fail
              go_ret
              exact ⟨by rw [HC.out]; rfl, hbt⟩
            · have tg4 : decide ((64 : Int) < (f.nL : Int)) = false := by simp; omega
              have ug4 : decide (64 < f.nL) = false := by simp; omega
              have HC : Hid (Sc.chk s = 0) := Sc.chk_good HM.out (fun hq => by have := HBIG.out.1 hq; omega)
              go_wp2_with fail
              go_ret
              exact ⟨by rw [HC.out]; rfl, hbt⟩

end Go.Proofs.YtfockoihmoljfaaGreatDoor
