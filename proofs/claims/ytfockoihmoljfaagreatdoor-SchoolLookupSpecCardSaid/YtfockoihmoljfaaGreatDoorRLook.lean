/-
  The walks of the reference's Count, Name and Find.
-/
import Derived.Test.YtfockoihmoljfaaGreatDoorLotS
import Derived.Test.YtfockoihmoljfaaGreatDoorLotR
import Derived.BigQuiet
namespace Go.Proofs.YtfockoihmoljfaaGreatDoor
open Go.RowKit Go.Shelf
set_option linter.unusedVariables false
set_option linter.unusedSimpArgs false

set_option maxRecDepth 100000 in
set_option maxHeartbeats 4000000 in
theorem rCount3_any (f : Sc.Five) (s : Sc.Sch) (k : Int) (w : World) (h : Sc.RdSch w w.heap.size f s) (hz : f.nS ≤ 5864062014805 ∧ f.nR ≤ 5864062014805 ∧ f.nP ≤ 5864062014805 ∧ f.nG ≤ 5864062014805 ∧ f.nL ≤ 5864062014805) :
    Calls Tryz.prog 17 #[.agg f.vals, .int .i64 k] w fun e w' => e = .returned (.int .i64 ((Sc.names s k).length : Nat)) ∧ Below w.heap.size w w' := by
  have hbt := Below.refl w.heap.size w
  have mS : f.nS ≤ f.cS ∧ f.cS ≤ 9223372036854775807 := ⟨h.slots.le, h.slots.max⟩
  have mR : f.nR ≤ f.cR ∧ f.cR ≤ 9223372036854775807 := ⟨h.rooms.le, h.rooms.max⟩
  have mP : f.nP ≤ f.cP ∧ f.cP ≤ 9223372036854775807 := ⟨h.people.le, h.people.max⟩
  have mG : f.nG ≤ f.cG ∧ f.cG ≤ 9223372036854775807 := ⟨h.groups.le, h.groups.max⟩
  have mL : f.nL ≤ f.cL ∧ f.cL ≤ 9223372036854775807 := ⟨h.lessons.le, h.lessons.max⟩
  obtain ⟨V1, hV⟩ : ∃ V1, V1 = w.alloc (.cells #[.slice f.aS f.nS f.cS, .slice f.aR f.nR f.cR, .slice f.aP f.nP f.cP, .slice f.aG f.nG f.cG, .slice f.aL f.nL f.cL] 28) := ⟨_, rfl⟩
  have b0 := blk_new hV
  have hb := below_new hV
  replace h := (h.below hb).more hb.size
  replace hbt := hbt.trans (hb.mono hbt.size)
  clear hb
  have HSV1 : Hid (V1.heap.size = w.heap.size + 1) := by show V1.heap.size = _; rw [hV, World.size_alloc]
  have HVV1 := Lib.hid hV.symm
  clear hV
  clear HSV1
  unfold Sc.Five.vals
  have c0 := blk_cell (j := 0) b0
  simp only [List.getElem?_toArray, List.getElem?_cons_zero, List.getElem?_cons_succ] at c0
  have c1 := blk_cell (j := 1) b0
  simp only [List.getElem?_toArray, List.getElem?_cons_zero, List.getElem?_cons_succ] at c1
  have c2 := blk_cell (j := 2) b0
  simp only [List.getElem?_toArray, List.getElem?_cons_zero, List.getElem?_cons_succ] at c2
  have c3 := blk_cell (j := 3) b0
  simp only [List.getElem?_toArray, List.getElem?_cons_zero, List.getElem?_cons_succ] at c3
  have c4 := blk_cell (j := 4) b0
  simp only [List.getElem?_toArray, List.getElem?_cons_zero, List.getElem?_cons_succ] at c4
  rw [← HVV1.out] at c0 c1 c2 c3 c4
  go_enter Tryz.func17, Tryz.ntmps17
  go_wp2_with fail
  rw [HVV1.out]
  clear HVV1 c0 c1 c2 c3 c4
  refine (rNames_any f s k V1 h hz).mono ?_
  rintro e w2 ⟨v2, rfl, hown, hb⟩
  replace hbt := hbt.trans (hb.mono hbt.size)
  obtain ⟨A2, c2, rfl, hT⟩ := own_rdT hown
  clear hown h hb b0
  obtain ⟨N, hN⟩ : ∃ N, N = (Sc.names s k).length := ⟨_, rfl⟩
  rw [← hN] at hT ⊢
  have HN := Lib.hid hN
  clear hN
  have t1 := hT.max
  have t2 := hT.le
  go_wp2_with fail
  go_ret
  exact ⟨by rw [← HN.out]; rfl, hbt⟩

set_option maxRecDepth 100000 in
set_option maxHeartbeats 4000000 in
theorem rName3_any (f : Sc.Five) (s : Sc.Sch) (k x : Int) (w : World) (h : Sc.RdSch w w.heap.size f s) (hz : f.nS ≤ 5864062014805 ∧ f.nR ≤ 5864062014805 ∧ f.nP ≤ 5864062014805 ∧ f.nG ≤ 5864062014805 ∧ f.nL ≤ 5864062014805) :
    Calls Tryz.prog 19 #[.agg f.vals, .int .i64 k, .int .i64 x] w fun e w' => e = .returned (.string (strOf (Sc.nameAt (Sc.names s k) x))) ∧ Below w.heap.size w w' := by
  have hbt := Below.refl w.heap.size w
  have mS : f.nS ≤ f.cS ∧ f.cS ≤ 9223372036854775807 := ⟨h.slots.le, h.slots.max⟩
  have mR : f.nR ≤ f.cR ∧ f.cR ≤ 9223372036854775807 := ⟨h.rooms.le, h.rooms.max⟩
  have mP : f.nP ≤ f.cP ∧ f.cP ≤ 9223372036854775807 := ⟨h.people.le, h.people.max⟩
  have mG : f.nG ≤ f.cG ∧ f.cG ≤ 9223372036854775807 := ⟨h.groups.le, h.groups.max⟩
  have mL : f.nL ≤ f.cL ∧ f.cL ≤ 9223372036854775807 := ⟨h.lessons.le, h.lessons.max⟩
  obtain ⟨V1, hV⟩ : ∃ V1, V1 = w.alloc (.cells #[.slice f.aS f.nS f.cS, .slice f.aR f.nR f.cR, .slice f.aP f.nP f.cP, .slice f.aG f.nG f.cG, .slice f.aL f.nL f.cL] 28) := ⟨_, rfl⟩
  have b0 := blk_new hV
  have hb := below_new hV
  replace h := (h.below hb).more hb.size
  replace hbt := hbt.trans (hb.mono hbt.size)
  clear hb
  have HSV1 : Hid (V1.heap.size = w.heap.size + 1) := by show V1.heap.size = _; rw [hV, World.size_alloc]
  have HVV1 := Lib.hid hV.symm
  clear hV
  clear HSV1
  unfold Sc.Five.vals
  have c0 := blk_cell (j := 0) b0
  simp only [List.getElem?_toArray, List.getElem?_cons_zero, List.getElem?_cons_succ] at c0
  have c1 := blk_cell (j := 1) b0
  simp only [List.getElem?_toArray, List.getElem?_cons_zero, List.getElem?_cons_succ] at c1
  have c2 := blk_cell (j := 2) b0
  simp only [List.getElem?_toArray, List.getElem?_cons_zero, List.getElem?_cons_succ] at c2
  have c3 := blk_cell (j := 3) b0
  simp only [List.getElem?_toArray, List.getElem?_cons_zero, List.getElem?_cons_succ] at c3
  have c4 := blk_cell (j := 4) b0
  simp only [List.getElem?_toArray, List.getElem?_cons_zero, List.getElem?_cons_succ] at c4
  rw [← HVV1.out] at c0 c1 c2 c3 c4
  go_enter Tryz.func19, Tryz.ntmps19
  go_wp2_with fail
  rw [HVV1.out]
  clear HVV1 c0 c1 c2 c3 c4
  refine (rNames_any f s k V1 h hz).mono ?_
  rintro e w2 ⟨v2, rfl, hown, hb⟩
  replace hbt := hbt.trans (hb.mono hbt.size)
  obtain ⟨A2, c2, rfl, hT⟩ := own_rdT hown
  clear hown h hb b0
  obtain ⟨N, hN⟩ : ∃ N, N = (Sc.names s k).length := ⟨_, rfl⟩
  rw [← hN] at hT ⊢
  have HN := Lib.hid hN
  clear hN
  have t1 := hT.max
  have t2 := hT.le
  by_cases hx : x < 0
  · have v0 : decide (x < 0) = true := by simp; omega
    have HC : Hid (Sc.nameAt (Sc.names s k) x = []) := Sc.nameAt_no (by rw [← HN.out]; omega)
    go_wp2_with fail
    go_ret
    exact ⟨by rw [HC.out]; rfl, hbt⟩
  · have v0 : decide (x < 0) = false := by simp; omega
    obtain ⟨j, rfl⟩ : ∃ j : Nat, x = j := ⟨x.toNat, by omega⟩
    by_cases hjN : N ≤ j
    · have v1 : decide ((N : Int) ≤ (j : Int)) = true := by simp; omega
      have HC : Hid (Sc.nameAt (Sc.names s k) (j : Int) = []) := Sc.nameAt_no (by rw [← HN.out]; omega)
      go_wp2_with fail
      go_ret
      exact ⟨by rw [HC.out]; rfl, hbt⟩
    · have v1 : decide ((N : Int) ≤ (j : Int)) = false := by simp; omega
      have hjl : j < (Sc.names s k).length := by rw [← HN.out]; omega
      obtain ⟨ad, rfl, hab, x0⟩ := hT.at_ (show j < N by omega) hjl
      have HC : Hid (Sc.nameAt (Sc.names s k) (j : Int) = (Sc.names s k)[j]) := Sc.nameAt_yes hjl
      generalize (Sc.names s k)[j] = nm at *
      have v2 : decide (j < N) = true := by simp; omega
      go_wp2_with fail
      go_ret
      exact ⟨by rw [HC.out]; rfl, hbt⟩

set_option maxRecDepth 100000 in
set_option maxHeartbeats 4000000 in
theorem rFind3_any (f : Sc.Five) (s : Sc.Sch) (k : Int) (nm : List UInt8) (w : World) (h : Sc.RdSch w w.heap.size f s) (hz : f.nS ≤ 5864062014805 ∧ f.nR ≤ 5864062014805 ∧ f.nP ≤ 5864062014805 ∧ f.nG ≤ 5864062014805 ∧ f.nL ≤ 5864062014805) :
    Calls Tryz.prog 13 #[.agg f.vals, .int .i64 k, .string (strOf nm)] w fun e w' => e = .returned (.tuple #[.int .i64 (Sc.findR (Sc.names s k) nm).1, .bool (Sc.findR (Sc.names s k) nm).2]) ∧ Below w.heap.size w w' := by
  have hbt := Below.refl w.heap.size w
  have mS : f.nS ≤ f.cS ∧ f.cS ≤ 9223372036854775807 := ⟨h.slots.le, h.slots.max⟩
  have mR : f.nR ≤ f.cR ∧ f.cR ≤ 9223372036854775807 := ⟨h.rooms.le, h.rooms.max⟩
  have mP : f.nP ≤ f.cP ∧ f.cP ≤ 9223372036854775807 := ⟨h.people.le, h.people.max⟩
  have mG : f.nG ≤ f.cG ∧ f.cG ≤ 9223372036854775807 := ⟨h.groups.le, h.groups.max⟩
  have mL : f.nL ≤ f.cL ∧ f.cL ≤ 9223372036854775807 := ⟨h.lessons.le, h.lessons.max⟩
  obtain ⟨V1, hV⟩ : ∃ V1, V1 = w.alloc (.cells #[.slice f.aS f.nS f.cS, .slice f.aR f.nR f.cR, .slice f.aP f.nP f.cP, .slice f.aG f.nG f.cG, .slice f.aL f.nL f.cL] 28) := ⟨_, rfl⟩
  have b0 := blk_new hV
  have hb := below_new hV
  replace h := (h.below hb).more hb.size
  replace hbt := hbt.trans (hb.mono hbt.size)
  clear hb
  have HSV1 : Hid (V1.heap.size = w.heap.size + 1) := by show V1.heap.size = _; rw [hV, World.size_alloc]
  have HVV1 := Lib.hid hV.symm
  clear hV
  clear HSV1
  unfold Sc.Five.vals
  have c0 := blk_cell (j := 0) b0
  simp only [List.getElem?_toArray, List.getElem?_cons_zero, List.getElem?_cons_succ] at c0
  have c1 := blk_cell (j := 1) b0
  simp only [List.getElem?_toArray, List.getElem?_cons_zero, List.getElem?_cons_succ] at c1
  have c2 := blk_cell (j := 2) b0
  simp only [List.getElem?_toArray, List.getElem?_cons_zero, List.getElem?_cons_succ] at c2
  have c3 := blk_cell (j := 3) b0
  simp only [List.getElem?_toArray, List.getElem?_cons_zero, List.getElem?_cons_succ] at c3
  have c4 := blk_cell (j := 4) b0
  simp only [List.getElem?_toArray, List.getElem?_cons_zero, List.getElem?_cons_succ] at c4
  rw [← HVV1.out] at c0 c1 c2 c3 c4
  go_enter Tryz.func13, Tryz.ntmps13
  go_wp2_with fail
  rw [HVV1.out]
  clear HVV1 c0 c1 c2 c3 c4
  refine (rNames_any f s k V1 h hz).mono ?_
  rintro e w2 ⟨v2, rfl, hown, hb⟩
  replace hbt := hbt.trans (hb.mono hbt.size)
  obtain ⟨A2, c2, rfl, hT⟩ := own_rdT hown
  clear hown h hb b0
  obtain ⟨N, hN⟩ : ∃ N, N = (Sc.names s k).length := ⟨_, rfl⟩
  rw [← hN] at hT ⊢
  have HN := Lib.hid hN
  clear hN
  have t1 := hT.max
  have t2 := hT.le
  go_wp2_with fail
  go_loopw [9] (fun iv wr => ∃ j : Nat, j ≤ N ∧ iv = .int .i64 j ∧ (∀ y ∈ (Sc.names s k).take j, y ≠ nm) ∧ Below w2.heap.size w2 wr) (fun iv _ => N - (intOf iv).toNat)
  case atStart => exact ⟨0, by omega, rfl, by simp, Below.refl _ _⟩
  case round =>
    obtain ⟨j, hj, rfl, hall, hb2⟩ := hrel
    have HA := Lib.hid hall
    clear hall
    replace hbt := hbt.trans (hb2.mono hbt.size)
    replace hT := (hT.below hb2).more hb2.size
    by_cases hjN : j < N
    · have d1 : decide ((j : Int) < (N : Int)) = true := by simp; omega
      have d2 : decide (j < N) = true := by simp; omega
      have hjl : j < (Sc.names s k).length := by rw [← HN.out]; exact hjN
      obtain ⟨ad, rfl, hab, x0⟩ := hT.at_ hjN hjl
      clear hT
      have HY : Hid ((Sc.names s k)[j] = nm → Sc.findR (Sc.names s k) nm = ((j : Int), true)) := fun e => Sc.findR_yes hjl HA.out e
      have HG : Hid ((Sc.names s k)[j] ≠ nm → ∀ y ∈ (Sc.names s k).take (j + 1), y ≠ nm) := fun e y hy => by
        rw [List.take_succ_eq_append_getElem hjl] at hy
        rcases List.mem_append.1 hy with hy | hy
        · exact HA.out y hy
        · rw [List.mem_singleton] at hy; subst hy; exact e
      clear HA
      generalize (Sc.names s k)[j] = y at *
      have se := str_beq y nm
      by_cases hyn : y = nm
      · have HC := Lib.hid (HY.out hyn)
        clear HY HG
        have se2 : decide (y = nm) = true := decide_eq_true hyn
        rw [se2] at se
        clear hyn
        go_wp2_with fail
        go_ret2
        exact ⟨by rw [HC.out]; rfl, hbt⟩
      · have HC := Lib.hid (HG.out hyn)
        clear HY HG
        have se2 : decide (y = nm) = false := decide_eq_false hyn
        rw [se2] at se
        clear hyn
        go_wp2_with fail
        go_roundw
        case rel => exact ⟨j + 1, by omega, by go_num, HC.out, hb2⟩
        case measure => simp [intOf]; omega
    · obtain rfl : j = N := by omega
      have d1 : decide ((j : Int) < (j : Int)) = false := by simp
      have HC : Hid (Sc.findR (Sc.names s k) nm = (0, false)) := Sc.findR_no (all_done2 HA.out (by rw [← HN.out]; omega))
      clear HA
      go_wp2_with fail
      go_ret2
      exact ⟨by rw [HC.out]; rfl, hbt⟩

end Go.Proofs.YtfockoihmoljfaaGreatDoor
