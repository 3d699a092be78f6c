/-
  The walks of the laws' few, of FewAll and of ahead.
-/
import Derived.Test.YtcnldbhkppfmmaaDoorLawP4
import Derived.Deep.CutBlock
import Derived.Deep.DeepCutAuto
namespace Go.Proofs.YtcnldbhkppfmmaaDoor
open Go.RowKit Go.Shelf
set_option linter.unusedVariables false
set_option linter.unusedSimpArgs false

set_option maxRecDepth 100000 in
set_option maxHeartbeats 4000000 in
theorem few4_any (f : Sc.Five) (s : Sc.Sch) (A : Option Addr) (n c : Nat) (w : World) (hS : Sc.RdSch w w.heap.size f s) (hF : f.nS ≤ 5864062014805 ∧ f.nR ≤ 5864062014805 ∧ f.nP ≤ 5864062014805 ∧ f.nG ≤ 5864062014805 ∧ f.nL ≤ 5864062014805) (hn : n ≤ c ∧ c ≤ 9223372036854775807) :
    Calls Tryd.prog 20 #[.agg f.vals, .agg #[.slice A n c]] w (FewPost4 f n w) := by
  have hbt := Below.refl w.heap.size w
  have HF := Lib.hid hF
  clear hF
  have mS : f.nS ≤ f.cS ∧ f.cS ≤ 9223372036854775807 := ⟨hS.slots.le, hS.slots.max⟩
  have mR : f.nR ≤ f.cR ∧ f.cR ≤ 9223372036854775807 := ⟨hS.rooms.le, hS.rooms.max⟩
  have mP : f.nP ≤ f.cP ∧ f.cP ≤ 9223372036854775807 := ⟨hS.people.le, hS.people.max⟩
  have mG : f.nG ≤ f.cG ∧ f.cG ≤ 9223372036854775807 := ⟨hS.groups.le, hS.groups.max⟩
  have mL : f.nL ≤ f.cL ∧ f.cL ≤ 9223372036854775807 := ⟨hS.lessons.le, hS.lessons.max⟩
  obtain ⟨V1, hV⟩ : ∃ V1, V1 = w.alloc (.cells #[.slice f.aS f.nS f.cS, .slice f.aR f.nR f.cR, .slice f.aP f.nP f.cP, .slice f.aG f.nG f.cG, .slice f.aL f.nL f.cL] 45) := ⟨_, rfl⟩
  have b0 := blk_new hV
  have hb := below_new hV
  replace hS := (hS.below hb).more hb.size
  replace hbt := hbt.trans (hb.mono hbt.size)
  clear hb
  have HSV1 : Hid (V1.heap.size = w.heap.size + 1) := by show V1.heap.size = _; rw [hV, World.size_alloc]
  have HVV1 := Lib.hid hV.symm
  clear hV
  obtain ⟨V2, hV⟩ : ∃ V2, V2 = V1.alloc (.cells #[.slice A n c] 24) := ⟨_, rfl⟩
  have b1 := blk_new hV
  have hb := below_new hV
  replace hS := (hS.below hb).more hb.size
  replace b0 := blk_below b0 hb
  replace hbt := hbt.trans (hb.mono hbt.size)
  clear hb
  have HSV2 : Hid (V2.heap.size = V1.heap.size + 1) := by show V2.heap.size = _; rw [hV, World.size_alloc]
  have HVV2 := Lib.hid hV.symm
  clear hV
  rw [HSV1.out] at b1
  rw [← HVV1.out] at HVV2
  clear HSV1 HSV2
  unfold Sc.Five.vals
  have c0 := blk_cell (j := 0) b0
  simp only [List.getElem?_toArray, List.getElem?_cons_zero, List.getElem?_cons_succ] at c0
  have c1 := blk_cell (j := 1) b0
  simp only [List.getElem?_toArray, List.getElem?_cons_zero, List.getElem?_cons_succ] at c1
  have c2 := blk_cell (j := 2) b0
  simp only [List.getElem?_toArray, List.getElem?_cons_zero, List.getElem?_cons_succ] at c2
  have c3 := blk_cell (j := 3) b0
  simp only [List.getElem?_toArray, List.getElem?_cons_zero, List.getElem?_cons_succ] at c3
  have c4 := blk_cell (j := 4) b0
  simp only [List.getElem?_toArray, List.getElem?_cons_zero, List.getElem?_cons_succ] at c4
  rw [← HVV2.out] at c0 c1 c2 c3 c4
  go_enter Tryd.func20, Tryd.ntmps20
  go_wp2_with fail
  rw [HVV2.out]
  clear HVV1 HVV2 c0 c1 c2 c3 c4
  refine (rFew3_any f s V2 hS HF.out).mono ?_
  rintro e w3 ⟨bo, rfl, hbo, hb⟩
  replace hS := (hS.below hb).more hb.size
  replace b0 := blk_below b0 hb
  replace b1 := blk_below b1 hb
  replace hbt := hbt.trans (hb.mono hbt.size)
  clear hb
  have HB := Lib.hid hbo
  clear hbo
  cases bo with
  | false =>
    go_wp2_with fail
    go_ret
    exact ⟨_, rfl, (fun h => by cases h), hbt⟩
  | true =>
    have d0 := blk_cell (j := 0) b1
    simp only [List.getElem?_toArray, List.getElem?_cons_zero, List.getElem?_cons_succ] at d0
    go_wp2_with fail
    go_ret
    refine ⟨_, rfl, fun h => ⟨HB.out trivial, ?_⟩, hbt⟩
    simp at h
    omega

/-- How many places, as FewAll counts them. -/
def Wk.plc (S R : Nat) : Nat := max 1 (min 50 S * min 50 R)
theorem Wk.plc_le (S R : Nat) : Wk.plc S R ≤ 2500 ∧ 1 ≤ Wk.plc S R := by
  have : min 50 S * min 50 R ≤ 50 * 50 := Nat.mul_le_mul (Nat.min_le_left _ _) (Nat.min_le_left _ _)
  unfold Wk.plc
  omega
def FewAllPost (f : Sc.Five) (w : World) (e : Ending) (w' : World) : Prop := ∃ b, e = .returned (.bool b) ∧ (b = true → Wk.plc f.nS f.nR ^ f.nL ≤ 300 ∧ f.nL ≤ 20) ∧ Below w.heap.size w w'

set_option maxRecDepth 100000 in
set_option maxHeartbeats 4000000 in
theorem fewAll4_any (f : Sc.Five) (w : World) (mS : f.nS ≤ f.cS ∧ f.cS ≤ 9223372036854775807) (mR : f.nR ≤ f.cR ∧ f.cR ≤ 9223372036854775807) (mL : f.nL ≤ f.cL ∧ f.cL ≤ 9223372036854775807) :
    Calls Tryd.prog 25 #[.agg f.vals] w (FewAllPost f w) := by
  have hbt := Below.refl w.heap.size w
  obtain ⟨D, hD⟩ : ∃ D, D = Wk.plc f.nS f.nR := ⟨_, rfl⟩
  have hD1 := Wk.plc_le f.nS f.nR
  rw [← hD] at hD1
  obtain ⟨s, hs⟩ : ∃ s, s = min 50 f.nS := ⟨_, rfl⟩
  obtain ⟨r, hr⟩ : ∃ r, r = min 50 f.nR := ⟨_, rfl⟩
  have hs50 : s ≤ 50 := by omega
  have hr50 : r ≤ 50 := by omega
  have hsr : s * r ≤ 2500 := Nat.mul_le_mul hs50 hr50
  have hDsr : D = max 1 (s * r) := by rw [hD, hs, hr]; rfl
  have HD := Lib.hid hD
  clear hD
  obtain ⟨V1, hV⟩ : ∃ V1, V1 = w.alloc (.cells #[.slice f.aS f.nS f.cS, .slice f.aR f.nR f.cR, .slice f.aP f.nP f.cP, .slice f.aG f.nG f.cG, .slice f.aL f.nL f.cL] 45) := ⟨_, rfl⟩
  have b0 := blk_new hV
  have hb := below_new hV
  replace hbt := hbt.trans (hb.mono hbt.size)
  clear hb
  have HSV1 : Hid (V1.heap.size = w.heap.size + 1) := by show V1.heap.size = _; rw [hV, World.size_alloc]
  have HVV1 := Lib.hid hV.symm
  clear hV
  clear HSV1
  unfold Sc.Five.vals
  go_enter Tryd.func25, Tryd.ntmps25
  go_upto_block 0 with fail
  rw [HVV1.out]
  clear HVV1
  go_cut [3] (fun v wr => ∃ z : Nat, v = .int .i64 (z : Int) ∧ (z ≤ 300 → z = D ^ f.nL) ∧ wr = V1)
  case first =>
    go_wp2_with fail
    go_loopw [3, 4] (fun v iv wr => ∃ (j z : Nat), j ≤ f.nL ∧ iv = .int .i64 j ∧ v = .int .i64 (z : Int) ∧ z = D ^ j ∧ z ≤ 1000000 ∧ wr = V1) (fun _ iv _ => f.nL - (intOf iv).toNat)
    case atStart => exact ⟨0, 1, by omega, rfl, rfl, by simp, by omega, rfl⟩
    case round =>
      obtain ⟨j, z, hj, rfl, rfl, hz, hz2, rfl⟩ := hrel
      have HZ0 := Lib.hid hz
      clear hz
      have c0 := blk_cell (j := 0) b0
      simp only [List.getElem?_toArray, List.getElem?_cons_zero, List.getElem?_cons_succ] at c0
      have c1 := blk_cell (j := 1) b0
      simp only [List.getElem?_toArray, List.getElem?_cons_zero, List.getElem?_cons_succ] at c1
      have c4 := blk_cell (j := 4) b0
      simp only [List.getElem?_toArray, List.getElem?_cons_zero, List.getElem?_cons_succ] at c4
      by_cases hjn : j < f.nL
      · have d1 : decide ((j : Int) < (f.nL : Int)) = true := by simp; omega
        by_cases h300 : z ≤ 300
        · have d2 : decide ((z : Int) ≤ 300) = true := by simp; omega
          have hzD : z * D ≤ 300 * 2500 := Nat.mul_le_mul h300 hD1.1
          have HZ : Hid (z * D = D ^ (j + 1)) := by show _ = _; rw [HZ0.out, Nat.pow_succ]
          have HV : Hid (wrap64 ((z : Int) * max 1 (wrap64 (min 50 (f.nS : Int) * min 50 (f.nR : Int)))) = ((z * D : Nat) : Int)) := by
            show _ = _
            rw [show min (50 : Int) (f.nS : Int) = (s : Int) by omega, show min (50 : Int) (f.nR : Int) = (r : Int) by omega, show (s : Int) * (r : Int) = ((s * r : Nat) : Int) by simp, show wrap64 ((s * r : Nat) : Int) = ((s * r : Nat) : Int) by generalize s * r = y at *; unfold wrap64; omega, show max 1 ((s * r : Nat) : Int) = (D : Int) by omega, show (z : Int) * (D : Int) = ((z * D : Nat) : Int) by simp]
            generalize z * D = y at *
            unfold wrap64
            omega
          clear hDsr hs hr hsr
          go_wp2_with fail
          go_roundw
          case rel => exact ⟨j + 1, z * D, by omega, by go_num, by rw [HV.out], HZ.out, by omega, trivial⟩
          case measure => simp [intOf]; omega
        · have d2 : decide ((z : Int) ≤ 300) = false := by simp; omega
          go_wp2_with fail
          go_meet
          exact ⟨z, rfl, fun h => absurd h h300, rfl⟩
      · obtain rfl : j = f.nL := by omega
        have d1 : decide ((f.nL : Int) < (f.nL : Int)) = false := by simp
        go_wp2_with fail
        go_meet
        exact ⟨z, rfl, fun _ => HZ0.out, rfl⟩
  case rest =>
    obtain ⟨z, rfl, hz, rfl⟩ := hcut
    have HZ := Lib.hid hz
    clear hz
    have c4 := blk_cell (j := 4) b0
    simp only [List.getElem?_toArray, List.getElem?_cons_zero, List.getElem?_cons_succ] at c4
    by_cases h300 : z ≤ 300
    · have d2 : decide ((z : Int) ≤ 300) = true := by simp; omega
      go_wp2_with fail
      go_ret
      refine ⟨_, rfl, fun h => ?_, hbt⟩
      simp at h
      have := HZ.out h300
      rw [← HD.out, ← this]
      omega
    · have d2 : decide ((z : Int) ≤ 300) = false := by simp; omega
      go_wp2_with fail
      go_ret
      exact ⟨_, rfl, (fun h => by cases h), hbt⟩

end Go.Proofs.YtcnldbhkppfmmaaDoor
