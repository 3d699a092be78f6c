/-
  The walks of the laws' few, of FewAll and of ahead.
-/
import Derived.Test.YtojbjaklngdlcaaGreatDoorLawP4
import Derived.Deep.CutBlock
import Derived.Deep.DeepCutAuto
namespace Go.Proofs.YtojbjaklngdlcaaGreatDoor
open Go.RowKit Go.Shelf
set_option linter.unusedVariables false
set_option linter.unusedSimpArgs false

set_option maxRecDepth 100000 in
set_option maxHeartbeats 4000000 in
theorem few4_any (f : Sc.Five) (s : Sc.Sch) (A : Option Addr) (n c : Nat) (w : World) (hS : Sc.RdSch w w.heap.size f s) (hF : f.nS ≤ 5864062014805 ∧ f.nR ≤ 5864062014805 ∧ f.nP ≤ 5864062014805 ∧ f.nG ≤ 5864062014805 ∧ f.nL ≤ 5864062014805) (hn : n ≤ c ∧ c ≤ 9223372036854775807) :
    Calls Tryz.prog 7 #[.agg f.vals, .agg #[.slice A n c]] w (FewPost4 f n w) := by
  have hbt := Below.refl w.heap.size w
  have HF := Lib.hid hF
  clear hF
  have mS : f.nS ≤ f.cS ∧ f.cS ≤ 9223372036854775807 := ⟨hS.slots.le, hS.slots.max⟩
  have mR : f.nR ≤ f.cR ∧ f.cR ≤ 9223372036854775807 := ⟨hS.rooms.le, hS.rooms.max⟩
  have mP : f.nP ≤ f.cP ∧ f.cP ≤ 9223372036854775807 := ⟨hS.people.le, hS.people.max⟩
  have mG : f.nG ≤ f.cG ∧ f.cG ≤ 9223372036854775807 := ⟨hS.groups.le, hS.groups.max⟩
  have mL : f.nL ≤ f.cL ∧ f.cL ≤ 9223372036854775807 := ⟨hS.lessons.le, hS.lessons.max⟩
  obtain ⟨V1, hV⟩ : ∃ V1, V1 = w.alloc (.cells #[.slice f.aS f.nS f.cS, .slice f.aR f.nR f.cR, .slice f.aP f.nP f.cP, .slice f.aG f.nG f.cG, .slice f.aL f.nL f.cL] 28) := ⟨_, rfl⟩
  have b0 := blk_new hV
  have hb := below_new hV
  replace hS := (hS.below hb).more hb.size
  replace hbt := hbt.trans (hb.mono hbt.size)
  clear hb
  have HSV1 : Hid (V1.heap.size = w.heap.size + 1) := by show V1.heap.size = _; rw [hV, World.size_alloc]
  have HVV1 := Lib.hid hV.symm
  clear hV
  obtain ⟨V2, hV⟩ : ∃ V2, V2 = V1.alloc (.cells #[.slice A n c] 31) := ⟨_, rfl⟩
  have b1 := blk_new hV
  have hb := below_new hV
  replace hS := (hS.below hb).more hb.size
  replace b0 := blk_below b0 hb
  replace hbt := hbt.trans (hb.mono hbt.size)
  clear hb
  have HSV2 : Hid (V2.heap.size = V1.heap.size + 1) := by show V2.heap.size = _; rw [hV, World.size_alloc]
  have HVV2 := Lib.hid hV.symm
  clear hV
  rw [HSV1.out] at b1
  rw [← HVV1.out] at HVV2
  clear HSV1 HSV2
  unfold Sc.Five.vals
  have c0 := blk_cell (j := 0) b0
  simp only [List.getElem?_toArray, List.getElem?_cons_zero, List.getElem?_cons_succ] at c0
  have c1 := blk_cell (j := 1) b0
  simp only [List.getElem?_toArray, List.getElem?_cons_zero, List.getElem?_cons_succ] at c1
  have c2 := blk_cell (j := 2) b0
  simp only [List.getElem?_toArray, List.getElem?_cons_zero, List.getElem?_cons_succ] at c2
  have c3 := blk_cell (j := 3) b0
  simp only [List.getElem?_toArray, List.getElem?_cons_zero, List.getElem?_cons_succ] at c3
  have c4 := blk_cell (j := 4) b0
  simp only [List.getElem?_toArray, List.getElem?_cons_zero, List.getElem?_cons_succ] at c4
  rw [← HVV2.out] at c0 c1 c2 c3 c4
  go_enter Tryz.func7, Tryz.ntmps7
  go_wp2_with fail
  rw [HVV2.out]
  clear HVV1 HVV2 c0 c1 c2 c3 c4
  refine (rFew3_any f s V2 hS HF.out).mono ?_
  rintro e w3 ⟨bo, rfl, hbo, hb⟩
  replace hS := (hS.below hb).more hb.size
  replace b0 := blk_below b0 hb
  replace b1 := blk_below b1 hb
  replace hbt := hbt.trans (hb.mono hbt.size)
  clear hb
  have HB := Lib.hid hbo
  clear hbo
  cases bo with
  | false =>
    go_wp2_with fail
    go_ret
    exact ⟨_, rfl, (fun h => by cases h), hbt⟩
  | true =>
    have d0 := blk_cell (j := 0) b1
    simp only [List.getElem?_toArray, List.getElem?_cons_zero, List.getElem?_cons_succ] at d0
    go_wp2_with fail
    go_ret
    refine ⟨_, rfl, fun h => ⟨HB.out trivial, ?_⟩, hbt⟩
    simp at h
    omega

/-- How many places, as FewAll counts them. -/
def Wk.plc (S R : Nat) : Nat := max 1 (min 50 S * min 50 R)
theorem Wk.plc_le (S R : Nat) : Wk.plc S R ≤ 2500 ∧ 1 ≤ Wk.plc S R := by
  have : min 50 S * min 50 R ≤ 50 * 50 := Nat.mul_le_mul (Nat.min_le_left _ _) (Nat.min_le_left _ _)
  unfold Wk.plc
  omega
def FewAllPost (f : Sc.Five) (w : World) (e : Ending) (w' : World) : Prop := ∃ b, e = .returned (.bool b) ∧ (b = true → Wk.plc f.nS f.nR ^ f.nL ≤ 300 ∧ f.nL ≤ 20) ∧ Below w.heap.size w w'

end Go.Proofs.YtojbjaklngdlcaaGreatDoor
