/-
  WeekAssignment, walked.
-/
import Derived.Test.YtojbjaklngdlcaaGreatDoorFew4
import Derived.Test.YtojbjaklngdlcaaGreatDoorRTr
import Derived.Test.YtojbjaklngdlcaaGreatDoorROf
namespace Go.Proofs.YtojbjaklngdlcaaGreatDoor
open Go.RowKit Go.Shelf
set_option linter.unusedVariables false
set_option linter.unusedSimpArgs false

theorem Wk.okPs_wkA {s : Sc.Sch} {a : List Bool} (h1 : s.slots.length ≤ 1000) (h2 : s.rooms.length ≤ 1000) : okPs (Wk.ofR s a).1 := by
  unfold Wk.ofR
  split
  · simp [okPs]
  · split
    · intro p hp
      obtain ⟨j, hj, rfl⟩ := List.mem_map.1 hp
      have e1 : (Wk.slotOf s.lessons.length s.slots.length a j).1 ≤ s.slots.length := Wk.onl_lt _ _
      have e2 : (Wk.roomOf s.lessons.length s.slots.length s.rooms.length a j).1 ≤ s.rooms.length := Wk.onl_lt _ _
      unfold Wk.ofPl okI
      omega
    · simp [okPs]

set_option maxRecDepth 100000 in
set_option maxHeartbeats 3000000 in
theorem weekAssignment_any (f : Sc.Five) (s : Sc.Sch) (A : Option Addr) (n c : Nat) (l : List Pl) (O : Option Addr) (o co : Nat) (os : List Bool) (mx : Int) (w : World) (hS : Sc.RdSch w w.heap.size f s) (hF : f.nS ≤ 5864062014805 ∧ f.nR ≤ 5864062014805 ∧ f.nP ≤ 5864062014805 ∧ f.nG ≤ 5864062014805 ∧ f.nL ≤ 5864062014805) (hl : RdP w w.heap.size A n c l) (hO : RdO w w.heap.size O o co os) (hm : w.cell? ⟨0, 0, none⟩ = some (.int .i64 mx)) :
    Calls Tryz.prog 4 #[.agg f.vals, .agg #[.slice A n c], .slice O o co] w fun e w' => e = .returned (.bool true) ∧ Below w.heap.size w w' := by
  have hbt := Below.refl w.heap.size w
  have HF := Lib.hid hF
  clear hF
  have HLN := Lib.hid hS.lens
  have mS : f.nS ≤ f.cS ∧ f.cS ≤ 9223372036854775807 := ⟨hS.slots.le, hS.slots.max⟩
  have mR : f.nR ≤ f.cR ∧ f.cR ≤ 9223372036854775807 := ⟨hS.rooms.le, hS.rooms.max⟩
  have mP : f.nP ≤ f.cP ∧ f.cP ≤ 9223372036854775807 := ⟨hS.people.le, hS.people.max⟩
  have mG : f.nG ≤ f.cG ∧ f.cG ≤ 9223372036854775807 := ⟨hS.groups.le, hS.groups.max⟩
  have mL : f.nL ≤ f.cL ∧ f.cL ≤ 9223372036854775807 := ⟨hS.lessons.le, hS.lessons.max⟩
  have hl1 := hl.max
  have hl2 := hl.le
  have hlL := Lib.hid hl.len
  have hO1 := hO.max
  have hO2 := hO.le
  have hOL := Lib.hid hO.len
  obtain ⟨V1, hV⟩ : ∃ V1, V1 = w.alloc (.cells #[.slice f.aS f.nS f.cS, .slice f.aR f.nR f.cR, .slice f.aP f.nP f.cP, .slice f.aG f.nG f.cG, .slice f.aL f.nL f.cL] 28) := ⟨_, rfl⟩
  have b0 := blk_new hV
  have hb := below_new hV
  replace hS := (hS.below hb).more hb.size
  replace hm := (hb.cell (World.block_lt_of_cell? _ _ hm)).trans hm
  replace hl := (hl.below hb).more hb.size
  replace hO := (hO.below hb).more hb.size
  replace hbt := hbt.trans (hb.mono hbt.size)
  clear hb
  have HSV1 : Hid (V1.heap.size = w.heap.size + 1) := by show V1.heap.size = _; rw [hV, World.size_alloc]
  have HVV1 := Lib.hid hV.symm
  clear hV
  obtain ⟨V2, hV⟩ : ∃ V2, V2 = V1.alloc (.cells #[.slice A n c] 31) := ⟨_, rfl⟩
  have b1 := blk_new hV
  have hb := below_new hV
  replace hS := (hS.below hb).more hb.size
  replace hm := (hb.cell (World.block_lt_of_cell? _ _ hm)).trans hm
  replace hl := (hl.below hb).more hb.size
  replace hO := (hO.below hb).more hb.size
  replace b0 := blk_below b0 hb
  replace hbt := hbt.trans (hb.mono hbt.size)
  clear hb
  have HSV2 : Hid (V2.heap.size = V1.heap.size + 1) := by show V2.heap.size = _; rw [hV, World.size_alloc]
  have HVV2 := Lib.hid hV.symm
  clear hV
  rw [HSV1.out] at b1
  rw [← HVV1.out] at HVV2
  clear HSV1 HSV2
  unfold Sc.Five.vals
  go_enter Tryz.func4, Tryz.ntmps4
  go_wp2_with fail
  rw [HVV2.out]
  clear HVV1 HVV2
  refine (live4_any mx V2 hm).mono ?_
  rintro e w1 ⟨rfl, hb⟩
  replace hS := (hS.below hb).more hb.size
  replace hm := (hb.cell (World.block_lt_of_cell? _ _ hm)).trans hm
  replace hl := (hl.below hb).more hb.size
  replace hO := (hO.below hb).more hb.size
  replace b0 := blk_below b0 hb
  replace b1 := blk_below b1 hb
  replace hbt := hbt.trans (hb.mono hbt.size)
  clear hb
  have c0 := blk_cell (j := 0) b0
  simp only [List.getElem?_toArray, List.getElem?_cons_zero, List.getElem?_cons_succ] at c0
  have c1 := blk_cell (j := 1) b0
  simp only [List.getElem?_toArray, List.getElem?_cons_zero, List.getElem?_cons_succ] at c1
  have c2 := blk_cell (j := 2) b0
  simp only [List.getElem?_toArray, List.getElem?_cons_zero, List.getElem?_cons_succ] at c2
  have c3 := blk_cell (j := 3) b0
  simp only [List.getElem?_toArray, List.getElem?_cons_zero, List.getElem?_cons_succ] at c3
  have c4 := blk_cell (j := 4) b0
  simp only [List.getElem?_toArray, List.getElem?_cons_zero, List.getElem?_cons_succ] at c4
  have d0 := blk_cell (j := 0) b1
  simp only [List.getElem?_toArray, List.getElem?_cons_zero, List.getElem?_cons_succ] at d0
  go_wp2_with fail
  clear c0 c1 c2 c3 c4 d0
  refine (few4_any f s A n c w1 hS HF.out ⟨hl2, hl1⟩).mono ?_
  rintro e w2 ⟨bo, rfl, hbo, hb⟩
  have HB := Lib.hid hbo
  clear hbo
  replace hS := (hS.below hb).more hb.size
  replace hm := (hb.cell (World.block_lt_of_cell? _ _ hm)).trans hm
  replace hl := (hl.below hb).more hb.size
  replace hO := (hO.below hb).more hb.size
  replace b0 := blk_below b0 hb
  replace b1 := blk_below b1 hb
  replace hbt := hbt.trans (hb.mono hbt.size)
  clear hb
  cases bo with
  | false =>
    go_wp2_with fail
    go_ret
    exact ⟨rfl, hbt⟩
  | true =>
    have hz := (HB.out rfl).1
    have HZ := Lib.hid hz
    have hs : f.nS ≤ 1000 ∧ f.nR ≤ 1000 ∧ f.nL ≤ 1000 := ⟨by omega, by omega, by omega⟩
    have HS := Lib.hid hs
    have HSS : Hid (s.slots.length ≤ 1000 ∧ s.rooms.length ≤ 1000) := ⟨by rw [HLN.out.1]; omega, by rw [HLN.out.2.1]; omega⟩
    clear hz hs HB
    by_cases ho6 : 6000 < o
    · have tho6 : decide ((6000 : Int) < (o : Int)) = true := by simp; omega
      have uho6 : decide (6000 < o) = true := by simp; omega
      go_wp2_with fail
      go_ret
      exact ⟨rfl, hbt⟩
    · have tho6 : decide ((6000 : Int) < (o : Int)) = false := by simp; omega
      have uho6 : decide (6000 < o) = false := by simp; omega
      have c0 := blk_cell (j := 0) b0
      simp only [List.getElem?_toArray, List.getElem?_cons_zero, List.getElem?_cons_succ] at c0
      have c1 := blk_cell (j := 1) b0
      simp only [List.getElem?_toArray, List.getElem?_cons_zero, List.getElem?_cons_succ] at c1
      have c2 := blk_cell (j := 2) b0
      simp only [List.getElem?_toArray, List.getElem?_cons_zero, List.getElem?_cons_succ] at c2
      have c3 := blk_cell (j := 3) b0
      simp only [List.getElem?_toArray, List.getElem?_cons_zero, List.getElem?_cons_succ] at c3
      have c4 := blk_cell (j := 4) b0
      simp only [List.getElem?_toArray, List.getElem?_cons_zero, List.getElem?_cons_succ] at c4
      have d0 := blk_cell (j := 0) b1
      simp only [List.getElem?_toArray, List.getElem?_cons_zero, List.getElem?_cons_succ] at d0
      go_wp2_with fail
      clear c0 c1 c2 c3 c4 d0
      refine (wTrue_any f s A n c l mx w2 hS hl hm HS.out).mono ?_
      rintro e w3 ⟨v3, rfl, ho3, hb⟩
      obtain ⟨A3, q3, rfl, h3⟩ := own_rd ho3
      replace h3 : RdO w3 w3.heap.size A3 (Wk.trR s l).1.length q3 (Wk.trR s l).1 := h3
      clear ho3
      replace hS := (hS.below hb).more hb.size
      replace hm := (hb.cell (World.block_lt_of_cell? _ _ hm)).trans hm
      replace hl := (hl.below hb).more hb.size
      replace hO := (hO.below hb).more hb.size
      replace b0 := blk_below b0 hb
      replace b1 := blk_below b1 hb
      replace hbt := hbt.trans (hb.mono hbt.size)
      clear hb
      obtain ⟨T, hT⟩ : ∃ T, T = Wk.trR s l := ⟨_, rfl⟩
      rw [← hT] at h3 ⊢
      have HT := Lib.hid hT
      clear hT
      obtain ⟨T1, T2⟩ := T
      dsimp only at *
      obtain ⟨tl, htl⟩ : ∃ tl, tl = T1.length := ⟨_, rfl⟩
      rw [← htl] at h3 ⊢
      have HTL := Lib.hid htl
      clear htl
      have y31 := h3.max
      have y32 := h3.le
      have c0 := blk_cell (j := 0) b0
      simp only [List.getElem?_toArray, List.getElem?_cons_zero, List.getElem?_cons_succ] at c0
      have c1 := blk_cell (j := 1) b0
      simp only [List.getElem?_toArray, List.getElem?_cons_zero, List.getElem?_cons_succ] at c1
      have c2 := blk_cell (j := 2) b0
      simp only [List.getElem?_toArray, List.getElem?_cons_zero, List.getElem?_cons_succ] at c2
      have c3 := blk_cell (j := 3) b0
      simp only [List.getElem?_toArray, List.getElem?_cons_zero, List.getElem?_cons_succ] at c3
      have c4 := blk_cell (j := 4) b0
      simp only [List.getElem?_toArray, List.getElem?_cons_zero, List.getElem?_cons_succ] at c4
      have d0 := blk_cell (j := 0) b1
      simp only [List.getElem?_toArray, List.getElem?_cons_zero, List.getElem?_cons_succ] at d0
      go_wp2_with fail
      clear c0 c1 c2 c3 c4 d0
      refine (rTrue4_any f s A n c l w3 hS hl HZ.out).mono ?_
      rintro e w4 ⟨v4, rfl, ho4, hb⟩
      rw [← HT.out] at ho4 ⊢
      dsimp only at ho4 ⊢
      rw [← HTL.out] at ho4
      obtain ⟨A4, q4, rfl, h4⟩ := own_rd ho4
      replace h4 : RdO w4 w4.heap.size A4 tl q4 T1 := h4
      clear ho4
      have y41 := h4.max
      have y42 := h4.le
      replace hS := (hS.below hb).more hb.size
      replace hm := (hb.cell (World.block_lt_of_cell? _ _ hm)).trans hm
      replace hl := (hl.below hb).more hb.size
      replace hO := (hO.below hb).more hb.size
      replace b0 := blk_below b0 hb
      replace b1 := blk_below b1 hb
      replace h3 := (h3.below hb).more hb.size
      replace hbt := hbt.trans (hb.mono hbt.size)
      clear hb
      have c0 := blk_cell (j := 0) b0
      simp only [List.getElem?_toArray, List.getElem?_cons_zero, List.getElem?_cons_succ] at c0
      have c1 := blk_cell (j := 1) b0
      simp only [List.getElem?_toArray, List.getElem?_cons_zero, List.getElem?_cons_succ] at c1
      have c2 := blk_cell (j := 2) b0
      simp only [List.getElem?_toArray, List.getElem?_cons_zero, List.getElem?_cons_succ] at c2
      have c3 := blk_cell (j := 3) b0
      simp only [List.getElem?_toArray, List.getElem?_cons_zero, List.getElem?_cons_succ] at c3
      have c4 := blk_cell (j := 4) b0
      simp only [List.getElem?_toArray, List.getElem?_cons_zero, List.getElem?_cons_succ] at c4
      have d0 := blk_cell (j := 0) b1
      simp only [List.getElem?_toArray, List.getElem?_cons_zero, List.getElem?_cons_succ] at d0
      go_wp2_with fail
      clear c0 c1 c2 c3 c4 d0
      refine (wOf_any f s O o co os mx w4 hS hO hm HS.out).mono ?_
      rintro e w5 ⟨v5, rfl, ho5, hb⟩
      obtain ⟨A5, q5, rfl, h5⟩ := own_rdP ho5 (Wk.okPs_wkA HSS.out.1 HSS.out.2)
      clear ho5
      replace hS := (hS.below hb).more hb.size
      replace hm := (hb.cell (World.block_lt_of_cell? _ _ hm)).trans hm
      replace hl := (hl.below hb).more hb.size
      replace hO := (hO.below hb).more hb.size
      replace b0 := blk_below b0 hb
      replace b1 := blk_below b1 hb
      replace h3 := (h3.below hb).more hb.size
      replace h4 := (h4.below hb).more hb.size
      replace hbt := hbt.trans (hb.mono hbt.size)
      clear hb
      have HOK := Lib.hid (Wk.okPs_wkA (a := os) HSS.out.1 HSS.out.2)
      obtain ⟨U, hU⟩ : ∃ U, U = Wk.ofR s os := ⟨_, rfl⟩
      rw [← hU] at h5 HOK ⊢
      have HU := Lib.hid hU
      clear hU
      obtain ⟨U1, U2⟩ := U
      dsimp only at *
      obtain ⟨ul, hul⟩ : ∃ ul, ul = U1.length := ⟨_, rfl⟩
      rw [← hul] at h5 ⊢
      have HUL := Lib.hid hul
      clear hul
      have y51 := h5.max
      have y52 := h5.le
      obtain ⟨V5, hV⟩ : ∃ V5, V5 = w5.alloc (.cells #[.slice A5 ul q5] 31) := ⟨_, rfl⟩
      have b5 := blk_new hV
      have hb := below_new hV
      replace hS := (hS.below hb).more hb.size
      replace hm := (hb.cell (World.block_lt_of_cell? _ _ hm)).trans hm
      replace hl := (hl.below hb).more hb.size
      replace hO := (hO.below hb).more hb.size
      replace b0 := blk_below b0 hb
      replace b1 := blk_below b1 hb
      replace h3 := (h3.below hb).more hb.size
      replace h4 := (h4.below hb).more hb.size
      replace h5 := (h5.below hb).more hb.size
      replace hbt := hbt.trans (hb.mono hbt.size)
      clear hb
      have HSV5 : Hid (V5.heap.size = w5.heap.size + 1) := by show V5.heap.size = _; rw [hV, World.size_alloc]
      have HVV5 := Lib.hid hV.symm
      clear hV
      clear HSV5
      have c0 := blk_cell (j := 0) b0
      simp only [List.getElem?_toArray, List.getElem?_cons_zero, List.getElem?_cons_succ] at c0
      have c1 := blk_cell (j := 1) b0
      simp only [List.getElem?_toArray, List.getElem?_cons_zero, List.getElem?_cons_succ] at c1
      have c2 := blk_cell (j := 2) b0
      simp only [List.getElem?_toArray, List.getElem?_cons_zero, List.getElem?_cons_succ] at c2
      have c3 := blk_cell (j := 3) b0
      simp only [List.getElem?_toArray, List.getElem?_cons_zero, List.getElem?_cons_succ] at c3
      have c4 := blk_cell (j := 4) b0
      simp only [List.getElem?_toArray, List.getElem?_cons_zero, List.getElem?_cons_succ] at c4
      have d0 := blk_cell (j := 0) b1
      simp only [List.getElem?_toArray, List.getElem?_cons_zero, List.getElem?_cons_succ] at d0
      rw [← HVV5.out] at c0 c1 c2 c3 c4 d0
      go_wp2_with fail
      rw [HVV5.out]
      clear c0 c1 c2 c3 c4 d0 HVV5
      refine (rOf4_any f s O o co os V5 hS hO HZ.out).mono ?_
      rintro e w6 ⟨v6, rfl, ho6, hb⟩
      rw [← HU.out] at ho6 ⊢
      dsimp only at ho6 ⊢
      rw [← HUL.out] at ho6
      obtain ⟨A6, q6, rfl, h6⟩ := own_rdP ho6 HOK.out
      clear ho6
      have y61 := h6.max
      have y62 := h6.le
      replace hS := (hS.below hb).more hb.size
      replace hm := (hb.cell (World.block_lt_of_cell? _ _ hm)).trans hm
      replace hl := (hl.below hb).more hb.size
      replace hO := (hO.below hb).more hb.size
      replace b0 := blk_below b0 hb
      replace b1 := blk_below b1 hb
      replace h3 := (h3.below hb).more hb.size
      replace h4 := (h4.below hb).more hb.size
      replace h5 := (h5.below hb).more hb.size
      replace b5 := blk_below b5 hb
      replace hbt := hbt.trans (hb.mono hbt.size)
      clear hb
      obtain ⟨V6, hV⟩ : ∃ V6, V6 = w6.alloc (.cells #[.slice A6 ul q6] 31) := ⟨_, rfl⟩
      have b6 := blk_new hV
      have hb := below_new hV
      replace hS := (hS.below hb).more hb.size
      replace hm := (hb.cell (World.block_lt_of_cell? _ _ hm)).trans hm
      replace hl := (hl.below hb).more hb.size
      replace hO := (hO.below hb).more hb.size
      replace b0 := blk_below b0 hb
      replace b1 := blk_below b1 hb
      replace h3 := (h3.below hb).more hb.size
      replace h4 := (h4.below hb).more hb.size
      replace h5 := (h5.below hb).more hb.size
      replace b5 := blk_below b5 hb
      replace h6 := (h6.below hb).more hb.size
      replace hbt := hbt.trans (hb.mono hbt.size)
      clear hb
      have HSV6 : Hid (V6.heap.size = w6.heap.size + 1) := by show V6.heap.size = _; rw [hV, World.size_alloc]
      have HVV6 := Lib.hid hV.symm
      clear hV
      clear HSV6
      go_wp2_with fail
      rw [HVV6.out]
      clear HVV6
      refine (rBools4_any A3 A4 tl q3 tl q4 T1 T1 V6 h3 h4).mono ?_
      rintro e w7 ⟨rfl, hb⟩
      rw [show decide (T1 = T1) = true by simp]
      replace hS := (hS.below hb).more hb.size
      replace hm := (hb.cell (World.block_lt_of_cell? _ _ hm)).trans hm
      replace hl := (hl.below hb).more hb.size
      replace hO := (hO.below hb).more hb.size
      replace b0 := blk_below b0 hb
      replace b1 := blk_below b1 hb
      replace h3 := (h3.below hb).more hb.size
      replace h4 := (h4.below hb).more hb.size
      replace h5 := (h5.below hb).more hb.size
      replace b5 := blk_below b5 hb
      replace h6 := (h6.below hb).more hb.size
      replace b6 := blk_below b6 hb
      replace hbt := hbt.trans (hb.mono hbt.size)
      clear hb
      have E1 : (T2 == T2) = true := by simp
      have x0 := blk_cell (j := 0) b5
      simp only [List.getElem?_toArray, List.getElem?_cons_zero, List.getElem?_cons_succ] at x0
      have y0 := blk_cell (j := 0) b6
      simp only [List.getElem?_toArray, List.getElem?_cons_zero, List.getElem?_cons_succ] at y0
      go_wp2_with fail
      clear x0 y0
      refine (same4_any A5 A6 ul q5 ul q6 _ _ w7 h5 h6).mono ?_
      rintro e w8 ⟨rfl, hb⟩
      rw [show decide (U1 = U1) = true by simp]
      replace hS := (hS.below hb).more hb.size
      replace hm := (hb.cell (World.block_lt_of_cell? _ _ hm)).trans hm
      replace hl := (hl.below hb).more hb.size
      replace hO := (hO.below hb).more hb.size
      replace b0 := blk_below b0 hb
      replace b1 := blk_below b1 hb
      replace h3 := (h3.below hb).more hb.size
      replace h4 := (h4.below hb).more hb.size
      replace h5 := (h5.below hb).more hb.size
      replace b5 := blk_below b5 hb
      replace h6 := (h6.below hb).more hb.size
      replace b6 := blk_below b6 hb
      replace hbt := hbt.trans (hb.mono hbt.size)
      clear hb
      have E2 : (U2 == U2) = true := by simp
      go_wp2_with fail
      go_ret
      exact ⟨rfl, hbt⟩

end Go.Proofs.YtojbjaklngdlcaaGreatDoor
