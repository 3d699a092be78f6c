/-
  The walk of the reference's Put.
-/
import Derived.Test.YtfockoihmoljfaaGreatDoorLotU
import Derived.Test.YtfockoihmoljfaaGreatDoorRCk3
namespace Go.Proofs.YtfockoihmoljfaaGreatDoor
open Go.RowKit Go.Shelf
set_option linter.unusedVariables false
set_option linter.unusedSimpArgs false

set_option maxRecDepth 100000 in
set_option maxHeartbeats 8000000 in
theorem rPut3_any (f : Sc.Five) (s : Sc.Sch) (w : World) (h : Sc.RdSch w w.heap.size f s) (hz : f.nS ≤ 80 ∧ f.nR ≤ 80 ∧ f.nP ≤ 80 ∧ f.nG ≤ 80 ∧ f.nL ≤ 80) :
    Calls Tryz.prog 21 #[.agg f.vals] w (PutPost (Sc.putR s) w) := by
  have h0 := h
  have HLN := Lib.hid (show s.slots.length = f.nS ∧ s.rooms.length = f.nR ∧ s.people.length = f.nP ∧ s.groups.length = f.nG ∧ s.lessons.length = f.nL from ⟨h.slots.len (by omega), h.rooms.len (by omega), h.people.len (by omega), h.groups.len (by omega), h.lessons.len (by omega)⟩)
  have hbt := Below.refl w.heap.size w
  have mS : f.nS ≤ f.cS ∧ f.cS ≤ 9223372036854775807 := ⟨h.slots.le, h.slots.max⟩
  have mR : f.nR ≤ f.cR ∧ f.cR ≤ 9223372036854775807 := ⟨h.rooms.le, h.rooms.max⟩
  have mP : f.nP ≤ f.cP ∧ f.cP ≤ 9223372036854775807 := ⟨h.people.le, h.people.max⟩
  have mG : f.nG ≤ f.cG ∧ f.cG ≤ 9223372036854775807 := ⟨h.groups.le, h.groups.max⟩
  have mL : f.nL ≤ f.cL ∧ f.cL ≤ 9223372036854775807 := ⟨h.lessons.le, h.lessons.max⟩
  obtain ⟨V1, hV⟩ : ∃ V1, V1 = w.alloc (.cells #[.slice f.aS f.nS f.cS, .slice f.aR f.nR f.cR, .slice f.aP f.nP f.cP, .slice f.aG f.nG f.cG, .slice f.aL f.nL f.cL] 28) := ⟨_, rfl⟩
  have b0 := blk_new hV
  have hb := below_new hV
  replace h := (h.below hb).more hb.size
  replace hbt := hbt.trans (hb.mono hbt.size)
  clear hb
  have HSV1 : Hid (V1.heap.size = w.heap.size + 1) := by show V1.heap.size = _; rw [hV, World.size_alloc]
  have HVV1 := Lib.hid hV.symm
  clear hV
  clear HSV1
  unfold Sc.Five.vals
  have c0 := blk_cell (j := 0) b0
  simp only [List.getElem?_toArray, List.getElem?_cons_zero, List.getElem?_cons_succ] at c0
  have c1 := blk_cell (j := 1) b0
  simp only [List.getElem?_toArray, List.getElem?_cons_zero, List.getElem?_cons_succ] at c1
  have c2 := blk_cell (j := 2) b0
  simp only [List.getElem?_toArray, List.getElem?_cons_zero, List.getElem?_cons_succ] at c2
  have c3 := blk_cell (j := 3) b0
  simp only [List.getElem?_toArray, List.getElem?_cons_zero, List.getElem?_cons_succ] at c3
  have c4 := blk_cell (j := 4) b0
  simp only [List.getElem?_toArray, List.getElem?_cons_zero, List.getElem?_cons_succ] at c4
  rw [← HVV1.out] at c0 c1 c2 c3 c4
  go_enter Tryz.func21, Tryz.ntmps21
  go_wp2_with fail
  rw [HVV1.out]
  clear HVV1 c0 c1 c2 c3 c4
  refine (rCheck3_any f s V1 h hz).mono ?_
  rintro e w3 ⟨rfl, hb⟩
  replace h := (h.below hb).more hb.size
  replace b0 := blk_below b0 hb
  replace hbt := hbt.trans (hb.mono hbt.size)
  clear hb
  clear h
  by_cases hE : Sc.chk s ≠ 0
  · have HC : Hid (Sc.putR s = ([], Sc.chk s)) := by show _ = _; unfold Sc.putR; rw [if_pos hE]
    generalize Sc.chk s = er at *
    have dE : (er != 0) = true := by simp; omega
    go_wp2_with fail
    go_ret2
    exact putpost_err HC.out hbt
  · have hE : Sc.chk s = 0 := Classical.not_not.1 hE
    have HC : Hid (Sc.putR s = (Sc.putB s, 0)) := by show _ = _; unfold Sc.putR; rw [if_neg (fun hh => hh hE)]
    have HSM := Lib.hid (Sc.small_of hE)
    rw [hE]
    clear hE
    obtain ⟨E0, hE0⟩ : ∃ E : Nat → List UInt8, E = fun j => Vi.putI (f.nS : Int) ++ (s.slots.take j).flatMap Sc.putSlo := ⟨_, rfl⟩
    have HEB0 : Hid (∀ j, (E0 j).length ≤ 160010) := fun j => by
      rw [hE0]
      have h1 := putI_len (n := (f.nS : Int)) (by omega)
      have h2 := Sc.flat_bd (p := Sc.putSlo) (l := s.slots.take j) (fun x hx => Sc.lenSlo (HSM.out.slots x (List.mem_of_mem_take hx)))
      have h3 : (s.slots.take j).length ≤ 80 := by rw [List.length_take, HLN.out.1]; omega
      dsimp only
      rw [List.length_append]; omega
    have HE00 : Hid (E0 0 = Vi.putI (f.nS : Int)) := by show _ = _; rw [hE0]; simp
    have HES0 : Hid (∀ j (hj : j < s.slots.length), E0 (j + 1) = E0 j ++ Sc.putSlo s.slots[j]) := fun j hj => by rw [hE0]; dsimp only; rw [Sc.flat_snoc hj, List.append_assoc]
    have HEN0 : Hid (E0 f.nS = Sc.putA Sc.putSlo s.slots) := by show _ = _; rw [hE0]; dsimp only; rw [List.take_of_length_le (by rw [HLN.out.1]; omega)]; unfold Sc.putA; rw [HLN.out.1]
    clear hE0
    have c0 := blk_cell (j := 0) b0
    simp only [List.getElem?_toArray, List.getElem?_cons_zero, List.getElem?_cons_succ] at c0
    go_wp2_with fail
    clear c0
    refine (rputInt_any none (0) 0 ([]) (f.nS : Int) w3 (RdB.nil _ _) (by omega) (by omega)).mono ?_
    rintro e y0 ⟨v0, rfl, ho, hb⟩
    replace ho := own_mono ho hbt.size
    replace b0 := blk_below b0 hb
    replace hbt := hbt.trans (hb.mono hbt.size)
    clear hb
    rw [← HE00.out] at ho
    simp only [Nat.zero_add, List.nil_append] at ho
    have c0 := blk_cell (j := 0) b0
    simp only [List.getElem?_toArray, List.getElem?_cons_zero, List.getElem?_cons_succ] at c0
    go_wp2_with fail
    clear c0
    go_loopw [5, 6] (fun bvv iv wr => ∃ (j : Nat) (v : Value), j ≤ f.nS ∧ iv = .int .i64 j ∧ bvv = v ∧ wr.ownsRow w.heap.size 5 1 v ((E0 j).length) (bv (E0 j)) ∧ wr.heap[w.heap.size]? = some (.cells #[.slice f.aS f.nS f.cS, .slice f.aR f.nR f.cR, .slice f.aP f.nP f.cP, .slice f.aG f.nG f.cG, .slice f.aL f.nL f.cL] 28) ∧ Below w.heap.size w wr) (fun _ iv _ => f.nS - (intOf iv).toNat)
    case atStart => exact ⟨0, v0, by omega, rfl, rfl, ho, b0, hbt⟩
    case round =>
      clear ho b0 hbt
      obtain ⟨j, v, hj, rfl, rfl, ho, b0, hbt⟩ := hrel
      have c0 := blk_cell (j := 0) b0
      simp only [List.getElem?_toArray, List.getElem?_cons_zero, List.getElem?_cons_succ] at c0
      by_cases hjn : j < f.nS
      · have d1 : decide ((j : Int) < (f.nS : Int)) = true := by simp; omega
        have d2 : decide (j < f.nS) = true := by simp; omega
        have hjl : j < s.slots.length := by rw [HLN.out.1]; exact hjn
        have HEj := Lib.hid (HES0.out j hjl)
        have hsm := HSM.out.slots _ (List.getElem_mem hjl)
        have HSMx := Lib.hid hsm
        clear hsm
        have hEb := HEB0.out j
        obtain ⟨Ab, cb, rfl, hr⟩ := own_rdB ho
        clear ho
        obtain ⟨ad, r, hA, hab, hr1, hR, hc⟩ := RdS.at_ (by omega) (h0.slots.below Sc.lasts_Slo hbt) hjn hjl
        obtain ⟨rfl, _, _, _⟩ := hR
        clear hr1
        have HAD := Lib.hid hA
        clear hA
        have x0 := hc 0 _ rfl
        have x1 := hc 1 _ rfl
        have x2 := hc 2 _ rfl
        rw [Nat.add_zero] at x0
        replace x1 := cell_sub x1
        replace x2 := cell_sub x2
        clear hc
        generalize s.slots[j] = x at *
        generalize E0 j = Ej at *
        rw [HAD.out] at c0
        obtain ⟨P0, hP0⟩ : ∃ P, P = Vi.putS x.name := ⟨_, rfl⟩
        obtain ⟨P1, hP1⟩ : ∃ P, P = Vi.putI x.day := ⟨_, rfl⟩
        obtain ⟨P2, hP2⟩ : ∃ P, P = Vi.putI x.hour := ⟨_, rfl⟩
        have HPUT : Hid (Sc.putSlo x = P0 ++ P1 ++ P2) := by show _ = _; rw [hP0, hP1, hP2]; rfl
        have hlen := Sc.lenSlo HSMx.out
        rw [HPUT.out] at hlen
        simp only [List.length_append] at hlen
        rw [HPUT.out] at HEj
        clear HPUT
        have HP0 := Lib.hid hP0
        clear hP0
        have HP1 := Lib.hid hP1
        clear hP1
        have HP2 := Lib.hid hP2
        clear hP2
        obtain ⟨s1, s2, s3⟩ := HSMx.out
        clear HSMx
        unfold okI at s2 s3
        go_wp2_with fail
        clear c0
        refine (rputText_any Ab (Ej.length) cb (Ej) (strOf x.name) wr hr (by omega) (by rw [strOf_size]; omega)).mono ?_
        rintro e z0 ⟨u0, rfl, ho, hb⟩
        replace ho := own_mono ho hbt.size
        clear hr
        rw [show Vi.putS (strOf x.name).data.toList = P0 from HP0.out.symm] at ho
        replace b0 := blk_below b0 hb
        replace x0 := (hb.cell (World.block_lt_of_cell? _ _ x0)).trans x0
        replace x1 := (hb.cell (World.block_lt_of_cell? _ _ x1)).trans x1
        replace x2 := (hb.cell (World.block_lt_of_cell? _ _ x2)).trans x2
        replace hbt := hbt.trans (hb.mono hbt.size)
        clear hb
        obtain ⟨B0, d0, rfl, hr0⟩ := own_rdB ho
        clear ho
        have c0 := blk_cell (j := 0) b0
        simp only [List.getElem?_toArray, List.getElem?_cons_zero, List.getElem?_cons_succ] at c0
        rw [HAD.out] at c0
        go_wp2_with fail
        clear c0
        refine (rputInt_any B0 (Ej.length + P0.length) d0 ((Ej) ++ P0) x.day z0 hr0 (by omega) (by omega)).mono ?_
        rintro e z1 ⟨u1, rfl, ho, hb⟩
        replace ho := own_mono ho hbt.size
        clear hr0
        rw [← HP1.out] at ho
        replace b0 := blk_below b0 hb
        replace x0 := (hb.cell (World.block_lt_of_cell? _ _ x0)).trans x0
        replace x1 := (hb.cell (World.block_lt_of_cell? _ _ x1)).trans x1
        replace x2 := (hb.cell (World.block_lt_of_cell? _ _ x2)).trans x2
        replace hbt := hbt.trans (hb.mono hbt.size)
        clear hb
        obtain ⟨B1, d1, rfl, hr1⟩ := own_rdB ho
        clear ho
        have c0 := blk_cell (j := 0) b0
        simp only [List.getElem?_toArray, List.getElem?_cons_zero, List.getElem?_cons_succ] at c0
        rw [HAD.out] at c0
        go_wp2_with fail
        clear c0
        refine (rputInt_any B1 (Ej.length + P0.length + P1.length) d1 (((Ej) ++ P0) ++ P1) x.hour z1 hr1 (by omega) (by omega)).mono ?_
        rintro e z2 ⟨u2, rfl, ho, hb⟩
        replace ho := own_mono ho hbt.size
        clear hr1
        rw [← HP2.out] at ho
        replace b0 := blk_below b0 hb
        replace x0 := (hb.cell (World.block_lt_of_cell? _ _ x0)).trans x0
        replace x1 := (hb.cell (World.block_lt_of_cell? _ _ x1)).trans x1
        replace x2 := (hb.cell (World.block_lt_of_cell? _ _ x2)).trans x2
        replace hbt := hbt.trans (hb.mono hbt.size)
        clear hb
        replace ho : z2.ownsRow w.heap.size 5 1 u2 ((E0 (j + 1)).length) (bv (E0 (j + 1))) := by
          rw [HEj.out]
          simpa [Nat.add_assoc, List.append_assoc] using ho
        go_wp2_with fail
        go_roundw
        case rel => exact ⟨j + 1, _, by omega, by go_num, rfl, ho, b0, hbt⟩
        case measure => simp [intOf]; omega
      · obtain rfl : j = f.nS := by omega
        have d1 : decide ((f.nS : Int) < (f.nS : Int)) = false := by simp
        obtain ⟨p0, hp0⟩ : ∃ p, p = E0 f.nS := ⟨_, rfl⟩
        rw [← hp0] at ho
        have l0 := HEB0.out f.nS
        rw [← hp0] at l0
        have HQ0 : Hid (p0 = Sc.putA Sc.putSlo s.slots) := hp0.trans HEN0.out
        clear hp0
        obtain ⟨Ab, cb, rfl, hr00⟩ := own_rdB ho
        clear ho
        obtain ⟨E1, hE1⟩ : ∃ E : Nat → List UInt8, E = fun j => Vi.putI (f.nR : Int) ++ (s.rooms.take j).flatMap Sc.putRoo := ⟨_, rfl⟩
        have HEB1 : Hid (∀ j, (E1 j).length ≤ 160010) := fun j => by
          rw [hE1]
          have h1 := putI_len (n := (f.nR : Int)) (by omega)
          have h2 := Sc.flat_bd (p := Sc.putRoo) (l := s.rooms.take j) (fun x hx => Sc.lenRoo (HSM.out.rooms x (List.mem_of_mem_take hx)))
          have h3 : (s.rooms.take j).length ≤ 80 := by rw [List.length_take, HLN.out.2.1]; omega
          dsimp only
          rw [List.length_append]; omega
        have HE01 : Hid (E1 0 = Vi.putI (f.nR : Int)) := by show _ = _; rw [hE1]; simp
        have HES1 : Hid (∀ j (hj : j < s.rooms.length), E1 (j + 1) = E1 j ++ Sc.putRoo s.rooms[j]) := fun j hj => by rw [hE1]; dsimp only; rw [Sc.flat_snoc hj, List.append_assoc]
        have HEN1 : Hid (E1 f.nR = Sc.putA Sc.putRoo s.rooms) := by show _ = _; rw [hE1]; dsimp only; rw [List.take_of_length_le (by rw [HLN.out.2.1]; omega)]; unfold Sc.putA; rw [HLN.out.2.1]
        clear hE1
        have c1 := blk_cell (j := 1) b0
        simp only [List.getElem?_toArray, List.getElem?_cons_zero, List.getElem?_cons_succ] at c1
        go_wp2_with fail
        clear c1 c0 d1
        refine (rputInt_any Ab (p0.length) cb (p0) (f.nR : Int) wr hr00 (by omega) (by omega)).mono ?_
        rintro e y1 ⟨v1, rfl, ho, hb⟩
        replace ho := own_mono ho hbt.size
        replace b0 := blk_below b0 hb
        replace hbt := hbt.trans (hb.mono hbt.size)
        clear hb
        rw [← HE01.out] at ho
        clear hr00
        have c1 := blk_cell (j := 1) b0
        simp only [List.getElem?_toArray, List.getElem?_cons_zero, List.getElem?_cons_succ] at c1
        go_wp2_with fail
        clear c1
        go_loopw [5, 7] (fun bvv iv wr => ∃ (j : Nat) (v : Value), j ≤ f.nR ∧ iv = .int .i64 j ∧ bvv = v ∧ wr.ownsRow w.heap.size 5 1 v (p0.length + (E1 j).length) (bv (p0 ++ E1 j)) ∧ wr.heap[w.heap.size]? = some (.cells #[.slice f.aS f.nS f.cS, .slice f.aR f.nR f.cR, .slice f.aP f.nP f.cP, .slice f.aG f.nG f.cG, .slice f.aL f.nL f.cL] 28) ∧ Below w.heap.size w wr) (fun _ iv _ => f.nR - (intOf iv).toNat)
        case atStart => exact ⟨0, v1, by omega, rfl, rfl, ho, b0, hbt⟩
        case round =>
          clear ho b0 hbt
          obtain ⟨j, v, hj, rfl, rfl, ho, b0, hbt⟩ := hrel
          have c1 := blk_cell (j := 1) b0
          simp only [List.getElem?_toArray, List.getElem?_cons_zero, List.getElem?_cons_succ] at c1
          by_cases hjn : j < f.nR
          · have d1 : decide ((j : Int) < (f.nR : Int)) = true := by simp; omega
            have d2 : decide (j < f.nR) = true := by simp; omega
            have hjl : j < s.rooms.length := by rw [HLN.out.2.1]; exact hjn
            have HEj := Lib.hid (HES1.out j hjl)
            have hsm := HSM.out.rooms _ (List.getElem_mem hjl)
            have HSMx := Lib.hid hsm
            clear hsm
            have hEb := HEB1.out j
            obtain ⟨Ab, cb, rfl, hr⟩ := own_rdB ho
            clear ho
            obtain ⟨ad, r, hA, hab, hr1, hR, hc⟩ := RdS.at_ (by omega) (h0.rooms.below Sc.lasts_Roo hbt) hjn hjl
            obtain ⟨A3, c3, rfl, r3, _, _, _⟩ := hR
            clear hr1
            have HAD := Lib.hid hA
            clear hA
            have x0 := hc 0 _ rfl
            have x1 := hc 1 _ rfl
            have x2 := hc 2 _ rfl
            have x3 := hc 3 _ rfl
            rw [Nat.add_zero] at x0
            replace x1 := cell_sub x1
            replace x2 := cell_sub x2
            replace x3 := cell_sub x3
            clear hc
            generalize s.rooms[j] = x at *
            generalize E1 j = Ej at *
            rw [HAD.out] at c1
            replace r3 := r3.more hbt.size
            obtain ⟨P0, hP0⟩ : ∃ P, P = Vi.putS x.name := ⟨_, rfl⟩
            obtain ⟨P1, hP1⟩ : ∃ P, P = Vi.putI x.house := ⟨_, rfl⟩
            obtain ⟨P2, hP2⟩ : ∃ P, P = Vi.putI x.seats := ⟨_, rfl⟩
            obtain ⟨P3, hP3⟩ : ∃ P, P = Vi.putL x.shut := ⟨_, rfl⟩
            have HPUT : Hid (Sc.putRoo x = P0 ++ P1 ++ P2 ++ P3) := by show _ = _; rw [hP0, hP1, hP2, hP3]; rfl
            have hlen := Sc.lenRoo HSMx.out
            rw [HPUT.out] at hlen
            simp only [List.length_append] at hlen
            rw [HPUT.out] at HEj
            clear HPUT
            have HP0 := Lib.hid hP0
            clear hP0
            have HP1 := Lib.hid hP1
            clear hP1
            have HP2 := Lib.hid hP2
            clear hP2
            have HP3 := Lib.hid hP3
            clear hP3
            obtain ⟨s1, s2, s3, s4, s5⟩ := HSMx.out
            clear HSMx
            unfold okI at s2 s3
            go_wp2_with fail
            clear c1
            refine (rputText_any Ab (p0.length + Ej.length) cb (p0 ++ Ej) (strOf x.name) wr hr (by omega) (by rw [strOf_size]; omega)).mono ?_
            rintro e z0 ⟨u0, rfl, ho, hb⟩
            replace ho := own_mono ho hbt.size
            clear hr
            rw [show Vi.putS (strOf x.name).data.toList = P0 from HP0.out.symm] at ho
            replace b0 := blk_below b0 hb
            replace x0 := (hb.cell (World.block_lt_of_cell? _ _ x0)).trans x0
            replace x1 := (hb.cell (World.block_lt_of_cell? _ _ x1)).trans x1
            replace x2 := (hb.cell (World.block_lt_of_cell? _ _ x2)).trans x2
            replace x3 := (hb.cell (World.block_lt_of_cell? _ _ x3)).trans x3
            replace r3 := (r3.below hb).more hb.size
            replace hbt := hbt.trans (hb.mono hbt.size)
            clear hb
            obtain ⟨B0, d0, rfl, hr0⟩ := own_rdB ho
            clear ho
            have c1 := blk_cell (j := 1) b0
            simp only [List.getElem?_toArray, List.getElem?_cons_zero, List.getElem?_cons_succ] at c1
            rw [HAD.out] at c1
            go_wp2_with fail
            clear c1
            refine (rputInt_any B0 (p0.length + Ej.length + P0.length) d0 ((p0 ++ Ej) ++ P0) x.house z0 hr0 (by omega) (by omega)).mono ?_
            rintro e z1 ⟨u1, rfl, ho, hb⟩
            replace ho := own_mono ho hbt.size
            clear hr0
            rw [← HP1.out] at ho
            replace b0 := blk_below b0 hb
            replace x0 := (hb.cell (World.block_lt_of_cell? _ _ x0)).trans x0
            replace x1 := (hb.cell (World.block_lt_of_cell? _ _ x1)).trans x1
            replace x2 := (hb.cell (World.block_lt_of_cell? _ _ x2)).trans x2
            replace x3 := (hb.cell (World.block_lt_of_cell? _ _ x3)).trans x3
            replace r3 := (r3.below hb).more hb.size
            replace hbt := hbt.trans (hb.mono hbt.size)
            clear hb
            obtain ⟨B1, d1, rfl, hr1⟩ := own_rdB ho
            clear ho
            have c1 := blk_cell (j := 1) b0
            simp only [List.getElem?_toArray, List.getElem?_cons_zero, List.getElem?_cons_succ] at c1
            rw [HAD.out] at c1
            go_wp2_with fail
            clear c1
            refine (rputInt_any B1 (p0.length + Ej.length + P0.length + P1.length) d1 (((p0 ++ Ej) ++ P0) ++ P1) x.seats z1 hr1 (by omega) (by omega)).mono ?_
            rintro e z2 ⟨u2, rfl, ho, hb⟩
            replace ho := own_mono ho hbt.size
            clear hr1
            rw [← HP2.out] at ho
            replace b0 := blk_below b0 hb
            replace x0 := (hb.cell (World.block_lt_of_cell? _ _ x0)).trans x0
            replace x1 := (hb.cell (World.block_lt_of_cell? _ _ x1)).trans x1
            replace x2 := (hb.cell (World.block_lt_of_cell? _ _ x2)).trans x2
            replace x3 := (hb.cell (World.block_lt_of_cell? _ _ x3)).trans x3
            replace r3 := (r3.below hb).more hb.size
            replace hbt := hbt.trans (hb.mono hbt.size)
            clear hb
            obtain ⟨B2, d2, rfl, hr2⟩ := own_rdB ho
            clear ho
            have c1 := blk_cell (j := 1) b0
            simp only [List.getElem?_toArray, List.getElem?_cons_zero, List.getElem?_cons_succ] at c1
            rw [HAD.out] at c1
            go_wp2_with fail
            clear c1
            refine (rputInts_any B2 (p0.length + Ej.length + P0.length + P1.length + P2.length) d2 ((((p0 ++ Ej) ++ P0) ++ P1) ++ P2) A3 _ c3 x.shut z2 hr2 r3 (by omega) (by omega)).mono ?_
            rintro e z3 ⟨u3, rfl, ho, hb⟩
            replace ho := own_mono ho hbt.size
            clear hr2
            rw [← HP3.out] at ho
            replace b0 := blk_below b0 hb
            replace x0 := (hb.cell (World.block_lt_of_cell? _ _ x0)).trans x0
            replace x1 := (hb.cell (World.block_lt_of_cell? _ _ x1)).trans x1
            replace x2 := (hb.cell (World.block_lt_of_cell? _ _ x2)).trans x2
            replace x3 := (hb.cell (World.block_lt_of_cell? _ _ x3)).trans x3
            replace r3 := (r3.below hb).more hb.size
            replace hbt := hbt.trans (hb.mono hbt.size)
            clear hb
            replace ho : z3.ownsRow w.heap.size 5 1 u3 (p0.length + (E1 (j + 1)).length) (bv (p0 ++ E1 (j + 1))) := by
              rw [HEj.out]
              simpa [Nat.add_assoc, List.append_assoc] using ho
            go_wp2_with fail
            go_roundw
            case rel => exact ⟨j + 1, _, by omega, by go_num, rfl, ho, b0, hbt⟩
            case measure => simp [intOf]; omega
          · obtain rfl : j = f.nR := by omega
            have d1 : decide ((f.nR : Int) < (f.nR : Int)) = false := by simp
            obtain ⟨p1, hp1⟩ : ∃ p, p = E1 f.nR := ⟨_, rfl⟩
            rw [← hp1] at ho
            have l1 := HEB1.out f.nR
            rw [← hp1] at l1
            have HQ1 : Hid (p1 = Sc.putA Sc.putRoo s.rooms) := hp1.trans HEN1.out
            clear hp1
            obtain ⟨Ab, cb, rfl, hr10⟩ := own_rdB ho
            clear ho
            obtain ⟨E2, hE2⟩ : ∃ E : Nat → List UInt8, E = fun j => Vi.putI (f.nP : Int) ++ (s.people.take j).flatMap Sc.putPer := ⟨_, rfl⟩
            have HEB2 : Hid (∀ j, (E2 j).length ≤ 160010) := fun j => by
              rw [hE2]
              have h1 := putI_len (n := (f.nP : Int)) (by omega)
              have h2 := Sc.flat_bd (p := Sc.putPer) (l := s.people.take j) (fun x hx => Sc.lenPer (HSM.out.people x (List.mem_of_mem_take hx)))
              have h3 : (s.people.take j).length ≤ 80 := by rw [List.length_take, HLN.out.2.2.1]; omega
              dsimp only
              rw [List.length_append]; omega
            have HE02 : Hid (E2 0 = Vi.putI (f.nP : Int)) := by show _ = _; rw [hE2]; simp
            have HES2 : Hid (∀ j (hj : j < s.people.length), E2 (j + 1) = E2 j ++ Sc.putPer s.people[j]) := fun j hj => by rw [hE2]; dsimp only; rw [Sc.flat_snoc hj, List.append_assoc]
            have HEN2 : Hid (E2 f.nP = Sc.putA Sc.putPer s.people) := by show _ = _; rw [hE2]; dsimp only; rw [List.take_of_length_le (by rw [HLN.out.2.2.1]; omega)]; unfold Sc.putA; rw [HLN.out.2.2.1]
            clear hE2
            have c2 := blk_cell (j := 2) b0
            simp only [List.getElem?_toArray, List.getElem?_cons_zero, List.getElem?_cons_succ] at c2
            go_wp2_with fail
            clear c2 c1 d1
            refine (rputInt_any Ab (p0.length + p1.length) cb (p0 ++ p1) (f.nP : Int) wr hr10 (by omega) (by omega)).mono ?_
            rintro e y2 ⟨v2, rfl, ho, hb⟩
            replace ho := own_mono ho hbt.size
            replace b0 := blk_below b0 hb
            replace hbt := hbt.trans (hb.mono hbt.size)
            clear hb
            rw [← HE02.out] at ho
            clear hr10
            have c2 := blk_cell (j := 2) b0
            simp only [List.getElem?_toArray, List.getElem?_cons_zero, List.getElem?_cons_succ] at c2
            go_wp2_with fail
            clear c2
            go_loopw [5, 8] (fun bvv iv wr => ∃ (j : Nat) (v : Value), j ≤ f.nP ∧ iv = .int .i64 j ∧ bvv = v ∧ wr.ownsRow w.heap.size 5 1 v (p0.length + p1.length + (E2 j).length) (bv (p0 ++ p1 ++ E2 j)) ∧ wr.heap[w.heap.size]? = some (.cells #[.slice f.aS f.nS f.cS, .slice f.aR f.nR f.cR, .slice f.aP f.nP f.cP, .slice f.aG f.nG f.cG, .slice f.aL f.nL f.cL] 28) ∧ Below w.heap.size w wr) (fun _ iv _ => f.nP - (intOf iv).toNat)
            case atStart => exact ⟨0, v2, by omega, rfl, rfl, ho, b0, hbt⟩
            case round =>
              clear ho b0 hbt
              obtain ⟨j, v, hj, rfl, rfl, ho, b0, hbt⟩ := hrel
              have c2 := blk_cell (j := 2) b0
              simp only [List.getElem?_toArray, List.getElem?_cons_zero, List.getElem?_cons_succ] at c2
              by_cases hjn : j < f.nP
              · have d1 : decide ((j : Int) < (f.nP : Int)) = true := by simp; omega
                have d2 : decide (j < f.nP) = true := by simp; omega
                have hjl : j < s.people.length := by rw [HLN.out.2.2.1]; exact hjn
                have HEj := Lib.hid (HES2.out j hjl)
                have hsm := HSM.out.people _ (List.getElem_mem hjl)
                have HSMx := Lib.hid hsm
                clear hsm
                have hEb := HEB2.out j
                obtain ⟨Ab, cb, rfl, hr⟩ := own_rdB ho
                clear ho
                obtain ⟨ad, r, hA, hab, hr1, hR, hc⟩ := RdS.at_ (by omega) (h0.people.below Sc.lasts_Per hbt) hjn hjl
                obtain ⟨A1, c1, rfl, r1, _⟩ := hR
                clear hr1
                have HAD := Lib.hid hA
                clear hA
                have x0 := hc 0 _ rfl
                have x1 := hc 1 _ rfl
                rw [Nat.add_zero] at x0
                replace x1 := cell_sub x1
                clear hc
                generalize s.people[j] = x at *
                generalize E2 j = Ej at *
                rw [HAD.out] at c2
                replace r1 := r1.more hbt.size
                obtain ⟨P0, hP0⟩ : ∃ P, P = Vi.putS x.name := ⟨_, rfl⟩
                obtain ⟨P1, hP1⟩ : ∃ P, P = Vi.putL x.away := ⟨_, rfl⟩
                have HPUT : Hid (Sc.putPer x = P0 ++ P1) := by show _ = _; rw [hP0, hP1]; rfl
                have hlen := Sc.lenPer HSMx.out
                rw [HPUT.out] at hlen
                simp only [List.length_append] at hlen
                rw [HPUT.out] at HEj
                clear HPUT
                have HP0 := Lib.hid hP0
                clear hP0
                have HP1 := Lib.hid hP1
                clear hP1
                obtain ⟨s1, s4, s5⟩ := HSMx.out
                clear HSMx
                go_wp2_with fail
                clear c2
                refine (rputText_any Ab (p0.length + p1.length + Ej.length) cb (p0 ++ p1 ++ Ej) (strOf x.name) wr hr (by omega) (by rw [strOf_size]; omega)).mono ?_
                rintro e z0 ⟨u0, rfl, ho, hb⟩
                replace ho := own_mono ho hbt.size
                clear hr
                rw [show Vi.putS (strOf x.name).data.toList = P0 from HP0.out.symm] at ho
                replace b0 := blk_below b0 hb
                replace x0 := (hb.cell (World.block_lt_of_cell? _ _ x0)).trans x0
                replace x1 := (hb.cell (World.block_lt_of_cell? _ _ x1)).trans x1
                replace r1 := (r1.below hb).more hb.size
                replace hbt := hbt.trans (hb.mono hbt.size)
                clear hb
                obtain ⟨B0, d0, rfl, hr0⟩ := own_rdB ho
                clear ho
                have c2 := blk_cell (j := 2) b0
                simp only [List.getElem?_toArray, List.getElem?_cons_zero, List.getElem?_cons_succ] at c2
                rw [HAD.out] at c2
                go_wp2_with fail
                clear c2
                refine (rputInts_any B0 (p0.length + p1.length + Ej.length + P0.length) d0 ((p0 ++ p1 ++ Ej) ++ P0) A1 _ c1 x.away z0 hr0 r1 (by omega) (by omega)).mono ?_
                rintro e z1 ⟨u1, rfl, ho, hb⟩
                replace ho := own_mono ho hbt.size
                clear hr0
                rw [← HP1.out] at ho
                replace b0 := blk_below b0 hb
                replace x0 := (hb.cell (World.block_lt_of_cell? _ _ x0)).trans x0
                replace x1 := (hb.cell (World.block_lt_of_cell? _ _ x1)).trans x1
                replace r1 := (r1.below hb).more hb.size
                replace hbt := hbt.trans (hb.mono hbt.size)
                clear hb
                replace ho : z1.ownsRow w.heap.size 5 1 u1 (p0.length + p1.length + (E2 (j + 1)).length) (bv (p0 ++ p1 ++ E2 (j + 1))) := by
                  rw [HEj.out]
                  simpa [Nat.add_assoc, List.append_assoc] using ho
                go_wp2_with fail
                go_roundw
                case rel => exact ⟨j + 1, _, by omega, by go_num, rfl, ho, b0, hbt⟩
                case measure => simp [intOf]; omega
              · obtain rfl : j = f.nP := by omega
                have d1 : decide ((f.nP : Int) < (f.nP : Int)) = false := by simp
                obtain ⟨p2, hp2⟩ : ∃ p, p = E2 f.nP := ⟨_, rfl⟩
                rw [← hp2] at ho
                have l2 := HEB2.out f.nP
                rw [← hp2] at l2
                have HQ2 : Hid (p2 = Sc.putA Sc.putPer s.people) := hp2.trans HEN2.out
                clear hp2
                obtain ⟨Ab, cb, rfl, hr20⟩ := own_rdB ho
                clear ho
                obtain ⟨E3, hE3⟩ : ∃ E : Nat → List UInt8, E = fun j => Vi.putI (f.nG : Int) ++ (s.groups.take j).flatMap Sc.putGro := ⟨_, rfl⟩
                have HEB3 : Hid (∀ j, (E3 j).length ≤ 160010) := fun j => by
                  rw [hE3]
                  have h1 := putI_len (n := (f.nG : Int)) (by omega)
                  have h2 := Sc.flat_bd (p := Sc.putGro) (l := s.groups.take j) (fun x hx => Sc.lenGro (HSM.out.groups x (List.mem_of_mem_take hx)))
                  have h3 : (s.groups.take j).length ≤ 80 := by rw [List.length_take, HLN.out.2.2.2.1]; omega
                  dsimp only
                  rw [List.length_append]; omega
                have HE03 : Hid (E3 0 = Vi.putI (f.nG : Int)) := by show _ = _; rw [hE3]; simp
                have HES3 : Hid (∀ j (hj : j < s.groups.length), E3 (j + 1) = E3 j ++ Sc.putGro s.groups[j]) := fun j hj => by rw [hE3]; dsimp only; rw [Sc.flat_snoc hj, List.append_assoc]
                have HEN3 : Hid (E3 f.nG = Sc.putA Sc.putGro s.groups) := by show _ = _; rw [hE3]; dsimp only; rw [List.take_of_length_le (by rw [HLN.out.2.2.2.1]; omega)]; unfold Sc.putA; rw [HLN.out.2.2.2.1]
                clear hE3
                have c3 := blk_cell (j := 3) b0
                simp only [List.getElem?_toArray, List.getElem?_cons_zero, List.getElem?_cons_succ] at c3
                go_wp2_with fail
                clear c3 c2 d1
                refine (rputInt_any Ab (p0.length + p1.length + p2.length) cb (p0 ++ p1 ++ p2) (f.nG : Int) wr hr20 (by omega) (by omega)).mono ?_
                rintro e y3 ⟨v3, rfl, ho, hb⟩
                replace ho := own_mono ho hbt.size
                replace b0 := blk_below b0 hb
                replace hbt := hbt.trans (hb.mono hbt.size)
                clear hb
                rw [← HE03.out] at ho
                clear hr20
                have c3 := blk_cell (j := 3) b0
                simp only [List.getElem?_toArray, List.getElem?_cons_zero, List.getElem?_cons_succ] at c3
                go_wp2_with fail
                clear c3
                go_loopw [5, 9] (fun bvv iv wr => ∃ (j : Nat) (v : Value), j ≤ f.nG ∧ iv = .int .i64 j ∧ bvv = v ∧ wr.ownsRow w.heap.size 5 1 v (p0.length + p1.length + p2.length + (E3 j).length) (bv (p0 ++ p1 ++ p2 ++ E3 j)) ∧ wr.heap[w.heap.size]? = some (.cells #[.slice f.aS f.nS f.cS, .slice f.aR f.nR f.cR, .slice f.aP f.nP f.cP, .slice f.aG f.nG f.cG, .slice f.aL f.nL f.cL] 28) ∧ Below w.heap.size w wr) (fun _ iv _ => f.nG - (intOf iv).toNat)
                case atStart => exact ⟨0, v3, by omega, rfl, rfl, ho, b0, hbt⟩
                case round =>
                  clear ho b0 hbt
                  obtain ⟨j, v, hj, rfl, rfl, ho, b0, hbt⟩ := hrel
                  have c3 := blk_cell (j := 3) b0
                  simp only [List.getElem?_toArray, List.getElem?_cons_zero, List.getElem?_cons_succ] at c3
                  by_cases hjn : j < f.nG
                  · have d1 : decide ((j : Int) < (f.nG : Int)) = true := by simp; omega
                    have d2 : decide (j < f.nG) = true := by simp; omega
                    have hjl : j < s.groups.length := by rw [HLN.out.2.2.2.1]; exact hjn
                    have HEj := Lib.hid (HES3.out j hjl)
                    have hsm := HSM.out.groups _ (List.getElem_mem hjl)
                    have HSMx := Lib.hid hsm
                    clear hsm
                    have hEb := HEB3.out j
                    obtain ⟨Ab, cb, rfl, hr⟩ := own_rdB ho
                    clear ho
                    obtain ⟨ad, r, hA, hab, hr1, hR, hc⟩ := RdS.at_ (by omega) (h0.groups.below Sc.lasts_Gro hbt) hjn hjl
                    obtain ⟨rfl, _, _⟩ := hR
                    clear hr1
                    have HAD := Lib.hid hA
                    clear hA
                    have x0 := hc 0 _ rfl
                    have x1 := hc 1 _ rfl
                    rw [Nat.add_zero] at x0
                    replace x1 := cell_sub x1
                    clear hc
                    generalize s.groups[j] = x at *
                    generalize E3 j = Ej at *
                    rw [HAD.out] at c3
                    obtain ⟨P0, hP0⟩ : ∃ P, P = Vi.putS x.name := ⟨_, rfl⟩
                    obtain ⟨P1, hP1⟩ : ∃ P, P = Vi.putI x.size := ⟨_, rfl⟩
                    have HPUT : Hid (Sc.putGro x = P0 ++ P1) := by show _ = _; rw [hP0, hP1]; rfl
                    have hlen := Sc.lenGro HSMx.out
                    rw [HPUT.out] at hlen
                    simp only [List.length_append] at hlen
                    rw [HPUT.out] at HEj
                    clear HPUT
                    have HP0 := Lib.hid hP0
                    clear hP0
                    have HP1 := Lib.hid hP1
                    clear hP1
                    obtain ⟨s1, s2⟩ := HSMx.out
                    clear HSMx
                    unfold okI at s2
                    go_wp2_with fail
                    clear c3
                    refine (rputText_any Ab (p0.length + p1.length + p2.length + Ej.length) cb (p0 ++ p1 ++ p2 ++ Ej) (strOf x.name) wr hr (by omega) (by rw [strOf_size]; omega)).mono ?_
                    rintro e z0 ⟨u0, rfl, ho, hb⟩
                    replace ho := own_mono ho hbt.size
                    clear hr
                    rw [show Vi.putS (strOf x.name).data.toList = P0 from HP0.out.symm] at ho
                    replace b0 := blk_below b0 hb
                    replace x0 := (hb.cell (World.block_lt_of_cell? _ _ x0)).trans x0
                    replace x1 := (hb.cell (World.block_lt_of_cell? _ _ x1)).trans x1
                    replace hbt := hbt.trans (hb.mono hbt.size)
                    clear hb
                    obtain ⟨B0, d0, rfl, hr0⟩ := own_rdB ho
                    clear ho
                    have c3 := blk_cell (j := 3) b0
                    simp only [List.getElem?_toArray, List.getElem?_cons_zero, List.getElem?_cons_succ] at c3
                    rw [HAD.out] at c3
                    go_wp2_with fail
                    clear c3
                    refine (rputInt_any B0 (p0.length + p1.length + p2.length + Ej.length + P0.length) d0 ((p0 ++ p1 ++ p2 ++ Ej) ++ P0) x.size z0 hr0 (by omega) (by omega)).mono ?_
                    rintro e z1 ⟨u1, rfl, ho, hb⟩
                    replace ho := own_mono ho hbt.size
                    clear hr0
                    rw [← HP1.out] at ho
                    replace b0 := blk_below b0 hb
                    replace x0 := (hb.cell (World.block_lt_of_cell? _ _ x0)).trans x0
                    replace x1 := (hb.cell (World.block_lt_of_cell? _ _ x1)).trans x1
                    replace hbt := hbt.trans (hb.mono hbt.size)
                    clear hb
                    replace ho : z1.ownsRow w.heap.size 5 1 u1 (p0.length + p1.length + p2.length + (E3 (j + 1)).length) (bv (p0 ++ p1 ++ p2 ++ E3 (j + 1))) := by
                      rw [HEj.out]
                      simpa [Nat.add_assoc, List.append_assoc] using ho
                    go_wp2_with fail
                    go_roundw
                    case rel => exact ⟨j + 1, _, by omega, by go_num, rfl, ho, b0, hbt⟩
                    case measure => simp [intOf]; omega
                  · obtain rfl : j = f.nG := by omega
                    have d1 : decide ((f.nG : Int) < (f.nG : Int)) = false := by simp
                    obtain ⟨p3, hp3⟩ : ∃ p, p = E3 f.nG := ⟨_, rfl⟩
                    rw [← hp3] at ho
                    have l3 := HEB3.out f.nG
                    rw [← hp3] at l3
                    have HQ3 : Hid (p3 = Sc.putA Sc.putGro s.groups) := hp3.trans HEN3.out
                    clear hp3
                    obtain ⟨Ab, cb, rfl, hr30⟩ := own_rdB ho
                    clear ho
                    obtain ⟨E4, hE4⟩ : ∃ E : Nat → List UInt8, E = fun j => Vi.putI (f.nL : Int) ++ (s.lessons.take j).flatMap Sc.putLes := ⟨_, rfl⟩
                    have HEB4 : Hid (∀ j, (E4 j).length ≤ 160010) := fun j => by
                      rw [hE4]
                      have h1 := putI_len (n := (f.nL : Int)) (by omega)
                      have h2 := Sc.flat_bd (p := Sc.putLes) (l := s.lessons.take j) (fun x hx => Sc.lenLes (HSM.out.lessons x (List.mem_of_mem_take hx)))
                      have h3 : (s.lessons.take j).length ≤ 80 := by rw [List.length_take, HLN.out.2.2.2.2]; omega
                      dsimp only
                      rw [List.length_append]; omega
                    have HE04 : Hid (E4 0 = Vi.putI (f.nL : Int)) := by show _ = _; rw [hE4]; simp
                    have HES4 : Hid (∀ j (hj : j < s.lessons.length), E4 (j + 1) = E4 j ++ Sc.putLes s.lessons[j]) := fun j hj => by rw [hE4]; dsimp only; rw [Sc.flat_snoc hj, List.append_assoc]
                    have HEN4 : Hid (E4 f.nL = Sc.putA Sc.putLes s.lessons) := by show _ = _; rw [hE4]; dsimp only; rw [List.take_of_length_le (by rw [HLN.out.2.2.2.2]; omega)]; unfold Sc.putA; rw [HLN.out.2.2.2.2]
                    clear hE4
                    have c4 := blk_cell (j := 4) b0
                    simp only [List.getElem?_toArray, List.getElem?_cons_zero, List.getElem?_cons_succ] at c4
                    go_wp2_with fail
                    clear c4 c3 d1
                    refine (rputInt_any Ab (p0.length + p1.length + p2.length + p3.length) cb (p0 ++ p1 ++ p2 ++ p3) (f.nL : Int) wr hr30 (by omega) (by omega)).mono ?_
                    rintro e y4 ⟨v4, rfl, ho, hb⟩
                    replace ho := own_mono ho hbt.size
                    replace b0 := blk_below b0 hb
                    replace hbt := hbt.trans (hb.mono hbt.size)
                    clear hb
                    rw [← HE04.out] at ho
                    clear hr30
                    have c4 := blk_cell (j := 4) b0
                    simp only [List.getElem?_toArray, List.getElem?_cons_zero, List.getElem?_cons_succ] at c4
                    go_wp2_with fail
                    clear c4
                    go_loopw [5, 10] (fun bvv iv wr => ∃ (j : Nat) (v : Value), j ≤ f.nL ∧ iv = .int .i64 j ∧ bvv = v ∧ wr.ownsRow w.heap.size 5 1 v (p0.length + p1.length + p2.length + p3.length + (E4 j).length) (bv (p0 ++ p1 ++ p2 ++ p3 ++ E4 j)) ∧ wr.heap[w.heap.size]? = some (.cells #[.slice f.aS f.nS f.cS, .slice f.aR f.nR f.cR, .slice f.aP f.nP f.cP, .slice f.aG f.nG f.cG, .slice f.aL f.nL f.cL] 28) ∧ Below w.heap.size w wr) (fun _ iv _ => f.nL - (intOf iv).toNat)
                    case atStart => exact ⟨0, v4, by omega, rfl, rfl, ho, b0, hbt⟩
                    case round =>
                      clear ho b0 hbt
                      obtain ⟨j, v, hj, rfl, rfl, ho, b0, hbt⟩ := hrel
                      have c4 := blk_cell (j := 4) b0
                      simp only [List.getElem?_toArray, List.getElem?_cons_zero, List.getElem?_cons_succ] at c4
                      by_cases hjn : j < f.nL
                      · have d1 : decide ((j : Int) < (f.nL : Int)) = true := by simp; omega
                        have d2 : decide (j < f.nL) = true := by simp; omega
                        have hjl : j < s.lessons.length := by rw [HLN.out.2.2.2.2]; exact hjn
                        have HEj := Lib.hid (HES4.out j hjl)
                        have hsm := HSM.out.lessons _ (List.getElem_mem hjl)
                        have HSMx := Lib.hid hsm
                        clear hsm
                        have hEb := HEB4.out j
                        obtain ⟨Ab, cb, rfl, hr⟩ := own_rdB ho
                        clear ho
                        obtain ⟨ad, r, hA, hab, hr1, hR, hc⟩ := RdS.at_ (by omega) (h0.lessons.below Sc.lasts_Les hbt) hjn hjl
                        obtain ⟨A1, c1, A2, c2, rfl, r1, r2, _⟩ := hR
                        clear hr1
                        have HAD := Lib.hid hA
                        clear hA
                        have x0 := hc 0 _ rfl
                        have x1 := hc 1 _ rfl
                        have x2 := hc 2 _ rfl
                        rw [Nat.add_zero] at x0
                        replace x1 := cell_sub x1
                        replace x2 := cell_sub x2
                        clear hc
                        generalize s.lessons[j] = x at *
                        generalize E4 j = Ej at *
                        rw [HAD.out] at c4
                        replace r1 := r1.more hbt.size
                        replace r2 := r2.more hbt.size
                        obtain ⟨P0, hP0⟩ : ∃ P, P = Vi.putS x.name := ⟨_, rfl⟩
                        obtain ⟨P1, hP1⟩ : ∃ P, P = Vi.putL x.who := ⟨_, rfl⟩
                        obtain ⟨P2, hP2⟩ : ∃ P, P = Vi.putL x.groups := ⟨_, rfl⟩
                        have HPUT : Hid (Sc.putLes x = P0 ++ P1 ++ P2) := by show _ = _; rw [hP0, hP1, hP2]; rfl
                        have hlen := Sc.lenLes HSMx.out
                        rw [HPUT.out] at hlen
                        simp only [List.length_append] at hlen
                        rw [HPUT.out] at HEj
                        clear HPUT
                        have HP0 := Lib.hid hP0
                        clear hP0
                        have HP1 := Lib.hid hP1
                        clear hP1
                        have HP2 := Lib.hid hP2
                        clear hP2
                        obtain ⟨s1, s4, s5, s6, s7⟩ := HSMx.out
                        clear HSMx
                        go_wp2_with fail
                        clear c4
                        refine (rputText_any Ab (p0.length + p1.length + p2.length + p3.length + Ej.length) cb (p0 ++ p1 ++ p2 ++ p3 ++ Ej) (strOf x.name) wr hr (by omega) (by rw [strOf_size]; omega)).mono ?_
                        rintro e z0 ⟨u0, rfl, ho, hb⟩
                        replace ho := own_mono ho hbt.size
                        clear hr
                        rw [show Vi.putS (strOf x.name).data.toList = P0 from HP0.out.symm] at ho
                        replace b0 := blk_below b0 hb
                        replace x0 := (hb.cell (World.block_lt_of_cell? _ _ x0)).trans x0
                        replace x1 := (hb.cell (World.block_lt_of_cell? _ _ x1)).trans x1
                        replace x2 := (hb.cell (World.block_lt_of_cell? _ _ x2)).trans x2
                        replace r1 := (r1.below hb).more hb.size
                        replace r2 := (r2.below hb).more hb.size
                        replace hbt := hbt.trans (hb.mono hbt.size)
                        clear hb
                        obtain ⟨B0, d0, rfl, hr0⟩ := own_rdB ho
                        clear ho
                        have c4 := blk_cell (j := 4) b0
                        simp only [List.getElem?_toArray, List.getElem?_cons_zero, List.getElem?_cons_succ] at c4
                        rw [HAD.out] at c4
                        go_wp2_with fail
                        clear c4
                        refine (rputInts_any B0 (p0.length + p1.length + p2.length + p3.length + Ej.length + P0.length) d0 ((p0 ++ p1 ++ p2 ++ p3 ++ Ej) ++ P0) A1 _ c1 x.who z0 hr0 r1 (by omega) (by omega)).mono ?_
                        rintro e z1 ⟨u1, rfl, ho, hb⟩
                        replace ho := own_mono ho hbt.size
                        clear hr0
                        rw [← HP1.out] at ho
                        replace b0 := blk_below b0 hb
                        replace x0 := (hb.cell (World.block_lt_of_cell? _ _ x0)).trans x0
                        replace x1 := (hb.cell (World.block_lt_of_cell? _ _ x1)).trans x1
                        replace x2 := (hb.cell (World.block_lt_of_cell? _ _ x2)).trans x2
                        replace r1 := (r1.below hb).more hb.size
                        replace r2 := (r2.below hb).more hb.size
                        replace hbt := hbt.trans (hb.mono hbt.size)
                        clear hb
                        obtain ⟨B1, d1, rfl, hr1⟩ := own_rdB ho
                        clear ho
                        have c4 := blk_cell (j := 4) b0
                        simp only [List.getElem?_toArray, List.getElem?_cons_zero, List.getElem?_cons_succ] at c4
                        rw [HAD.out] at c4
                        go_wp2_with fail
                        clear c4
                        refine (rputInts_any B1 (p0.length + p1.length + p2.length + p3.length + Ej.length + P0.length + P1.length) d1 (((p0 ++ p1 ++ p2 ++ p3 ++ Ej) ++ P0) ++ P1) A2 _ c2 x.groups z1 hr1 r2 (by omega) (by omega)).mono ?_
                        rintro e z2 ⟨u2, rfl, ho, hb⟩
                        replace ho := own_mono ho hbt.size
                        clear hr1
                        rw [← HP2.out] at ho
                        replace b0 := blk_below b0 hb
                        replace x0 := (hb.cell (World.block_lt_of_cell? _ _ x0)).trans x0
                        replace x1 := (hb.cell (World.block_lt_of_cell? _ _ x1)).trans x1
                        replace x2 := (hb.cell (World.block_lt_of_cell? _ _ x2)).trans x2
                        replace r1 := (r1.below hb).more hb.size
                        replace r2 := (r2.below hb).more hb.size
                        replace hbt := hbt.trans (hb.mono hbt.size)
                        clear hb
                        replace ho : z2.ownsRow w.heap.size 5 1 u2 (p0.length + p1.length + p2.length + p3.length + (E4 (j + 1)).length) (bv (p0 ++ p1 ++ p2 ++ p3 ++ E4 (j + 1))) := by
                          rw [HEj.out]
                          simpa [Nat.add_assoc, List.append_assoc] using ho
                        go_wp2_with fail
                        go_roundw
                        case rel => exact ⟨j + 1, _, by omega, by go_num, rfl, ho, b0, hbt⟩
                        case measure => simp [intOf]; omega
                      · obtain rfl : j = f.nL := by omega
                        have d1 : decide ((f.nL : Int) < (f.nL : Int)) = false := by simp
                        obtain ⟨p4, hp4⟩ : ∃ p, p = E4 f.nL := ⟨_, rfl⟩
                        rw [← hp4] at ho
                        have l4 := HEB4.out f.nL
                        rw [← hp4] at l4
                        have HQ4 : Hid (p4 = Sc.putA Sc.putLes s.lessons) := hp4.trans HEN4.out
                        clear hp4
                        have HB : Hid (Sc.putB s = p0 ++ p1 ++ p2 ++ p3 ++ p4) := by show _ = _; unfold Sc.putB; rw [HQ0.out, HQ1.out, HQ2.out, HQ3.out, HQ4.out]
                        obtain ⟨Ab, cb, rfl, _⟩ := own_rdB ho
                        have hfin : wr.ownsRow w.heap.size 5 1 (.slice Ab (p0.length + p1.length + p2.length + p3.length + p4.length) cb) (Sc.putB s).length (bv (Sc.putB s)) := by
                          rw [HB.out]
                          simpa [Nat.add_assoc, List.append_assoc] using ho
                        clear ho
                        generalize p0.length + p1.length + p2.length + p3.length + p4.length = N4 at *
                        have HFIN := Lib.hid hfin
                        clear hfin
                        go_wp2_with fail
                        go_ret2
                        rw [HC.out]
                        exact ⟨.slice Ab N4 cb, rfl, HFIN.out, hbt⟩

end Go.Proofs.YtfockoihmoljfaaGreatDoor
