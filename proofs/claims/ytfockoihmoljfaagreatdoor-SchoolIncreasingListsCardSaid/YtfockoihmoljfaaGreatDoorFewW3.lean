/-
  The walk of the reference's Few.
-/
import Derived.Test.YtfockoihmoljfaaGreatDoorLotR
import Derived.BigQuiet
import Derived.Deep.CutBlock
import Derived.Deep.DeepCutAuto
namespace Go.Proofs.YtfockoihmoljfaaGreatDoor
open Go.RowKit Go.Shelf
set_option linter.unusedVariables false
set_option linter.unusedSimpArgs false

/-- What Few tells. -/
def FewPost (f : Sc.Five) (w : World) (e : Ending) (w' : World) : Prop := ∃ b, e = .returned (.bool b) ∧ (b = true → f.nS ≤ 80 ∧ f.nR ≤ 80 ∧ f.nP ≤ 80 ∧ f.nG ≤ 80 ∧ f.nL ≤ 80) ∧ Below w.heap.size w w'

set_option maxRecDepth 100000 in
set_option maxHeartbeats 8000000 in
theorem rFew3_any (f : Sc.Five) (s : Sc.Sch) (w : World) (h : Sc.RdSch w w.heap.size f s) (hb : f.nS ≤ 5864062014805 ∧ f.nR ≤ 5864062014805 ∧ f.nP ≤ 5864062014805 ∧ f.nG ≤ 5864062014805 ∧ f.nL ≤ 5864062014805) :
    Calls Tryz.prog 11 #[.agg f.vals] w (FewPost f w) := by
  have h0 := h
  have HLN := Lib.hid (show s.slots.length = f.nS ∧ s.rooms.length = f.nR ∧ s.people.length = f.nP ∧ s.groups.length = f.nG ∧ s.lessons.length = f.nL from ⟨h.slots.len (by omega), h.rooms.len (by omega), h.people.len (by omega), h.groups.len (by omega), h.lessons.len (by omega)⟩)
  have hbt := Below.refl w.heap.size w
  have HSZ := Lib.hid hb
  clear hb
  have mS : f.nS ≤ f.cS ∧ f.cS ≤ 9223372036854775807 := ⟨h.slots.le, h.slots.max⟩
  have mR : f.nR ≤ f.cR ∧ f.cR ≤ 9223372036854775807 := ⟨h.rooms.le, h.rooms.max⟩
  have mP : f.nP ≤ f.cP ∧ f.cP ≤ 9223372036854775807 := ⟨h.people.le, h.people.max⟩
  have mG : f.nG ≤ f.cG ∧ f.cG ≤ 9223372036854775807 := ⟨h.groups.le, h.groups.max⟩
  have mL : f.nL ≤ f.cL ∧ f.cL ≤ 9223372036854775807 := ⟨h.lessons.le, h.lessons.max⟩
  obtain ⟨V1, hV⟩ : ∃ V1, V1 = w.alloc (.cells #[.slice f.aS f.nS f.cS, .slice f.aR f.nR f.cR, .slice f.aP f.nP f.cP, .slice f.aG f.nG f.cG, .slice f.aL f.nL f.cL] 28) := ⟨_, rfl⟩
  have b0 := blk_new hV
  have hb := below_new hV
  replace hbt := hbt.trans (hb.mono hbt.size)
  clear hb
  have HSV1 : Hid (V1.heap.size = w.heap.size + 1) := by show V1.heap.size = _; rw [hV, World.size_alloc]
  have HVV1 := Lib.hid hV.symm
  clear hV
  clear HSV1 h
  unfold Sc.Five.vals
  go_enter Tryz.func11, Tryz.ntmps11
  go_upto_block 0 with fail
  rw [HVV1.out]
  clear HVV1
  go_cut [3] (fun v wr => ∃ z : Int, v = .int .i64 z ∧ wr.heap[w.heap.size]? = some (.cells #[.slice f.aS f.nS f.cS, .slice f.aR f.nR f.cR, .slice f.aP f.nP f.cP, .slice f.aG f.nG f.cG, .slice f.aL f.nL f.cL] 28) ∧ Below w.heap.size w wr)
  case first =>
    go_wp2_with fail
    go_loopw [3, 4] (fun v iv wr => ∃ (j : Nat) (z : Int), j ≤ f.nR ∧ iv = .int .i64 j ∧ v = .int .i64 z ∧ wr.heap[w.heap.size]? = some (.cells #[.slice f.aS f.nS f.cS, .slice f.aR f.nR f.cR, .slice f.aP f.nP f.cP, .slice f.aG f.nG f.cG, .slice f.aL f.nL f.cL] 28) ∧ Below w.heap.size w wr) (fun _ iv _ => f.nR - (intOf iv).toNat)
    case atStart => exact ⟨0, _, by omega, rfl, rfl, b0, hbt⟩
    case round =>
      clear b0 hbt
      obtain ⟨j, z, hj, rfl, rfl, b0, hbt⟩ := hrel
      have c1 := blk_cell (j := 1) b0
      simp only [List.getElem?_toArray, List.getElem?_cons_zero, List.getElem?_cons_succ] at c1
      by_cases hjn : j < f.nR
      · have d1 : decide ((j : Int) < (f.nR : Int)) = true := by simp; omega
        have d2 : decide (j < f.nR) = true := by simp; omega
        by_cases h80 : j < 80
        · have d3 : decide ((j : Int) < 80) = true := by simp; omega
          have hjl : j < s.rooms.length := by rw [HLN.out.2.1]; exact hjn
          obtain ⟨ad, r, hA, hab, hr1, hR, hcell⟩ := ((h0.below hbt).rooms).at_ (by omega) hjn hjl
          rw [hA] at c1
          obtain ⟨A0, c0', rfl, hI0, _⟩ := hR
          have x0 := cell_sub (j := 2) (hcell 3 (.slice A0 s.rooms[j].shut.length c0') rfl)
          have y0 : s.rooms[j].shut.length ≤ c0' ∧ c0' ≤ 9223372036854775807 := ⟨hI0.le, hI0.max⟩
          clear hcell hA hI0
          generalize s.rooms[j] = x at *
          go_wp2_with fail
          go_roundw
          case rel => exact ⟨j + 1, _, by omega, by go_num, rfl, b0, hbt⟩
          case measure => simp [intOf]; omega
        · have d3 : decide ((j : Int) < 80) = false := by simp; omega
          go_wp2_with fail
          go_meet
          exact ⟨_, rfl, b0, hbt⟩
      · obtain rfl : j = f.nR := by omega
        have d1 : decide ((f.nR : Int) < (f.nR : Int)) = false := by simp
        go_wp2_with fail
        go_meet
        exact ⟨_, rfl, b0, hbt⟩
  case rest =>
    clear b0 hbt
    obtain ⟨z, rfl, b0, hbt⟩ := hcut
    go_upto_block 2 with fail
    go_cut [3] (fun v wr => ∃ z : Int, v = .int .i64 z ∧ wr.heap[w.heap.size]? = some (.cells #[.slice f.aS f.nS f.cS, .slice f.aR f.nR f.cR, .slice f.aP f.nP f.cP, .slice f.aG f.nG f.cG, .slice f.aL f.nL f.cL] 28) ∧ Below w.heap.size w wr)
    case first =>
      go_wp2_with fail
      go_loopw [3, 5] (fun v iv wr => ∃ (j : Nat) (z : Int), j ≤ f.nP ∧ iv = .int .i64 j ∧ v = .int .i64 z ∧ wr.heap[w.heap.size]? = some (.cells #[.slice f.aS f.nS f.cS, .slice f.aR f.nR f.cR, .slice f.aP f.nP f.cP, .slice f.aG f.nG f.cG, .slice f.aL f.nL f.cL] 28) ∧ Below w.heap.size w wr) (fun _ iv _ => f.nP - (intOf iv).toNat)
      case atStart => exact ⟨0, _, by omega, rfl, rfl, b0, hbt⟩
      case round =>
        clear b0 hbt
        obtain ⟨j, z, hj, rfl, rfl, b0, hbt⟩ := hrel
        have c2 := blk_cell (j := 2) b0
        simp only [List.getElem?_toArray, List.getElem?_cons_zero, List.getElem?_cons_succ] at c2
        by_cases hjn : j < f.nP
        · have d1 : decide ((j : Int) < (f.nP : Int)) = true := by simp; omega
          have d2 : decide (j < f.nP) = true := by simp; omega
          by_cases h80 : j < 80
          · have d3 : decide ((j : Int) < 80) = true := by simp; omega
            have hjl : j < s.people.length := by rw [HLN.out.2.2.1]; exact hjn
            obtain ⟨ad, r, hA, hab, hr1, hR, hcell⟩ := ((h0.below hbt).people).at_ (by omega) hjn hjl
            rw [hA] at c2
            obtain ⟨A0, c0', rfl, hI0, _⟩ := hR
            have x0 := cell_sub (j := 0) (hcell 1 (.slice A0 s.people[j].away.length c0') rfl)
            have y0 : s.people[j].away.length ≤ c0' ∧ c0' ≤ 9223372036854775807 := ⟨hI0.le, hI0.max⟩
            clear hcell hA hI0
            generalize s.people[j] = x at *
            go_wp2_with fail
            go_roundw
            case rel => exact ⟨j + 1, _, by omega, by go_num, rfl, b0, hbt⟩
            case measure => simp [intOf]; omega
          · have d3 : decide ((j : Int) < 80) = false := by simp; omega
            go_wp2_with fail
            go_meet
            exact ⟨_, rfl, b0, hbt⟩
        · obtain rfl : j = f.nP := by omega
          have d1 : decide ((f.nP : Int) < (f.nP : Int)) = false := by simp
          go_wp2_with fail
          go_meet
          exact ⟨_, rfl, b0, hbt⟩
    case rest =>
      clear b0 hbt
      obtain ⟨z, rfl, b0, hbt⟩ := hcut
      go_upto_block 4 with fail
      go_cut [3] (fun v wr => ∃ z : Int, v = .int .i64 z ∧ wr.heap[w.heap.size]? = some (.cells #[.slice f.aS f.nS f.cS, .slice f.aR f.nR f.cR, .slice f.aP f.nP f.cP, .slice f.aG f.nG f.cG, .slice f.aL f.nL f.cL] 28) ∧ Below w.heap.size w wr)
      case first =>
        go_wp2_with fail
        go_loopw [3, 6] (fun v iv wr => ∃ (j : Nat) (z : Int), j ≤ f.nL ∧ iv = .int .i64 j ∧ v = .int .i64 z ∧ wr.heap[w.heap.size]? = some (.cells #[.slice f.aS f.nS f.cS, .slice f.aR f.nR f.cR, .slice f.aP f.nP f.cP, .slice f.aG f.nG f.cG, .slice f.aL f.nL f.cL] 28) ∧ Below w.heap.size w wr) (fun _ iv _ => f.nL - (intOf iv).toNat)
        case atStart => exact ⟨0, _, by omega, rfl, rfl, b0, hbt⟩
        case round =>
          clear b0 hbt
          obtain ⟨j, z, hj, rfl, rfl, b0, hbt⟩ := hrel
          have c4 := blk_cell (j := 4) b0
          simp only [List.getElem?_toArray, List.getElem?_cons_zero, List.getElem?_cons_succ] at c4
          by_cases hjn : j < f.nL
          · have d1 : decide ((j : Int) < (f.nL : Int)) = true := by simp; omega
            have d2 : decide (j < f.nL) = true := by simp; omega
            by_cases h80 : j < 80
            · have d3 : decide ((j : Int) < 80) = true := by simp; omega
              have hjl : j < s.lessons.length := by rw [HLN.out.2.2.2.2]; exact hjn
              obtain ⟨ad, r, hA, hab, hr1, hR, hcell⟩ := ((h0.below hbt).lessons).at_ (by omega) hjn hjl
              rw [hA] at c4
              obtain ⟨A0, c0', A1, c1', rfl, hI0, hI1, _⟩ := hR
              have x0 := cell_sub (j := 0) (hcell 1 (.slice A0 s.lessons[j].who.length c0') rfl)
              have y0 : s.lessons[j].who.length ≤ c0' ∧ c0' ≤ 9223372036854775807 := ⟨hI0.le, hI0.max⟩
              have x1 := cell_sub (j := 1) (hcell 2 (.slice A1 s.lessons[j].groups.length c1') rfl)
              have y1 : s.lessons[j].groups.length ≤ c1' ∧ c1' ≤ 9223372036854775807 := ⟨hI1.le, hI1.max⟩
              clear hcell hA hI0 hI1
              generalize s.lessons[j] = x at *
              go_wp2_with fail
              go_quiet (fail)
              replace b0 : (wr.drewN nq).heap[w.heap.size]? = _ := b0
              replace hbt := below_drewN' hbt nq
              go_wp2_with fail
              go_roundw
              case rel => exact ⟨j + 1, _, by omega, by go_num, rfl, b0, hbt⟩
              case measure => simp [intOf]; omega
            · have d3 : decide ((j : Int) < 80) = false := by simp; omega
              go_wp2_with fail
              go_meet
              exact ⟨_, rfl, b0, hbt⟩
          · obtain rfl : j = f.nL := by omega
            have d1 : decide ((f.nL : Int) < (f.nL : Int)) = false := by simp
            go_wp2_with fail
            go_meet
            exact ⟨_, rfl, b0, hbt⟩
      case rest =>
        clear b0 hbt
        obtain ⟨z, rfl, b0, hbt⟩ := hcut
        go_wp2_with fail
        go_loopw [3, 7] (fun v kv wr => ∃ (k : Nat) (z : Int), 1 ≤ k ∧ k ≤ 6 ∧ kv = .int .i64 k ∧ v = .int .i64 z ∧ (∀ q : Int, 1 ≤ q → q < k → (Sc.names s q).length ≤ 80) ∧ wr.heap[w.heap.size]? = some (.cells #[.slice f.aS f.nS f.cS, .slice f.aR f.nR f.cR, .slice f.aP f.nP f.cP, .slice f.aG f.nG f.cG, .slice f.aL f.nL f.cL] 28) ∧ Below w.heap.size w wr) (fun _ kv _ => 6 - (intOf kv).toNat)
        case atStart => exact ⟨1, _, by omega, by omega, rfl, rfl, fun q h1 h2 => by omega, b0, hbt⟩
        case round =>
          clear b0 hbt z
          obtain ⟨k, z, hk1, hk6, rfl, rfl, hall, b0, hbt⟩ := hrel
          have HALL := Lib.hid hall
          clear hall
          by_cases hk5 : k ≤ 5
          · have d1 : decide ((k : Int) ≤ 5) = true := by simp; omega
            have c0 := blk_cell (j := 0) b0
            have c1 := blk_cell (j := 1) b0
            have c2 := blk_cell (j := 2) b0
            have c3 := blk_cell (j := 3) b0
            have c4 := blk_cell (j := 4) b0
            simp only [List.getElem?_toArray, List.getElem?_cons_zero, List.getElem?_cons_succ] at c0 c1 c2 c3 c4
            go_wp2_with fail
            clear c0 c1 c2 c3 c4
            refine (rNames_any f s k wr ((h0.below hbt).more hbt.size) HSZ.out).mono ?_
            rintro e w2 ⟨v2, rfl, hown, hb⟩
            replace b0 := blk_below b0 hb
            replace hbt := hbt.trans (hb.mono hbt.size)
            clear hb
            obtain ⟨A2, c2, rfl, hT⟩ := own_rdT hown
            clear hown
            obtain ⟨N, hN⟩ : ∃ N, N = Sc.names s (k : Int) := ⟨_, rfl⟩
            rw [← hN] at hT ⊢
            have HNN := Lib.hid hN
            clear hN
            obtain ⟨n, hn⟩ : ∃ n, n = N.length := ⟨_, rfl⟩
            rw [← hn] at hT ⊢
            have HNL := Lib.hid hn
            clear hn
            have t1 := hT.max
            have t2 := hT.le
            go_wp2_with fail
            go_loopw [3, 9] (fun v iv wr => ∃ (j : Nat) (z : Int), j ≤ n ∧ iv = .int .i64 j ∧ v = .int .i64 z ∧ wr = w2) (fun _ iv _ => n - (intOf iv).toNat)
            case atStart => exact ⟨0, _, by omega, rfl, rfl, rfl⟩
            case round =>
              obtain ⟨j, z2, hj, rfl, rfl, rfl⟩ := hrel
              by_cases hjn : j < n
              · have d2 : decide ((j : Int) < (n : Int)) = true := by simp; omega
                have d3 : decide (j < n) = true := by simp; omega
                by_cases h80 : j < 80
                · have d4 : decide ((j : Int) < 80) = true := by simp; omega
                  obtain ⟨ad, rfl, _, x0⟩ := hT.at_ hjn (by rw [← HNL.out]; exact hjn)
                  generalize N[j]'(by rw [← HNL.out]; exact hjn) = x at *
                  go_wp2_with fail
                  go_roundw
                  case rel => exact ⟨j + 1, _, by omega, by go_num, rfl, trivial⟩
                  case measure => simp [intOf]; omega
                · have d4 : decide ((j : Int) < 80) = false := by simp; omega
                  by_cases hbig : 80 < n
                  · have d5 : decide (80 < n) = true := by simp; omega
                    have d6 : decide ((80 : Int) < (n : Int)) = true := by simp; omega
                    go_wp2_with fail
                    go_ret
                    exact ⟨_, rfl, (fun h => by cases h), hbt⟩
                  · have d5 : decide (80 < n) = false := by simp; omega
                    have d6 : decide ((80 : Int) < (n : Int)) = false := by simp; omega
                    have HA2 : Hid (∀ q : Int, 1 ≤ q → q < ((k + 1 : Nat) : Int) → (Sc.names s q).length ≤ 80) := fun q h1 h2 => by
                      by_cases hq : q < (k : Int)
                      · exact HALL.out q h1 hq
                      · obtain rfl : q = (k : Int) := by omega
                        rw [← HNN.out, ← HNL.out]; omega
                    go_wp2_with fail
                    go_roundw
                    case rel => exact ⟨k + 1, _, by omega, by omega, by go_num, rfl, HA2.out, b0, hbt⟩
                    case measure => simp [intOf]; omega
              · obtain rfl : n = j := by omega
                have d2 : decide ((n : Int) < (n : Int)) = false := by simp
                by_cases hbig : 80 < n
                · have d5 : decide (80 < n) = true := by simp; omega
                  have d6 : decide ((80 : Int) < (n : Int)) = true := by simp; omega
                  go_wp2_with fail
                  go_ret
                  exact ⟨_, rfl, (fun h => by cases h), hbt⟩
                · have d5 : decide (80 < n) = false := by simp; omega
                  have d6 : decide ((80 : Int) < (n : Int)) = false := by simp; omega
                  have HA2 : Hid (∀ q : Int, 1 ≤ q → q < ((k + 1 : Nat) : Int) → (Sc.names s q).length ≤ 80) := fun q h1 h2 => by
                    by_cases hq : q < (k : Int)
                    · exact HALL.out q h1 hq
                    · obtain rfl : q = (k : Int) := by omega
                      rw [← HNN.out, ← HNL.out]; omega
                  go_wp2_with fail
                  go_roundw
                  case rel => exact ⟨k + 1, _, by omega, by omega, by go_num, rfl, HA2.out, b0, hbt⟩
                  case measure => simp [intOf]; omega
          · have d1 : decide ((k : Int) ≤ 5) = false := by simp; omega
            obtain rfl : k = 6 := by omega
            go_wp2_with fail
            go_ret
            refine ⟨_, rfl, fun _ => ?_, hbt⟩
            have q1 := HALL.out 1 (by omega) (by omega)
            have q2 := HALL.out 2 (by omega) (by omega)
            have q3 := HALL.out 3 (by omega) (by omega)
            have q4 := HALL.out 4 (by omega) (by omega)
            have q5 := HALL.out 5 (by omega) (by omega)
            change (s.lessons.map (·.name)).length ≤ 80 at q1
            change (s.slots.map (·.name)).length ≤ 80 at q2
            change (s.rooms.map (·.name)).length ≤ 80 at q3
            change (s.people.map (·.name)).length ≤ 80 at q4
            change (s.groups.map (·.name)).length ≤ 80 at q5
            rw [List.length_map] at q1 q2 q3 q4 q5
            have := HLN.out
            omega

end Go.Proofs.YtfockoihmoljfaaGreatDoor
