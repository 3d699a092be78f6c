/-
  SchoolSizeSum, walked.
-/
import Derived.Test.YtfockoihmoljfaaGreatDoorLive3
import Derived.Test.YtfockoihmoljfaaGreatDoorFewW3
namespace Go.Proofs.YtfockoihmoljfaaGreatDoor
open Go.RowKit Go.Shelf
set_option linter.unusedVariables false
set_option linter.unusedSimpArgs false

set_option maxRecDepth 100000 in
set_option maxHeartbeats 8000000 in
theorem schoolSizeSum_any (f : Sc.Five) (s : Sc.Sch) (x : Int) (mx : Int) (w : World) (hS : Sc.RdSch w w.heap.size f s) (hF : f.nS ≤ 5864062014805 ∧ f.nR ≤ 5864062014805 ∧ f.nP ≤ 5864062014805 ∧ f.nG ≤ 5864062014805 ∧ f.nL ≤ 5864062014805) (hx : okI x) (hm : w.cell? ⟨0, 0, none⟩ = some (.int .i64 mx)) :
    Calls Tryz.prog 8 #[.agg f.vals, .int .i64 x] w fun e w' => e = .returned (.bool true) ∧ Below w.heap.size w w' := by
  have hbt := Below.refl w.heap.size w
  have HF := Lib.hid hF
  clear hF
  have HLN := Lib.hid hS.lens
  have mS : f.nS ≤ f.cS ∧ f.cS ≤ 9223372036854775807 := ⟨hS.slots.le, hS.slots.max⟩
  have mR : f.nR ≤ f.cR ∧ f.cR ≤ 9223372036854775807 := ⟨hS.rooms.le, hS.rooms.max⟩
  have mP : f.nP ≤ f.cP ∧ f.cP ≤ 9223372036854775807 := ⟨hS.people.le, hS.people.max⟩
  have mG : f.nG ≤ f.cG ∧ f.cG ≤ 9223372036854775807 := ⟨hS.groups.le, hS.groups.max⟩
  have mL : f.nL ≤ f.cL ∧ f.cL ≤ 9223372036854775807 := ⟨hS.lessons.le, hS.lessons.max⟩
  obtain ⟨V1, hV⟩ : ∃ V1, V1 = w.alloc (.cells #[.slice f.aS f.nS f.cS, .slice f.aR f.nR f.cR, .slice f.aP f.nP f.cP, .slice f.aG f.nG f.cG, .slice f.aL f.nL f.cL] 28) := ⟨_, rfl⟩
  have b0 := blk_new hV
  have hb := below_new hV
  replace hS := (hS.below hb).more hb.size
  replace hm := (hb.cell (World.block_lt_of_cell? _ _ hm)).trans hm
  replace hbt := hbt.trans (hb.mono hbt.size)
  clear hb
  have HSV1 : Hid (V1.heap.size = w.heap.size + 1) := by show V1.heap.size = _; rw [hV, World.size_alloc]
  have HVV1 := Lib.hid hV.symm
  clear hV
  clear HSV1
  unfold Sc.Five.vals
  go_enter Tryz.func8, Tryz.ntmps8
  go_wp2_with fail
  rw [HVV1.out]
  clear HVV1
  refine (live3_any mx V1 hm).mono ?_
  rintro e w1 ⟨rfl, hb⟩
  replace hS := (hS.below hb).more hb.size
  replace hm := (hb.cell (World.block_lt_of_cell? _ _ hm)).trans hm
  replace b0 := blk_below b0 hb
  replace hbt := hbt.trans (hb.mono hbt.size)
  clear hb
  have c0 := blk_cell (j := 0) b0
  simp only [List.getElem?_toArray, List.getElem?_cons_zero, List.getElem?_cons_succ] at c0
  have c1 := blk_cell (j := 1) b0
  simp only [List.getElem?_toArray, List.getElem?_cons_zero, List.getElem?_cons_succ] at c1
  have c2 := blk_cell (j := 2) b0
  simp only [List.getElem?_toArray, List.getElem?_cons_zero, List.getElem?_cons_succ] at c2
  have c3 := blk_cell (j := 3) b0
  simp only [List.getElem?_toArray, List.getElem?_cons_zero, List.getElem?_cons_succ] at c3
  have c4 := blk_cell (j := 4) b0
  simp only [List.getElem?_toArray, List.getElem?_cons_zero, List.getElem?_cons_succ] at c4
  go_wp2_with fail
  clear c0 c1 c2 c3 c4
  refine (rFew3_any f s w1 hS HF.out).mono ?_
  rintro e w2 ⟨bo, rfl, hbo, hb⟩
  have HB := Lib.hid hbo
  clear hbo
  replace hS := (hS.below hb).more hb.size
  replace hm := (hb.cell (World.block_lt_of_cell? _ _ hm)).trans hm
  replace b0 := blk_below b0 hb
  replace hbt := hbt.trans (hb.mono hbt.size)
  clear hb
  cases bo with
  | false =>
    go_wp2_with fail
    go_ret
    exact ⟨rfl, hbt⟩
  | true =>
    have hz := HB.out rfl
    have HZ := Lib.hid hz
    clear hz HB
    unfold okI at hx
    have c0 := blk_cell (j := 0) b0
    simp only [List.getElem?_toArray, List.getElem?_cons_zero, List.getElem?_cons_succ] at c0
    have c1 := blk_cell (j := 1) b0
    simp only [List.getElem?_toArray, List.getElem?_cons_zero, List.getElem?_cons_succ] at c1
    have c2 := blk_cell (j := 2) b0
    simp only [List.getElem?_toArray, List.getElem?_cons_zero, List.getElem?_cons_succ] at c2
    have c3 := blk_cell (j := 3) b0
    simp only [List.getElem?_toArray, List.getElem?_cons_zero, List.getElem?_cons_succ] at c3
    have c4 := blk_cell (j := 4) b0
    simp only [List.getElem?_toArray, List.getElem?_cons_zero, List.getElem?_cons_succ] at c4
    go_wp2_with fail
    clear c0 c1 c2 c3 c4
    refine (sCheck_any f s mx w2 hS hm).mono ?_
    rintro e w3 ⟨rfl, hb⟩
    obtain ⟨er, her⟩ : ∃ er, er = Sc.chk s := ⟨_, rfl⟩
    rw [← her]
    have HER := Lib.hid her
    clear her
    replace hS := (hS.below hb).more hb.size
    replace hm := (hb.cell (World.block_lt_of_cell? _ _ hm)).trans hm
    replace b0 := blk_below b0 hb
    replace hbt := hbt.trans (hb.mono hbt.size)
    clear hb
    by_cases he : er = 0
    · rw [HER.out] at he
      have HOK := Lib.hid he
      have h0 : er = 0 := by rw [HER.out]; exact he
      subst h0
      clear he HER
      obtain ⟨gl, hgl⟩ : ∃ gl, gl = Sc.groupsAt s x := ⟨_, rfl⟩
      have HG := Lib.hid (Sc.groups_bd HOK.out)
      have HGL := Lib.hid hgl
      clear hgl
      have hz := HZ.out
      go_wp2_with fail
      go_loopw [5, 6] (fun nv iv wr => ∃ j : Nat, j ≤ f.nG ∧ iv = .int .i64 j ∧ nv = .int .i64 (Sc.sumTo s.groups gl j) ∧ Below w3.heap.size w3 wr) (fun _ iv _ => f.nG - (intOf iv).toNat)
      case atStart => exact ⟨0, by omega, rfl, by rw [Sc.sumTo_zero], Below.refl _ _⟩
      case round =>
        obtain ⟨j, hj, rfl, rfl, hP⟩ := hrel
        have hb := hP
        replace hS := (hS.below hb).more hb.size
        replace hm := (hb.cell (World.block_lt_of_cell? _ _ hm)).trans hm
        replace b0 := blk_below b0 hb
        replace hbt := hbt.trans (hb.mono hbt.size)
        clear hb
        have hSB := Sc.sumTo_bd HG.out (l := gl) (n := j) (by rw [HLN.out.2.2.2.1]; exact hj)
        obtain ⟨S, hSS⟩ : ∃ S, S = Sc.sumTo s.groups gl j := ⟨_, rfl⟩
        rw [← hSS] at hSB ⊢
        have HSS := Lib.hid hSS
        clear hSS
        by_cases hjn : j < f.nG
        · have t1 : decide ((j : Int) < (f.nG : Int)) = true := by simp; omega
          have t2 : decide (j < f.nG) = true := by simp; omega
          have hjl : j < s.groups.length := by rw [HLN.out.2.2.2.1]; exact hjn
          have HT := Lib.hid (Sc.sumTo_succ (l := gl) hjl)
          have hsz := HG.out _ (List.getElem_mem hjl)
          have c0 := blk_cell (j := 0) b0
          simp only [List.getElem?_toArray, List.getElem?_cons_zero, List.getElem?_cons_succ] at c0
          have c1 := blk_cell (j := 1) b0
          simp only [List.getElem?_toArray, List.getElem?_cons_zero, List.getElem?_cons_succ] at c1
          have c2 := blk_cell (j := 2) b0
          simp only [List.getElem?_toArray, List.getElem?_cons_zero, List.getElem?_cons_succ] at c2
          have c3 := blk_cell (j := 3) b0
          simp only [List.getElem?_toArray, List.getElem?_cons_zero, List.getElem?_cons_succ] at c3
          have c4 := blk_cell (j := 4) b0
          simp only [List.getElem?_toArray, List.getElem?_cons_zero, List.getElem?_cons_succ] at c4
          go_wp2_with fail
          clear c0 c1 c2 c3 c4
          refine (sAttends_any f s j x wr hS).mono ?_
          rintro e w5 ⟨b, rfl, hi, hb⟩
          rw [Sc.att_iff, ← HGL.out] at hi
          have HI := Lib.hid hi
          clear hi
          replace hS := (hS.below hb).more hb.size
          replace hm := (hb.cell (World.block_lt_of_cell? _ _ hm)).trans hm
          replace b0 := blk_below b0 hb
          replace hP := hP.trans (hb.mono hP.size)
          replace hbt := hbt.trans (hb.mono hbt.size)
          clear hb
          cases b with
          | false =>
            have HE : Hid (Sc.sumTo s.groups gl (j + 1) = S) := by
              show _ = _
              rw [HT.out, if_neg (fun h => by have := HI.out.2 h; cases this), Int.add_zero, HSS.out]
            go_wp2_with fail
            go_roundw
            case rel => exact ⟨j + 1, by omega, by go_num, by rw [HE.out], hP⟩
            case measure => simp [intOf]; omega
          | true =>
            have HE : Hid (Sc.sumTo s.groups gl (j + 1) = S + (s.groups[j]'hjl).size) := by
              show _ = _
              rw [HT.out, if_pos (HI.out.1 rfl), HSS.out]
            obtain ⟨ad3, r3, hA3, _, hr3, hR3, hc3⟩ := RdS.at_ (by omega) hS.groups hjn hjl
            obtain ⟨rfl, _, _⟩ := hR3
            have u1 := cell_sub (j := 0) (hc3 1 _ rfl)
            clear hc3 hr3
            have c0 := blk_cell (j := 0) b0
            simp only [List.getElem?_toArray, List.getElem?_cons_zero, List.getElem?_cons_succ] at c0
            have c1 := blk_cell (j := 1) b0
            simp only [List.getElem?_toArray, List.getElem?_cons_zero, List.getElem?_cons_succ] at c1
            have c2 := blk_cell (j := 2) b0
            simp only [List.getElem?_toArray, List.getElem?_cons_zero, List.getElem?_cons_succ] at c2
            have c3 := blk_cell (j := 3) b0
            simp only [List.getElem?_toArray, List.getElem?_cons_zero, List.getElem?_cons_succ] at c3
            have c4 := blk_cell (j := 4) b0
            simp only [List.getElem?_toArray, List.getElem?_cons_zero, List.getElem?_cons_succ] at c4
            rw [hA3] at c3
            have HA3 := Lib.hid hA3
            clear hA3 c0 c1 c2 c4
            generalize (s.groups[j]'hjl).size = sz at *
            go_wp2_with fail
            clear c3
            go_roundw
            case rel => exact ⟨j + 1, by omega, by go_num, by rw [HE.out], hP⟩
            case measure => simp [intOf]; omega
        · obtain rfl : j = f.nG := by omega
          have t1 : decide ((f.nG : Int) < (f.nG : Int)) = false := by simp
          have HE : Hid (Sc.sizeS s x = S) := by
            show _ = _
            rw [HSS.out, ← Sc.size_sum HOK.out x, HGL.out, HLN.out.2.2.2.1]
          clear HSS
          have c0 := blk_cell (j := 0) b0
          simp only [List.getElem?_toArray, List.getElem?_cons_zero, List.getElem?_cons_succ] at c0
          have c1 := blk_cell (j := 1) b0
          simp only [List.getElem?_toArray, List.getElem?_cons_zero, List.getElem?_cons_succ] at c1
          have c2 := blk_cell (j := 2) b0
          simp only [List.getElem?_toArray, List.getElem?_cons_zero, List.getElem?_cons_succ] at c2
          have c3 := blk_cell (j := 3) b0
          simp only [List.getElem?_toArray, List.getElem?_cons_zero, List.getElem?_cons_succ] at c3
          have c4 := blk_cell (j := 4) b0
          simp only [List.getElem?_toArray, List.getElem?_cons_zero, List.getElem?_cons_succ] at c4
          go_wp2_with fail
          clear c0 c1 c2 c3 c4
          clear hP
          generalize wr = wo at *
          go_loopw [7] (fun iv wr => ∃ j : Nat, j ≤ f.nP ∧ iv = .int .i64 j ∧ Below wo.heap.size wo wr) (fun iv _ => f.nP - (intOf iv).toNat)
          case atStart => exact ⟨0, by omega, rfl, Below.refl _ _⟩
          case round =>
            obtain ⟨q, hq, rfl, hP⟩ := hrel
            have hb := hP
            replace hS := (hS.below hb).more hb.size
            replace hm := (hb.cell (World.block_lt_of_cell? _ _ hm)).trans hm
            replace b0 := blk_below b0 hb
            replace hbt := hbt.trans (hb.mono hbt.size)
            clear hb
            by_cases hqn : q < f.nP
            · have t1 : decide ((q : Int) < (f.nP : Int)) = true := by simp; omega
              have t2 : decide (q < f.nP) = true := by simp; omega
              have c0 := blk_cell (j := 0) b0
              simp only [List.getElem?_toArray, List.getElem?_cons_zero, List.getElem?_cons_succ] at c0
              have c1 := blk_cell (j := 1) b0
              simp only [List.getElem?_toArray, List.getElem?_cons_zero, List.getElem?_cons_succ] at c1
              have c2 := blk_cell (j := 2) b0
              simp only [List.getElem?_toArray, List.getElem?_cons_zero, List.getElem?_cons_succ] at c2
              have c3 := blk_cell (j := 3) b0
              simp only [List.getElem?_toArray, List.getElem?_cons_zero, List.getElem?_cons_succ] at c3
              have c4 := blk_cell (j := 4) b0
              simp only [List.getElem?_toArray, List.getElem?_cons_zero, List.getElem?_cons_succ] at c4
              go_wp2_with fail
              clear c0 c1 c2 c3 c4
              refine (sTeaches_any f s q x wr hS).mono ?_
              rintro e w5 ⟨b, rfl, hi, hb⟩
              have HI := Lib.hid hi
              clear hi
              replace hS := (hS.below hb).more hb.size
              replace hm := (hb.cell (World.block_lt_of_cell? _ _ hm)).trans hm
              replace b0 := blk_below b0 hb
              replace hP := hP.trans (hb.mono hP.size)
              replace hbt := hbt.trans (hb.mono hbt.size)
              clear hb
              cases b with
              | false =>
                go_wp2_with fail
                go_roundw
                case rel => exact ⟨q + 1, by omega, by go_num, hP⟩
                case measure => simp [intOf]; omega
              | true =>
                obtain ⟨hx0, hx1⟩ := Sc.teach_in (HI.out.1 rfl)
                rw [HLN.out.2.2.2.2] at hx1
                have t3 : decide (x < 0) = false := by simp; omega
                have t4 : decide ((f.nL : Int) ≤ x) = false := by simp; omega
                have c0 := blk_cell (j := 0) b0
                simp only [List.getElem?_toArray, List.getElem?_cons_zero, List.getElem?_cons_succ] at c0
                have c1 := blk_cell (j := 1) b0
                simp only [List.getElem?_toArray, List.getElem?_cons_zero, List.getElem?_cons_succ] at c1
                have c2 := blk_cell (j := 2) b0
                simp only [List.getElem?_toArray, List.getElem?_cons_zero, List.getElem?_cons_succ] at c2
                have c3 := blk_cell (j := 3) b0
                simp only [List.getElem?_toArray, List.getElem?_cons_zero, List.getElem?_cons_succ] at c3
                have c4 := blk_cell (j := 4) b0
                simp only [List.getElem?_toArray, List.getElem?_cons_zero, List.getElem?_cons_succ] at c4
                go_wp2_with fail
                clear c0 c1 c2 c3 c4
                refine (sCount_any f s 1 w5 hS).mono ?_
                rintro e w6 ⟨rfl, hb⟩
                rw [show (Sc.names s 1).length = f.nL from (by rw [← HLN.out.2.2.2.2]; exact List.length_map _)]
                replace hS := (hS.below hb).more hb.size
                replace hm := (hb.cell (World.block_lt_of_cell? _ _ hm)).trans hm
                replace b0 := blk_below b0 hb
                replace hP := hP.trans (hb.mono hP.size)
                replace hbt := hbt.trans (hb.mono hbt.size)
                clear hb
                go_wp2_with fail
                go_roundw
                case rel => exact ⟨q + 1, by omega, by go_num, hP⟩
                case measure => simp [intOf]; omega
            · obtain rfl : q = f.nP := by omega
              have t1 : decide ((f.nP : Int) < (f.nP : Int)) = false := by simp
              have c0 := blk_cell (j := 0) b0
              simp only [List.getElem?_toArray, List.getElem?_cons_zero, List.getElem?_cons_succ] at c0
              have c1 := blk_cell (j := 1) b0
              simp only [List.getElem?_toArray, List.getElem?_cons_zero, List.getElem?_cons_succ] at c1
              have c2 := blk_cell (j := 2) b0
              simp only [List.getElem?_toArray, List.getElem?_cons_zero, List.getElem?_cons_succ] at c2
              have c3 := blk_cell (j := 3) b0
              simp only [List.getElem?_toArray, List.getElem?_cons_zero, List.getElem?_cons_succ] at c3
              have c4 := blk_cell (j := 4) b0
              simp only [List.getElem?_toArray, List.getElem?_cons_zero, List.getElem?_cons_succ] at c4
              go_wp2_with fail
              clear c0 c1 c2 c3 c4
              refine (sSize_any f s x wr hS HG.out (Sc.lists_bd HOK.out)).mono ?_
              rintro e w7 ⟨rfl, hb⟩
              rw [HE.out]
              replace hS := (hS.below hb).more hb.size
              replace hm := (hb.cell (World.block_lt_of_cell? _ _ hm)).trans hm
              replace b0 := blk_below b0 hb
              replace hP := hP.trans (hb.mono hP.size)
              replace hbt := hbt.trans (hb.mono hbt.size)
              clear hb
              have E1 : (S == S) = true := by simp
              have E2 : decide (0 ≤ S) = true := by simp; omega
              go_wp2_with fail
              go_ret
              exact ⟨rfl, hbt⟩
    · have d5 : (er != 0) = true := by simp [he]
      clear he
      go_wp2_with fail
      go_ret
      exact ⟨rfl, hbt⟩

end Go.Proofs.YtfockoihmoljfaaGreatDoor
