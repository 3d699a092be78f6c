/-
  The walks of the reference's holds, Bools and Of.
-/
import Derived.Test.YtojbjaklngdlcaaGreatDoorRCk
import Derived.Test.YtojbjaklngdlcaaGreatDoorTrueW
namespace Go.Proofs.YtojbjaklngdlcaaGreatDoor
open Go.RowKit Go.Shelf
set_option linter.unusedVariables false
set_option linter.unusedSimpArgs false

set_option maxRecDepth 100000 in
set_option maxHeartbeats 2000000 in
theorem rholds4_any (A : Option Addr) (n c : Nat) (l : List Bool) (v : Int) (w : World) (h : RdO w w.heap.size A n c l) (hv : 0 ≤ v) :
    Calls Tryz.prog 39 #[.slice A n c, .int .i64 v] w fun e w' => e = .returned (.bool (Wk.holds l v)) ∧ Below w.heap.size w w' := by
  have m1 := h.max
  have m2 := h.le
  have HL := Lib.hid h.len
  obtain ⟨k, rfl⟩ : ∃ k : Nat, v = (k : Int) := ⟨v.toNat, by omega⟩
  by_cases hk : k < n
  · have hkl : k < l.length := by rw [HL.out]; exact hk
    obtain ⟨ad, rfl, _, x0⟩ := h.at_ hk hkl
    have d1 : decide ((k : Int) < (n : Int)) = true := by simp; omega
    have d2 : decide (k < n) = true := by simp; omega
    have HH : Hid (Wk.holds l (k : Int) = l[k]) := by
      show _ = _
      unfold Wk.holds
      rw [HL.out, d1, Int.toNat_natCast, Bool.true_and]
      simp [hkl]
    generalize l[k] = x at *
    go_enter Tryz.func39, Tryz.ntmps39
    go_wp2_with fail
    go_ret
    exact ⟨by rw [HH.out]; rfl, Below.refl _ _⟩
  · have d1 : decide ((k : Int) < (n : Int)) = false := by simp; omega
    have HH : Hid (Wk.holds l (k : Int) = false) := by
      show _ = _
      unfold Wk.holds
      rw [HL.out, d1, Bool.false_and]
    go_enter Tryz.func39, Tryz.ntmps39
    go_wp2_with fail
    go_ret
    exact ⟨by rw [HH.out]; rfl, Below.refl _ _⟩

theorem take_eq_stepB {l r : List Bool} {k : Nat} (h : l.take k = r.take k) (hl : k < l.length) (hr : k < r.length) (he : l[k] = r[k]) : l.take (k + 1) = r.take (k + 1) := by
  rw [List.take_succ_eq_append_getElem hl, List.take_succ_eq_append_getElem hr, h, he]

set_option maxRecDepth 100000 in
set_option maxHeartbeats 2000000 in
theorem rBools4_any (A A' : Option Addr) (n c n' c' : Nat) (l r : List Bool) (w : World) (h : RdO w w.heap.size A n c l) (h' : RdO w w.heap.size A' n' c' r) :
    Calls Tryz.prog 20 #[.slice A n c, .slice A' n' c'] w fun e w' => e = .returned (.bool (decide (l = r))) ∧ Below w.heap.size w w' := by
  have hm := h.max
  have hm' := h'.max
  have hle := h.le
  have hle' := h'.le
  have hlen := Lib.hid h.len
  have hlen' := Lib.hid h'.len
  obtain ⟨res, hres⟩ : ∃ res, res = decide (l = r) := ⟨_, rfl⟩
  rw [← hres]
  have HR := Lib.hid hres
  clear hres
  by_cases hne : n = n'
  · subst hne
    have d0 : ((n : Int) != (n : Int)) = false := by simp
    go_enter Tryz.func20, Tryz.ntmps20
    go_wp2_with fail
    go_loopw [5] (fun i wr => ∃ k : Nat, k ≤ n ∧ i = .int .i64 k ∧ l.take k = r.take k ∧ Below w.heap.size w wr) (fun i _ => n - (intOf i).toNat)
    case atStart => exact ⟨0, by omega, rfl, rfl, Below.refl _ _⟩
    case round =>
      obtain ⟨k, hk, rfl, htk, hbt⟩ := hrel
      have HT := Lib.hid htk
      clear htk
      by_cases hkn : k < n
      · have hkl : k < l.length := by rw [hlen.out]; exact hkn
        have hkr : k < r.length := by rw [hlen'.out]; exact hkn
        obtain ⟨ad, rfl, hab, c1⟩ := (h.below hbt).at_ hkn hkl
        obtain ⟨ad', rfl, hab', c1'⟩ := (h'.below hbt).at_ hkn hkr
        have d5 : decide ((k : Int) < (n : Int)) = true := by simp; omega
        have HS : Hid (l[k] = r[k] → l.take (k + 1) = r.take (k + 1)) := take_eq_stepB HT.out hkl hkr
        have HN : Hid (l[k] ≠ r[k] → l ≠ r) := fun h1 h2 => h1 (by subst h2; rfl)
        generalize l[k] = p at *
        generalize r[k] = q at *
        rcases p with _ | _ <;> rcases q with _ | _
        · go_wp2_with fail
          go_quiet (fail)
          replace hbt := below_drewN' hbt nq
          go_wp2_with fail
          go_roundw
          case rel => exact ⟨k + 1, by omega, by go_num, HS.out (by simp), hbt⟩
          case measure => simp [intOf]; omega
        · go_wp2_with fail
          go_quiet (fail)
          replace hbt := below_drewN' hbt nq
          go_wp2_with fail
          go_ret
          refine ⟨ret_bool ?_, hbt⟩
          rw [HR.out]
          exact (decide_eq_false (HN.out (by simp))).symm
        · go_wp2_with fail
          go_quiet (fail)
          replace hbt := below_drewN' hbt nq
          go_wp2_with fail
          go_ret
          refine ⟨ret_bool ?_, hbt⟩
          rw [HR.out]
          exact (decide_eq_false (HN.out (by simp))).symm
        · go_wp2_with fail
          go_quiet (fail)
          replace hbt := below_drewN' hbt nq
          go_wp2_with fail
          go_roundw
          case rel => exact ⟨k + 1, by omega, by go_num, HS.out (by simp), hbt⟩
          case measure => simp [intOf]; omega
      · obtain rfl : k = n := by omega
        have d5 : decide ((k : Int) < (k : Int)) = false := by simp
        go_wp2_with fail
        go_ret
        refine ⟨ret_bool ?_, hbt⟩
        rw [HR.out]
        have := HT.out
        rw [List.take_of_length_le (by rw [hlen.out]; omega), List.take_of_length_le (by rw [hlen'.out]; omega)] at this
        exact (decide_eq_true this).symm
  · have d1 : ((n : Int) != (n' : Int)) = true := by simp; omega
    go_enter Tryz.func20, Tryz.ntmps20
    go_wp2_with fail
    go_ret
    refine ⟨ret_bool ?_, Below.refl _ _⟩
    rw [HR.out]
    refine (decide_eq_false (fun e => hne ?_)).symm
    rw [← hlen.out, ← hlen'.out, e]

set_option maxRecDepth 100000 in
set_option maxHeartbeats 8000000 in
theorem rOf4_any (f : Sc.Five) (s : Sc.Sch) (A : Option Addr) (n c : Nat) (al : List Bool) (w : World) (h : Sc.RdSch w w.heap.size f s) (ha : RdO w w.heap.size A n c al) (hz : f.nS ≤ 80 ∧ f.nR ≤ 80 ∧ f.nP ≤ 80 ∧ f.nG ≤ 80 ∧ f.nL ≤ 80) :
    Calls Tryz.prog 19 #[.agg f.vals, .slice A n c] w (WkPost (Wk.ofR s al) w) := by
  have q1 := ha.max
  have q2 := ha.le
  have hs : f.nS ≤ 1000 ∧ f.nR ≤ 1000 ∧ f.nL ≤ 1000 := ⟨by omega, by omega, by omega⟩
  have HLN := Lib.hid h.lens
  have mS : f.nS ≤ f.cS ∧ f.cS ≤ 9223372036854775807 := ⟨h.slots.le, h.slots.max⟩
  have mR : f.nR ≤ f.cR ∧ f.cR ≤ 9223372036854775807 := ⟨h.rooms.le, h.rooms.max⟩
  have mL : f.nL ≤ f.cL ∧ f.cL ≤ 9223372036854775807 := ⟨h.lessons.le, h.lessons.max⟩
  have hbt := Below.refl w.heap.size w
  obtain ⟨V1, hV⟩ : ∃ V1, V1 = w.alloc (.cells #[.slice f.aS f.nS f.cS, .slice f.aR f.nR f.cR, .slice f.aP f.nP f.cP, .slice f.aG f.nG f.cG, .slice f.aL f.nL f.cL] 28) := ⟨_, rfl⟩
  have b0 := blk_new hV
  have hb := below_new hV
  replace h := (h.below hb).more hb.size
  replace hbt := hbt.trans (hb.mono hbt.size)
  clear hb
  have HSV1 : Hid (V1.heap.size = w.heap.size + 1) := by show V1.heap.size = _; rw [hV, World.size_alloc]
  have HVV1 := Lib.hid hV.symm
  clear hV
  obtain ⟨V2, hV⟩ : ∃ V2, V2 = V1.alloc (.cells #[.slice none 0 0] 31) := ⟨_, rfl⟩
  have b2 := blk_new hV
  have hb := below_new hV
  replace h := (h.below hb).more hb.size
  replace b0 := blk_below b0 hb
  replace hbt := hbt.trans (hb.mono hbt.size)
  clear hb
  have HSV2 : Hid (V2.heap.size = V1.heap.size + 1) := by show V2.heap.size = _; rw [hV, World.size_alloc]
  have HVV2 := Lib.hid hV.symm
  clear hV
  rw [HSV1.out] at b2
  rw [← HVV1.out] at HVV2
  unfold Sc.Five.vals
  have c0 := blk_cell (j := 0) b0
  simp only [List.getElem?_toArray, List.getElem?_cons_zero, List.getElem?_cons_succ] at c0
  have c1 := blk_cell (j := 1) b0
  simp only [List.getElem?_toArray, List.getElem?_cons_zero, List.getElem?_cons_succ] at c1
  have c2 := blk_cell (j := 2) b0
  simp only [List.getElem?_toArray, List.getElem?_cons_zero, List.getElem?_cons_succ] at c2
  have c3 := blk_cell (j := 3) b0
  simp only [List.getElem?_toArray, List.getElem?_cons_zero, List.getElem?_cons_succ] at c3
  have c4 := blk_cell (j := 4) b0
  simp only [List.getElem?_toArray, List.getElem?_cons_zero, List.getElem?_cons_succ] at c4
  rw [← HVV2.out] at c0 c1 c2 c3 c4
  go_enter Tryz.func19, Tryz.ntmps19
  go_wp2_with fail
  rw [HVV2.out]
  clear HVV2 HVV1 HSV1 HSV2 c0 c1 c2 c3 c4
  refine (rCheck3_any f s V2 h hz).mono ?_
  rintro e w3 ⟨rfl, hb⟩
  replace h := (h.below hb).more hb.size
  replace b0 := blk_below b0 hb
  replace b2 := blk_below b2 hb
  replace hbt := hbt.trans (hb.mono hbt.size)
  clear hb
  have hlt2 : w.heap.size + 1 < w3.heap.size := blk_lt b2
  by_cases hE : Sc.chk s ≠ 0
  · have HC : Hid (Wk.ofR s al = ([], Sc.chk s)) := by show _ = _; unfold Wk.ofR; rw [if_pos hE]
    generalize Sc.chk s = er at *
    have dE : (er != 0) = true := by simp; omega
    have r0 := blk_cell (j := 0) b2
    have r1 := blk_frozen 0 b2
    simp only [List.getElem?_toArray, List.getElem?_cons_zero, List.getElem?_cons_succ] at r0
    have x2 := blk_set (k := 0) (.slice none 0 0) b2
    simp only [List.setIfInBounds_toArray, List.set_cons_zero, List.set_cons_succ] at x2
    go_wp2_with fail
    refine bodyPost_ret (results_cell_row2 rfl _ _ (w.heap.size + 1) 31 #[.slice none 0 0] (0, 0) _ rfl x2 Tryz.underlying31 rfl infoWeek) rfl ?_
    exact wkpost_err HC.out (hbt.setCell (p := ⟨w.heap.size + 1, 0, none⟩) (by simp) _)
  · have hE : Sc.chk s = 0 := Classical.not_not.1 hE
    have HE := Lib.hid hE
    rw [hE]
    clear hE h
    obtain ⟨OK, hOK⟩ : ∃ OK : Nat → Prop, OK = Wk.ofOk f.nL f.nS f.nR al := ⟨_, rfl⟩
    obtain ⟨F, hF⟩ : ∃ F : Nat → Pl, F = Wk.ofPl f.nL f.nS f.nR al := ⟨_, rfl⟩
    have HGOOD : Hid ((∀ j, j < f.nL → OK j) → Wk.ofR s al = ((List.range f.nL).map F, 0)) := fun hh => by
      unfold Wk.ofR
      rw [HLN.out.1, HLN.out.2.1, HLN.out.2.2.2.2, if_neg (fun hq => hq HE.out), ← hOK, ← hF, if_pos hh]
    have HBAD : Hid (∀ j, j < f.nL → ¬ OK j → Wk.ofR s al = ([], 40)) := fun j hj hn => by
      unfold Wk.ofR
      rw [HLN.out.1, HLN.out.2.1, HLN.out.2.2.2.2, if_neg (fun hq => hq HE.out), ← hOK, if_neg (fun hq => hn (hq j hj))]
    have HOK := Lib.hid hOK
    have HF := Lib.hid hF
    clear hOK hF
    obtain ⟨V4, hV⟩ : ∃ V4, V4 = w3.alloc (.cells #[.slice none 0 0] 31) := ⟨_, rfl⟩
    have b5 := blk_new hV
    have hb := below_new hV
    replace b0 := blk_below b0 hb
    replace b2 := blk_below b2 hb
    replace hbt := hbt.trans (hb.mono hbt.size)
    clear hb
    have HSV4 : Hid (V4.heap.size = w3.heap.size + 1) := by show V4.heap.size = _; rw [hV, World.size_alloc]
    have HVV4 := Lib.hid hV.symm
    clear hV
    clear HSV4
    have c0 := blk_cell (j := 0) b0
    simp only [List.getElem?_toArray, List.getElem?_cons_zero, List.getElem?_cons_succ] at c0
    have c1 := blk_cell (j := 1) b0
    simp only [List.getElem?_toArray, List.getElem?_cons_zero, List.getElem?_cons_succ] at c1
    have c2 := blk_cell (j := 2) b0
    simp only [List.getElem?_toArray, List.getElem?_cons_zero, List.getElem?_cons_succ] at c2
    have c3 := blk_cell (j := 3) b0
    simp only [List.getElem?_toArray, List.getElem?_cons_zero, List.getElem?_cons_succ] at c3
    have c4 := blk_cell (j := 4) b0
    simp only [List.getElem?_toArray, List.getElem?_cons_zero, List.getElem?_cons_succ] at c4
    rw [← HVV4.out] at c0 c1 c2 c3 c4

    go_wp2_with fail
    rw [HVV4.out]
    clear c0 c1 c2 c3 c4 HVV4
    have hX : w.heap.size + 1 < w3.heap.size := hlt2
    clear hlt2
    generalize w3.heap.size = bX at *
    have hown : V4.ownsRow w.heap.size 62 2 (.slice none 0 0) 0 (pv ((List.range 0).map F)) := World.ownsRow_nil _ _ _ _
    go_loopw [8] (fun iv wr => ∃ (k : Nat) (v : Value), k ≤ f.nL ∧ iv = .int .i64 k ∧ (∀ j, j < k → OK j) ∧ wr.ownsRow w.heap.size 62 2 (v) k (pv ((List.range k).map F)) ∧ wr.heap[bX]? = some (.cells #[v] 31) ∧ wr.heap[w.heap.size]? = some (.cells #[.slice f.aS f.nS f.cS, .slice f.aR f.nR f.cR, .slice f.aP f.nP f.cP, .slice f.aG f.nG f.cG, .slice f.aL f.nL f.cL] 28) ∧ wr.heap[w.heap.size + 1]? = some (.cells #[.slice none 0 0] 31) ∧ Below w.heap.size w wr) (fun iv _ => f.nL - (intOf iv).toNat)
    case atStart => exact ⟨0, .slice none 0 0, by omega, rfl, (fun j hj => by omega), hown, b5, b0, b2, hbt⟩
    case round =>
      clear hown b5 b0 b2 hbt
      obtain ⟨k, v, hk, rfl, hall, hown, b5, b0, b2, hbt⟩ := hrel
      have HALL := Lib.hid hall
      clear hall
      have c4 := blk_cell (j := 4) b0
      simp only [List.getElem?_toArray, List.getElem?_cons_zero, List.getElem?_cons_succ] at c4
      by_cases hkn : k < f.nL
      · have d1 : decide ((k : Int) < (f.nL : Int)) = true := by simp; omega
        have hnP : Hid (∀ g, v.ownBlock = some g → wr.heap.size ≠ g) := fun g hg => by have := (hown.lt g hg).2; omega
        have hP0 : w.heap.size < wr.heap.size := blk_lt b0
        have hP2 : w.heap.size + 1 < wr.heap.size := blk_lt b2
        have hPX : bX < wr.heap.size := blk_lt b5
        have hPw : w.heap.size ≤ wr.heap.size := hbt.size
        obtain ⟨V6, hV⟩ : ∃ V6, V6 = wr.alloc (.cells #[.int .i64 0, .int .i64 0] 62) := ⟨_, rfl⟩
        have b6 := blk_new hV
        have hb := below_new hV
        replace hown := own_below hown hb
        replace b5 := blk_below b5 hb
        replace b0 := blk_below b0 hb
        replace b2 := blk_below b2 hb
        replace hbt := hbt.trans (hb.mono hbt.size)
        clear hb
        have HSV6 : Hid (V6.heap.size = wr.heap.size + 1) := by show V6.heap.size = _; rw [hV, World.size_alloc]
        have HVV6 := Lib.hid hV.symm
        clear hV
        clear HSV6
        have c0 := blk_cell (j := 0) b0
        simp only [List.getElem?_toArray, List.getElem?_cons_zero, List.getElem?_cons_succ] at c0
        have c1 := blk_cell (j := 1) b0
        simp only [List.getElem?_toArray, List.getElem?_cons_zero, List.getElem?_cons_succ] at c1
        have c2 := blk_cell (j := 2) b0
        simp only [List.getElem?_toArray, List.getElem?_cons_zero, List.getElem?_cons_succ] at c2
        have c3 := blk_cell (j := 3) b0
        simp only [List.getElem?_toArray, List.getElem?_cons_zero, List.getElem?_cons_succ] at c3
        have c4 := blk_cell (j := 4) b0
        simp only [List.getElem?_toArray, List.getElem?_cons_zero, List.getElem?_cons_succ] at c4
        rw [← HVV6.out] at c0 c1 c2 c3 c4
        go_wp2_with fail
        rw [HVV6.out]
        clear c0 c1 c2 c3 c4 HVV6
        generalize wr.heap.size = bP at *
        obtain ⟨P, hP⟩ : ∃ P : Nat → Bool, P = fun x : Nat => Wk.holds al (Wk.atI f.nL f.nS (k : Int) (x : Int)) := ⟨_, rfl⟩
        have HP := Lib.hid hP
        clear hP
        go_loopw [10, 12] (fun mv iv wr => ∃ x : Nat, x ≤ f.nS ∧ mv = .int .i64 ((Wk.onl P x).2 : Nat) ∧ iv = .int .i64 x ∧ wr.heap[bP]? = some (.cells #[.int .i64 ((Wk.onl P x).1 : Nat), .int .i64 0] 62) ∧ wr.ownsRow w.heap.size 62 2 (v) k (pv ((List.range k).map F)) ∧ wr.heap[bX]? = some (.cells #[v] 31) ∧ wr.heap[w.heap.size]? = some (.cells #[.slice f.aS f.nS f.cS, .slice f.aR f.nR f.cR, .slice f.aP f.nP f.cP, .slice f.aG f.nG f.cG, .slice f.aL f.nL f.cL] 28) ∧ wr.heap[w.heap.size + 1]? = some (.cells #[.slice none 0 0] 31) ∧ Below w.heap.size w wr) (fun _ iv _ => f.nS - (intOf iv).toNat)
        case atStart => exact ⟨0, by omega, rfl, rfl, b6, hown, b5, b0, b2, hbt⟩
        case round =>
          clear hown b5 b0 b2 b6 hbt
          obtain ⟨x, hx, rfl, rfl, b6, hown, b5, b0, b2, hbt⟩ := hrel
          have c0 := blk_cell (j := 0) b0
          simp only [List.getElem?_toArray, List.getElem?_cons_zero, List.getElem?_cons_succ] at c0
          have c1 := blk_cell (j := 1) b0
          simp only [List.getElem?_toArray, List.getElem?_cons_zero, List.getElem?_cons_succ] at c1
          have c2 := blk_cell (j := 2) b0
          simp only [List.getElem?_toArray, List.getElem?_cons_zero, List.getElem?_cons_succ] at c2
          have c3 := blk_cell (j := 3) b0
          simp only [List.getElem?_toArray, List.getElem?_cons_zero, List.getElem?_cons_succ] at c3
          have c4 := blk_cell (j := 4) b0
          simp only [List.getElem?_toArray, List.getElem?_cons_zero, List.getElem?_cons_succ] at c4
          by_cases hxn : x < f.nS
          · have d2 : decide ((x : Int) < (f.nS : Int)) = true := by simp; omega
            have l1 := Wk.onl_le P x
            have HY := Lib.hid (Wk.onl_yes (p := P) (n := x))
            have HN := Lib.hid (Wk.onl_no (p := P) (n := x))
            generalize Wk.onl P x = o at *
            obtain ⟨o1, o2⟩ := o
            dsimp only at *
            go_wp2_with fail
            clear c0 c1 c2 c3 c4
            refine (rAt4_any f (k : Int) (x : Int) _ mS mR mL hs).mono ?_
            rintro e x2 ⟨rfl, hb⟩
            replace hown := own_below hown hb
            replace b5 := blk_below b5 hb
            replace b0 := blk_below b0 hb
            replace b2 := blk_below b2 hb
            replace b6 := blk_below b6 hb
            replace hbt := hbt.trans (hb.mono hbt.size)
            clear hb
            go_wp2_with fail
            refine (rholds4_any A n c al _ x2 ((ha.below hbt).more hbt.size) (Wk.at_nonneg _ _ _ _)).mono ?_
            rintro e x3 ⟨rfl, hb⟩
            replace hown := own_below hown hb
            replace b5 := blk_below b5 hb
            replace b0 := blk_below b0 hb
            replace b2 := blk_below b2 hb
            replace b6 := blk_below b6 hb
            replace hbt := hbt.trans (hb.mono hbt.size)
            clear hb
            rw [show Wk.holds al (Wk.atI f.nL f.nS (k : Int) (x : Int)) = P x by rw [HP.out]]
            cases hp : P x with
            | true =>
              have E := HY.out hp
              have HEE := Lib.hid E
              clear E HY HN hp
              have y0 := blk_cell (j := 0) b6
              simp only [List.getElem?_toArray, List.getElem?_cons_zero, List.getElem?_cons_succ] at y0
              have y1 := blk_cell (j := 1) b6
              simp only [List.getElem?_toArray, List.getElem?_cons_zero, List.getElem?_cons_succ] at y1
              have yf := blk_frozen 0 b6
              have z6 := blk_set (k := 0) (.int .i64 (x : Int)) b6
              simp only [List.setIfInBounds_toArray, List.set_cons_zero, List.set_cons_succ] at z6
              have zo := own_set (p := ⟨bP, 0, none⟩) (u := .int .i64 (x : Int)) hown hnP.out
              have z5 := blk_other (p := ⟨bP, 0, none⟩) (.int .i64 (x : Int)) b5 (by dsimp only; omega)
              have z0 := blk_other (p := ⟨bP, 0, none⟩) (.int .i64 (x : Int)) b0 (by dsimp only; omega)
              have z2 := blk_other (p := ⟨bP, 0, none⟩) (.int .i64 (x : Int)) b2 (by dsimp only; omega)
              have zb := hbt.setCell (p := ⟨bP, 0, none⟩) hPw (.int .i64 (x : Int))
              go_wp2_with fail
              go_roundw
              case rel => exact ⟨x + 1, by omega, by rw [HEE.out]; go_num, by go_num, by rw [HEE.out]; exact z6, zo, z5, z0, z2, zb⟩
              case measure => simp [intOf]; omega
            | false =>
              have E := HN.out hp
              have HEE := Lib.hid E
              clear E HY HN hp
              go_wp2_with fail
              go_roundw
              case rel => exact ⟨x + 1, by omega, by rw [HEE.out], by go_num, by rw [HEE.out]; exact b6, hown, b5, b0, b2, hbt⟩
              case measure => simp [intOf]; omega
          · obtain rfl : x = f.nS := by omega
            have d2 : decide ((f.nS : Int) < (f.nS : Int)) = false := by simp
            obtain ⟨S1, hS1⟩ : ∃ S1, S1 = Wk.onl P f.nS := ⟨_, rfl⟩
            rw [← hS1] at b6
            rw [← hS1]
            have HS1 : Hid (S1 = Wk.slotOf f.nL f.nS al k) := by show _ = _; rw [hS1, HP.out]; rfl
            have lS : S1.1 ≤ 1000 ∧ S1.2 ≤ 1000 := by rw [hS1]; exact ⟨Nat.le_trans (Wk.onl_lt _ _) hs.1, Nat.le_trans (Wk.onl_le _ _) hs.1⟩
            clear hS1
            obtain ⟨s1, s2⟩ := S1
            dsimp only at *
            go_wp2_with fail
            clear c0 c1 c2 c3 c4
            obtain ⟨P2, hP2⟩ : ∃ P2 : Nat → Bool, P2 = fun x : Nat => Wk.holds al (Wk.inI f.nL f.nS f.nR (k : Int) (x : Int)) := ⟨_, rfl⟩
            have HP2 := Lib.hid hP2
            clear hP2
            go_loopw [11, 13] (fun mv iv wr => ∃ x : Nat, x ≤ f.nR ∧ mv = .int .i64 ((Wk.onl P2 x).2 : Nat) ∧ iv = .int .i64 x ∧ wr.heap[bP]? = some (.cells #[.int .i64 (s1 : Nat), .int .i64 ((Wk.onl P2 x).1 : Nat)] 62) ∧ wr.ownsRow w.heap.size 62 2 (v) k (pv ((List.range k).map F)) ∧ wr.heap[bX]? = some (.cells #[v] 31) ∧ wr.heap[w.heap.size]? = some (.cells #[.slice f.aS f.nS f.cS, .slice f.aR f.nR f.cR, .slice f.aP f.nP f.cP, .slice f.aG f.nG f.cG, .slice f.aL f.nL f.cL] 28) ∧ wr.heap[w.heap.size + 1]? = some (.cells #[.slice none 0 0] 31) ∧ Below w.heap.size w wr) (fun _ iv _ => f.nR - (intOf iv).toNat)
            case atStart => exact ⟨0, by omega, rfl, rfl, b6, hown, b5, b0, b2, hbt⟩
            case round =>
              clear hown b5 b0 b2 b6 hbt
              obtain ⟨x, hx, rfl, rfl, b6, hown, b5, b0, b2, hbt⟩ := hrel
              have c0 := blk_cell (j := 0) b0
              simp only [List.getElem?_toArray, List.getElem?_cons_zero, List.getElem?_cons_succ] at c0
              have c1 := blk_cell (j := 1) b0
              simp only [List.getElem?_toArray, List.getElem?_cons_zero, List.getElem?_cons_succ] at c1
              have c2 := blk_cell (j := 2) b0
              simp only [List.getElem?_toArray, List.getElem?_cons_zero, List.getElem?_cons_succ] at c2
              have c3 := blk_cell (j := 3) b0
              simp only [List.getElem?_toArray, List.getElem?_cons_zero, List.getElem?_cons_succ] at c3
              have c4 := blk_cell (j := 4) b0
              simp only [List.getElem?_toArray, List.getElem?_cons_zero, List.getElem?_cons_succ] at c4
              by_cases hxn : x < f.nR
              · have d2 : decide ((x : Int) < (f.nR : Int)) = true := by simp; omega
                have l1 := Wk.onl_le P2 x
                have HY := Lib.hid (Wk.onl_yes (p := P2) (n := x))
                have HN := Lib.hid (Wk.onl_no (p := P2) (n := x))
                generalize Wk.onl P2 x = o at *
                obtain ⟨o1, o2⟩ := o
                dsimp only at *
                go_wp2_with fail
                clear c0 c1 c2 c3 c4
                refine (rIn4_any f (k : Int) (x : Int) _ mS mR mL hs).mono ?_
                rintro e x2 ⟨rfl, hb⟩
                replace hown := own_below hown hb
                replace b5 := blk_below b5 hb
                replace b0 := blk_below b0 hb
                replace b2 := blk_below b2 hb
                replace b6 := blk_below b6 hb
                replace hbt := hbt.trans (hb.mono hbt.size)
                clear hb
                go_wp2_with fail
                refine (rholds4_any A n c al _ x2 ((ha.below hbt).more hbt.size) (Wk.in_nonneg _ _ _ _ _)).mono ?_
                rintro e x3 ⟨rfl, hb⟩
                replace hown := own_below hown hb
                replace b5 := blk_below b5 hb
                replace b0 := blk_below b0 hb
                replace b2 := blk_below b2 hb
                replace b6 := blk_below b6 hb
                replace hbt := hbt.trans (hb.mono hbt.size)
                clear hb
                rw [show Wk.holds al (Wk.inI f.nL f.nS f.nR (k : Int) (x : Int)) = P2 x by rw [HP2.out]]
                cases hp : P2 x with
                | true =>
                  have E := HY.out hp
                  have HEE := Lib.hid E
                  clear E HY HN hp
                  have y0 := blk_cell (j := 0) b6
                  simp only [List.getElem?_toArray, List.getElem?_cons_zero, List.getElem?_cons_succ] at y0
                  have y1 := blk_cell (j := 1) b6
                  simp only [List.getElem?_toArray, List.getElem?_cons_zero, List.getElem?_cons_succ] at y1
                  have yf := blk_frozen 1 b6
                  have z6 := blk_set (k := 1) (.int .i64 (x : Int)) b6
                  simp only [List.setIfInBounds_toArray, List.set_cons_zero, List.set_cons_succ] at z6
                  have zo := own_set (p := ⟨bP, 1, none⟩) (u := .int .i64 (x : Int)) hown hnP.out
                  have z5 := blk_other (p := ⟨bP, 1, none⟩) (.int .i64 (x : Int)) b5 (by dsimp only; omega)
                  have z0 := blk_other (p := ⟨bP, 1, none⟩) (.int .i64 (x : Int)) b0 (by dsimp only; omega)
                  have z2 := blk_other (p := ⟨bP, 1, none⟩) (.int .i64 (x : Int)) b2 (by dsimp only; omega)
                  have zb := hbt.setCell (p := ⟨bP, 1, none⟩) hPw (.int .i64 (x : Int))
                  go_wp2_with fail
                  go_roundw
                  case rel => exact ⟨x + 1, by omega, by rw [HEE.out]; go_num, by go_num, by rw [HEE.out]; exact z6, zo, z5, z0, z2, zb⟩
                  case measure => simp [intOf]; omega
                | false =>
                  have E := HN.out hp
                  have HEE := Lib.hid E
                  clear E HY HN hp
                  go_wp2_with fail
                  go_roundw
                  case rel => exact ⟨x + 1, by omega, by rw [HEE.out], by go_num, by rw [HEE.out]; exact b6, hown, b5, b0, b2, hbt⟩
                  case measure => simp [intOf]; omega
              · obtain rfl : x = f.nR := by omega
                have d2 : decide ((f.nR : Int) < (f.nR : Int)) = false := by simp
                obtain ⟨R1, hR1⟩ : ∃ R1, R1 = Wk.onl P2 f.nR := ⟨_, rfl⟩
                rw [← hR1] at b6
                rw [← hR1]
                have HR1 : Hid (R1 = Wk.roomOf f.nL f.nS f.nR al k) := by show _ = _; rw [hR1, HP2.out]; rfl
                have lR : R1.1 ≤ 1000 ∧ R1.2 ≤ 1000 := by rw [hR1]; exact ⟨Nat.le_trans (Wk.onl_lt _ _) hs.2.1, Nat.le_trans (Wk.onl_le _ _) hs.2.1⟩
                clear hR1
                obtain ⟨r1, r2⟩ := R1
                dsimp only at *
                have HOKk : Hid (OK k ↔ s2 = 1 ∧ r2 = 1) := by
                  show _ ↔ _
                  rw [HOK.out]
                  unfold Wk.ofOk
                  rw [← HS1.out, ← HR1.out]
                have HFk : Hid (F k = ((s1 : Int), (r1 : Int))) := by
                  show _ = _
                  rw [HF.out]
                  unfold Wk.ofPl
                  rw [← HS1.out, ← HR1.out]
                have y0 := blk_cell (j := 0) b6
                simp only [List.getElem?_toArray, List.getElem?_cons_zero, List.getElem?_cons_succ] at y0
                have y1 := blk_cell (j := 1) b6
                simp only [List.getElem?_toArray, List.getElem?_cons_zero, List.getElem?_cons_succ] at y1
                have x0 := blk_cell (j := 0) b5
                simp only [List.getElem?_toArray, List.getElem?_cons_zero, List.getElem?_cons_succ] at x0
                by_cases h1 : ¬ s2 = 1
                · have e1 : ((s2 : Int) != 1) = true := by simp; omega
                  have HC := Lib.hid (HBAD.out k hkn (fun hq => h1 (HOKk.out.1 hq).1))
                  have r0 := blk_cell (j := 0) b2
                  have r1 := blk_frozen 0 b2
                  simp only [List.getElem?_toArray, List.getElem?_cons_zero, List.getElem?_cons_succ] at r0
                  have x2 := blk_set (k := 0) (.slice none 0 0) b2
                  simp only [List.setIfInBounds_toArray, List.set_cons_zero, List.set_cons_succ] at x2
                  go_wp2_with fail
                  refine bodyPost_ret (results_cell_row2 rfl _ _ (w.heap.size + 1) 31 #[.slice none 0 0] (0, 0) _ rfl x2 Tryz.underlying31 rfl infoWeek) rfl ?_
                  exact wkpost_err HC.out (hbt.setCell (p := ⟨w.heap.size + 1, 0, none⟩) (by simp) _)
                · have h1 : s2 = 1 := Classical.not_not.1 h1
                  have e1 : ((s2 : Int) != 1) = false := by simp; omega
                  by_cases h2 : ¬ r2 = 1
                  · have e2 : ((r2 : Int) != 1) = true := by simp; omega
                    have HC := Lib.hid (HBAD.out k hkn (fun hq => h2 (HOKk.out.1 hq).2))
                    have r0 := blk_cell (j := 0) b2
                    have r1 := blk_frozen 0 b2
                    simp only [List.getElem?_toArray, List.getElem?_cons_zero, List.getElem?_cons_succ] at r0
                    have x2 := blk_set (k := 0) (.slice none 0 0) b2
                    simp only [List.setIfInBounds_toArray, List.set_cons_zero, List.set_cons_succ] at x2
                    go_wp2_with fail
                    refine bodyPost_ret (results_cell_row2 rfl _ _ (w.heap.size + 1) 31 #[.slice none 0 0] (0, 0) _ rfl x2 Tryz.underlying31 rfl infoWeek) rfl ?_
                    exact wkpost_err HC.out (hbt.setCell (p := ⟨w.heap.size + 1, 0, none⟩) (by simp) _)
                  · have h2 : r2 = 1 := Classical.not_not.1 h2
                    have e2 : ((r2 : Int) != 1) = false := by simp; omega
                    have HN : Hid (∀ j, j < k + 1 → OK j) := fun j hj => by
                      by_cases hjk : j < k
                      · exact HALL.out j hjk
                      · have : j = k := by omega
                        subst this
                        exact HOKk.out.2 ⟨h1, h2⟩
                    subst h1 h2
                    clear HALL
                    have hmap : pv ((List.range (k + 1)).map F) = pv ((List.range k).map F) ++ [.int .i64 (s1 : Int), .int .i64 (r1 : Int)] := by
                      rw [List.range_succ, List.map_append, pv_append, List.map_singleton, HFk.out]; rfl
                    have HMAP := Lib.hid hmap
                    clear hmap
                    obtain ⟨Av, cv, rfl, _⟩ := own_rdK hown
                    obtain ⟨V9, hV⟩ : ∃ V9, V9 = wr.alloc (.cells #[.int .i64 (s1 : Int), .int .i64 (r1 : Int)] 62) := ⟨_, rfl⟩
                    have hb := below_new hV
                    have oA := own_below hown hb
                    have b5A := blk_below b5 hb
                    have b0A := blk_below b0 hb
                    have b2A := blk_below b2 hb
                    have hbA := hbt.trans (hb.mono hbt.size)
                    have hne5 := own_blk_ne oA b5A (by decide)
                    have hne0 := own_blk_ne oA b0A (by decide)
                    have hne2 := own_blk_ne oA b2A (by decide)
                    have hR := RdK.new 2 wr #[.int .i64 (s1 : Int), .int .i64 (r1 : Int)] 62 (0, 0) 1 rfl (by omega)
                    rw [← hV] at hR
                    have hszA := hbA.size
                    have HV9 := Lib.hid hV.symm
                    clear hV hb
                    generalize hln : pv ((List.range k).map F) = ln at *
                    have HLNx := Lib.hid hln
                    clear hln
                    go_wp2_with (at_builtin; rw [HV9.out]; refine wpList_appK _ _ elP oA hR (by simp [Value.oneCell']) (by omega) (by omega) hszA rfl rfl rfl rfl ?_; intro v2 w2 hown2 hg2 hat2; obtain ⟨A2, q2, rfl, _⟩ := own_rdK hown2; have b5B := blk_grown b5A hg2 (fun e => hne5 _ e.symm rfl); have b0B := blk_grown b0A hg2 (fun e => hne0 _ e.symm rfl); have b2B := blk_grown b2A hg2 (fun e => hne2 _ e.symm rfl); have hbB := hbA.grown hg2 hszA (own_lt oA); have u5 := blk_cell (j := 0) b5B; simp only [List.getElem?_toArray, List.getElem?_cons_zero, List.getElem?_cons_succ] at u5; have f5 := blk_frozen 0 b5B)
                    have c5 := blk_set (k := 0) (.slice A2 (k + 1) q2) b5B
                    simp only [List.setIfInBounds_toArray, List.set_cons_zero, List.set_cons_succ] at c5
                    have oC := own_set (p := ⟨bX, 0, none⟩) (u := .slice A2 (k + 1) q2) hown2 (own_blk_ne hown2 b5B (by decide))
                    have c0 := blk_other (p := ⟨bX, 0, none⟩) (.slice A2 (k + 1) q2) b0B (by dsimp only; omega)
                    have c2 := blk_other (p := ⟨bX, 0, none⟩) (.slice A2 (k + 1) q2) b2B (by dsimp only; omega)
                    have hbC := hbB.setCell (p := ⟨bX, 0, none⟩) (show w.heap.size ≤ bX by omega) (.slice A2 (k + 1) q2)
                    go_roundw
                    case rel => exact ⟨k + 1, _, by omega, by go_num, HN.out, by rw [HMAP.out]; exact oC, c5, c0, c2, hbC⟩
                    case measure => simp [intOf]; omega
      · obtain rfl : k = f.nL := by omega
        have d1 : decide ((f.nL : Int) < (f.nL : Int)) = false := by simp
        have HC := Lib.hid (HGOOD.out HALL.out)
        obtain ⟨Av, cv, rfl, _⟩ := own_rdK hown
        have c0 := blk_cell (j := 0) b0
        simp only [List.getElem?_toArray, List.getElem?_cons_zero, List.getElem?_cons_succ] at c0
        have c1 := blk_cell (j := 1) b0
        simp only [List.getElem?_toArray, List.getElem?_cons_zero, List.getElem?_cons_succ] at c1
        have c2 := blk_cell (j := 2) b0
        simp only [List.getElem?_toArray, List.getElem?_cons_zero, List.getElem?_cons_succ] at c2
        have c3 := blk_cell (j := 3) b0
        simp only [List.getElem?_toArray, List.getElem?_cons_zero, List.getElem?_cons_succ] at c3
        have c4 := blk_cell (j := 4) b0
        simp only [List.getElem?_toArray, List.getElem?_cons_zero, List.getElem?_cons_succ] at c4
        have x0 := blk_cell (j := 0) b5
        simp only [List.getElem?_toArray, List.getElem?_cons_zero, List.getElem?_cons_succ] at x0
        have r0 := blk_cell (j := 0) b2
        have r1 := blk_frozen 0 b2
        simp only [List.getElem?_toArray, List.getElem?_cons_zero, List.getElem?_cons_succ] at r0
        have x2 := blk_set (k := 0) (.slice Av f.nL cv) b2
        simp only [List.setIfInBounds_toArray, List.set_cons_zero, List.set_cons_succ] at x2
        have n2 := own_blk_ne hown b2 (by decide)
        go_wp2_with fail
        refine bodyPost_ret (results_cell_row2 rfl _ _ (w.heap.size + 1) 31 #[.slice Av f.nL cv] (0, 0) _ rfl x2 Tryz.underlying31 rfl infoWeek) rfl ?_
        rw [HC.out]
        refine ⟨_, rfl, ?_, hbt.setCell (p := ⟨w.heap.size + 1, 0, none⟩) (by simp) _⟩
        show World.ownsRow _ _ _ _ _ ((List.range f.nL).map F).length _
        rw [List.length_map, List.length_range]
        exact own_set hown n2

end Go.Proofs.YtojbjaklngdlcaaGreatDoor
