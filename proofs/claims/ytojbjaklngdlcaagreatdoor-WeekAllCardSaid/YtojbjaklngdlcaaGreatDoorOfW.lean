/-
  The walks of only and Of.
-/
import Derived.Test.YtojbjaklngdlcaaGreatDoorWkW
import Derived.Test.YtojbjaklngdlcaaGreatDoorWeekG
namespace Go.Proofs.YtojbjaklngdlcaaGreatDoor
open Go.RowKit Go.Shelf
set_option linter.unusedVariables false
set_option linter.unusedSimpArgs false

/-- A slice of bools. -/
def bov (l : List Bool) : List Value := l.map Value.bool
def RdO (w : World) (B : Nat) (A : Option Addr) (n c : Nat) (l : List Bool) : Prop := Rd w B A n c (bov l)
section
variable {w w' : World} {B B' : Nat} {A : Option Addr} {n c : Nat} {l : List Bool}
theorem RdO.below (h : RdO w B A n c l) (hb : Below B w w') : RdO w' B A n c l := Rd.below h hb
theorem RdO.more (h : RdO w B A n c l) (hB : B ≤ B') : RdO w B' A n c l := Rd.more h hB
theorem RdO.len (h : RdO w B A n c l) : l.length = n := by have := Rd.len h; unfold bov at this; rwa [List.length_map] at this
theorem RdO.le (h : RdO w B A n c l) : n ≤ c := Rd.le h
theorem RdO.max (h : RdO w B A n c l) : c ≤ 9223372036854775807 := Rd.max h
theorem RdO.at_ (h : RdO w B A n c l) {k : Nat} (hk : k < n) (hl : k < l.length) : ∃ ad, A = some ad ∧ ad.block < B ∧ w.cell? (ad.add k) = some (.bool l[k]) := by
  obtain ⟨ad, u, e, hb, hu, hc⟩ := Rd.at_ h hk
  refine ⟨ad, e, hb, hc.trans ?_⟩
  rw [← hu]; simp [bov, hl]
end

set_option maxRecDepth 100000 in
set_option maxHeartbeats 4000000 in
theorem only_any (many : Nat) (gf : Nat) (lf : Array Value) (gi : Nat) (li : Array Value) (v : Nat → Int) (p : Nat → Bool) (w : World) (hm : many ≤ 1000000)
    (ef : ∀ args w, (callFunc gf args).run Tryz.prog w = .ok (.enter gf args) w) (ei : ∀ args w, (callFunc gi args).run Tryz.prog w = .ok (.enter gi args) w)
    (hf : ∀ (W : World) (n : Nat), Below w.heap.size w W → n < many → Calls Tryz.prog gf (#[.int .i64 (n : Int)] ++ lf) W fun e w' => e = .returned (.int .i64 (v n)) ∧ Below W.heap.size W w')
    (hi : ∀ (W : World) (n : Nat), Below w.heap.size w W → n < many → Calls Tryz.prog gi (#[.int .i64 (v n)] ++ li) W fun e w' => e = .returned (.bool (p n)) ∧ Below W.heap.size W w') :
    Calls Tryz.prog 36 #[.int .i64 (many : Int), .func (.func gf) #[] lf, .func (.func gi) #[] li] w fun e w' => e = .returned (.tuple #[.int .i64 ((Wk.onl p many).1 : Nat), .bool (decide ((Wk.onl p many).2 = 1))]) ∧ Below w.heap.size w w' := by
  have HF := Lib.hid hf
  have HI := Lib.hid hi
  clear hf hi
  go_enter Tryz.func36, Tryz.ntmps36
  go_wp2_with fail
  go_loopw [6, 8, 11] (fun x m i wr => ∃ j : Nat, j ≤ many ∧ i = .int .i64 j ∧ x = .int .i64 ((Wk.onl p j).1 : Nat) ∧ m = .int .i64 ((Wk.onl p j).2 : Nat) ∧ Below w.heap.size w wr) (fun _ _ i _ => many - (intOf i).toNat)
  case atStart => exact ⟨0, by omega, rfl, rfl, rfl, Below.refl _ _⟩
  case round =>
    obtain ⟨j, hj, rfl, rfl, rfl, hbt⟩ := hrel
    have l1 := Wk.onl_le p j
    have l2 := Wk.onl_lt p j
    by_cases hjn : j < many
    · have d1 : decide ((j : Int) < (many : Int)) = true := by simp; omega
      have HY := Lib.hid (Wk.onl_yes (p := p) (n := j))
      have HN := Lib.hid (Wk.onl_no (p := p) (n := j))
      have HFj := Lib.hid (fun W hb => HF.out W j hb hjn)
      have HIj := Lib.hid (fun W hb => HI.out W j hb hjn)
      generalize Wk.onl p j = o at *
      obtain ⟨o1, o2⟩ := o
      dsimp only at *
      go_wp2_with fail
      refine (HFj.out wr hbt).mono ?_
      rintro e w2 ⟨rfl, hb⟩
      have hb2 := hbt.trans (hb.mono hbt.size)
      clear hb
      go_wp2_with fail
      refine (HIj.out w2 hb2).mono ?_
      rintro e w3 ⟨rfl, hb⟩
      have hb3 := hb2.trans (hb.mono hb2.size)
      clear hb hb2 hbt HFj HIj
      cases hp : p j with
      | true =>
        have E := HY.out hp
        have HE := Lib.hid E
        clear E HY HN hp
        go_wp2_with fail
        go_roundw
        case rel => exact ⟨j + 1, by omega, by go_num, by rw [HE.out], by rw [HE.out]; go_num, hb3⟩
        case measure => simp [intOf]; omega
      | false =>
        have E := HN.out hp
        have HE := Lib.hid E
        clear E HY HN hp
        go_wp2_with fail
        go_roundw
        case rel => exact ⟨j + 1, by omega, by go_num, by rw [HE.out], by rw [HE.out], hb3⟩
        case measure => simp [intOf]; omega
    · obtain rfl : j = many := by omega
      have d1 : decide ((j : Int) < (j : Int)) = false := by simp
      have d2 : ((((Wk.onl p j).2 : Nat) : Int) == 1) = decide ((Wk.onl p j).2 = 1) := by rw [Bool.eq_iff_iff]; simp; omega
      go_wp2_with fail
      go_ret2
      exact ⟨rfl, hbt⟩

set_option maxRecDepth 100000 in
set_option maxHeartbeats 2000000 in
theorem of1_any (bA : Nat) (A : Option Addr) (n c : Nat) (l : List Bool) (v : Int) (w : World) (b : w.heap[bA]? = some (.cells #[.slice A n c] 39)) (h : RdO w w.heap.size A n c l) (hv : 0 ≤ v) :
    Calls Tryz.prog 35 (#[.int .i64 v] ++ #[.pointer (some ⟨bA, 0, none⟩)]) w fun e w' => e = .returned (.bool (Wk.holds l v)) ∧ Below w.heap.size w w' := by
  have m1 := h.max
  have m2 := h.le
  have HL := Lib.hid h.len
  have c0 := blk_cell (j := 0) b
  simp only [List.getElem?_toArray, List.getElem?_cons_zero] at c0
  obtain ⟨k, rfl⟩ : ∃ k : Nat, v = (k : Int) := ⟨v.toNat, by omega⟩
  by_cases hk : k < n
  · have hkl : k < l.length := by rw [HL.out]; exact hk
    obtain ⟨ad, rfl, _, x0⟩ := h.at_ hk hkl
    have d1 : decide ((k : Int) < (n : Int)) = true := by simp; omega
    have d2 : decide (k < n) = true := by simp; omega
    have HH : Hid (Wk.holds l (k : Int) = l[k]) := by
      show _ = _
      unfold Wk.holds
      rw [HL.out, d1, Int.toNat_natCast, Bool.true_and]
      simp [hkl]
    generalize l[k] = x at *
    go_enter Tryz.func35, Tryz.ntmps35
    go_wp2_with fail
    go_ret
    exact ⟨by rw [HH.out]; rfl, Below.refl _ _⟩
  · have d1 : decide ((k : Int) < (n : Int)) = false := by simp; omega
    have HH : Hid (Wk.holds l (k : Int) = false) := by
      show _ = _
      unfold Wk.holds
      rw [HL.out, d1, Bool.false_and]
    go_enter Tryz.func35, Tryz.ntmps35
    go_wp2_with fail
    go_ret
    exact ⟨by rw [HH.out]; rfl, Below.refl _ _⟩

set_option maxRecDepth 100000 in
set_option maxHeartbeats 2000000 in
theorem of2_any (f : Sc.Five) (bS bL : Nat) (l x : Int) (w : World) (b0 : w.heap[bS]? = some (.cells f.vals 28)) (b1 : w.heap[bL]? = some (.cells #[.int .i64 l] 3)) (mS : f.nS ≤ f.cS ∧ f.cS ≤ 9223372036854775807) (mR : f.nR ≤ f.cR ∧ f.cR ≤ 9223372036854775807) (mL : f.nL ≤ f.cL ∧ f.cL ≤ 9223372036854775807) (hs : f.nS ≤ 1000 ∧ f.nR ≤ 1000 ∧ f.nL ≤ 1000) :
    Calls Tryz.prog 37 (#[.int .i64 x] ++ #[.pointer (some ⟨bS, 0, none⟩), .pointer (some ⟨bL, 0, none⟩)]) w fun e w' => e = .returned (.int .i64 (Wk.atI f.nL f.nS l x)) ∧ Below w.heap.size w w' := by
  have h0 := b0
  unfold Sc.Five.vals at h0
  have d0 := blk_cell (j := 0) b1
  have c0 := blk_cell (j := 0) h0
  have c1 := blk_cell (j := 1) h0
  have c2 := blk_cell (j := 2) h0
  have c3 := blk_cell (j := 3) h0
  have c4 := blk_cell (j := 4) h0
  simp only [List.getElem?_toArray, List.getElem?_cons_zero, List.getElem?_cons_succ] at d0 c0 c1 c2 c3 c4
  go_enter Tryz.func37, Tryz.ntmps37
  go_wp2_with fail
  refine (wAt_any f l x w mS mR mL hs).mono ?_
  rintro e w2 ⟨rfl, hb⟩
  go_wp2_with fail
  go_ret
  exact ⟨rfl, hb⟩

set_option maxRecDepth 100000 in
set_option maxHeartbeats 2000000 in
theorem of3_any (f : Sc.Five) (bS bL : Nat) (l x : Int) (w : World) (b0 : w.heap[bS]? = some (.cells f.vals 28)) (b1 : w.heap[bL]? = some (.cells #[.int .i64 l] 3)) (mS : f.nS ≤ f.cS ∧ f.cS ≤ 9223372036854775807) (mR : f.nR ≤ f.cR ∧ f.cR ≤ 9223372036854775807) (mL : f.nL ≤ f.cL ∧ f.cL ≤ 9223372036854775807) (hs : f.nS ≤ 1000 ∧ f.nR ≤ 1000 ∧ f.nL ≤ 1000) :
    Calls Tryz.prog 38 (#[.int .i64 x] ++ #[.pointer (some ⟨bS, 0, none⟩), .pointer (some ⟨bL, 0, none⟩)]) w fun e w' => e = .returned (.int .i64 (Wk.inI f.nL f.nS f.nR l x)) ∧ Below w.heap.size w w' := by
  have h0 := b0
  unfold Sc.Five.vals at h0
  have d0 := blk_cell (j := 0) b1
  have c0 := blk_cell (j := 0) h0
  have c1 := blk_cell (j := 1) h0
  have c2 := blk_cell (j := 2) h0
  have c3 := blk_cell (j := 3) h0
  have c4 := blk_cell (j := 4) h0
  simp only [List.getElem?_toArray, List.getElem?_cons_zero, List.getElem?_cons_succ] at d0 c0 c1 c2 c3 c4
  go_enter Tryz.func38, Tryz.ntmps38
  go_wp2_with fail
  refine (wIn_any f l x w mS mR mL hs).mono ?_
  rintro e w2 ⟨rfl, hb⟩
  go_wp2_with fail
  go_ret
  exact ⟨rfl, hb⟩

theorem Wk.at_nonneg (L S : Nat) (l s : Int) : 0 ≤ Wk.atI L S l s := by
  unfold Wk.atI Wk.idx
  split
  · rename_i h
    have := Int.mul_nonneg h.1.1 (show (0 : Int) ≤ (S : Int) by omega)
    omega
  · omega
theorem Wk.in_nonneg (L S R : Nat) (l r : Int) : 0 ≤ Wk.inI L S R l r := by
  unfold Wk.inI Wk.idx
  split
  · rename_i h
    have := Int.mul_nonneg h.1.1 (show (0 : Int) ≤ (R : Int) by omega)
    have := Int.mul_nonneg (show (0 : Int) ≤ (L : Int) by omega) (show (0 : Int) ≤ (S : Int) by omega)
    omega
  · omega
theorem Wk.fill_step {N k : Nat} (F : Nat → Pl) (hk : k < N) : ((List.range k).map F ++ List.replicate (N - k) ((0, 0) : Pl)).set k (F k) = (List.range (k + 1)).map F ++ List.replicate (N - (k + 1)) (0, 0) := by
  rw [show N - k = (N - (k + 1)) + 1 by omega, List.replicate_succ, List.set_append_right _ _ (by simp), List.length_map, List.length_range, Nat.sub_self, List.set_cons_zero, List.range_succ, List.map_append, List.append_assoc]
  rfl
/-- A week in new memory, and an error. -/
def WkPost (R : List Pl × Int) (w : World) (e : Ending) (w' : World) : Prop :=
  ∃ v, e = .returned (.tuple #[.agg #[v], .int .i64 R.2]) ∧ w'.ownsRow w.heap.size 62 2 v R.1.length (pv R.1) ∧ Below w.heap.size w w'
theorem wkpost_err {R : List Pl × Int} {er : Int} {w w' : World} (hR : R = ([], er)) (hb : Below w.heap.size w w') : WkPost R w (.returned (.tuple #[.agg #[.slice none 0 0], .int .i64 er])) w' := by
  subst hR
  exact ⟨.slice none 0 0, rfl, World.ownsRow_nil _ _ _ _, hb⟩

set_option maxRecDepth 100000 in
set_option maxHeartbeats 4000000 in
theorem wOf_any (f : Sc.Five) (s : Sc.Sch) (A : Option Addr) (n c : Nat) (al : List Bool) (mx : Int) (w : World) (h : Sc.RdSch w w.heap.size f s) (ha : RdO w w.heap.size A n c al) (hm : w.cell? ⟨0, 0, none⟩ = some (.int .i64 mx)) (hs : f.nS ≤ 1000 ∧ f.nR ≤ 1000 ∧ f.nL ≤ 1000) :
    Calls Tryz.prog 18 #[.agg f.vals, .slice A n c] w (WkPost (Wk.ofR s al) w) := by
  have q1 := ha.max
  have q2 := ha.le
  have ha0 := ha
  have HLN := Lib.hid h.lens
  have mS : f.nS ≤ f.cS ∧ f.cS ≤ 9223372036854775807 := ⟨h.slots.le, h.slots.max⟩
  have mR : f.nR ≤ f.cR ∧ f.cR ≤ 9223372036854775807 := ⟨h.rooms.le, h.rooms.max⟩
  have mL : f.nL ≤ f.cL ∧ f.cL ≤ 9223372036854775807 := ⟨h.lessons.le, h.lessons.max⟩
  have hbt := Below.refl w.heap.size w
  obtain ⟨V1, hV⟩ : ∃ V1, V1 = w.alloc (.cells #[.slice f.aS f.nS f.cS, .slice f.aR f.nR f.cR, .slice f.aP f.nP f.cP, .slice f.aG f.nG f.cG, .slice f.aL f.nL f.cL] 28) := ⟨_, rfl⟩
  have b0 := blk_new hV
  have hb := below_new hV
  replace h := (h.below hb).more hb.size
  replace ha := (ha.below hb).more hb.size
  replace hbt := hbt.trans (hb.mono hbt.size)
  clear hb
  have HSV1 : Hid (V1.heap.size = w.heap.size + 1) := by show V1.heap.size = _; rw [hV, World.size_alloc]
  have HVV1 := Lib.hid hV.symm
  clear hV
  obtain ⟨V2, hV⟩ : ∃ V2, V2 = V1.alloc (.cells #[.slice A n c] 39) := ⟨_, rfl⟩
  have b1 := blk_new hV
  have hb := below_new hV
  replace h := (h.below hb).more hb.size
  replace ha := (ha.below hb).more hb.size
  replace b0 := blk_below b0 hb
  replace hbt := hbt.trans (hb.mono hbt.size)
  clear hb
  have HSV2 : Hid (V2.heap.size = V1.heap.size + 1) := by show V2.heap.size = _; rw [hV, World.size_alloc]
  have HVV2 := Lib.hid hV.symm
  clear hV
  rw [HSV1.out] at b1
  rw [← HVV1.out] at HVV2
  rw [HSV1.out] at HSV2
  obtain ⟨V3, hV⟩ : ∃ V3, V3 = V2.alloc (.cells #[.slice none 0 0] 31) := ⟨_, rfl⟩
  have b2 := blk_new hV
  have hb := below_new hV
  replace h := (h.below hb).more hb.size
  replace ha := (ha.below hb).more hb.size
  replace b0 := blk_below b0 hb
  replace b1 := blk_below b1 hb
  replace hbt := hbt.trans (hb.mono hbt.size)
  clear hb
  have HSV3 : Hid (V3.heap.size = V2.heap.size + 1) := by show V3.heap.size = _; rw [hV, World.size_alloc]
  have HVV3 := Lib.hid hV.symm
  clear hV
  rw [HSV2.out] at b2
  rw [← HVV2.out] at HVV3
  have hm2 : V3.cell? ⟨0, 0, none⟩ = some (.int .i64 mx) := (hbt.cell (World.block_lt_of_cell? _ _ hm)).trans hm
  unfold Sc.Five.vals
  have c0 := blk_cell (j := 0) b0
  simp only [List.getElem?_toArray, List.getElem?_cons_zero, List.getElem?_cons_succ] at c0
  have c1 := blk_cell (j := 1) b0
  simp only [List.getElem?_toArray, List.getElem?_cons_zero, List.getElem?_cons_succ] at c1
  have c2 := blk_cell (j := 2) b0
  simp only [List.getElem?_toArray, List.getElem?_cons_zero, List.getElem?_cons_succ] at c2
  have c3 := blk_cell (j := 3) b0
  simp only [List.getElem?_toArray, List.getElem?_cons_zero, List.getElem?_cons_succ] at c3
  have c4 := blk_cell (j := 4) b0
  simp only [List.getElem?_toArray, List.getElem?_cons_zero, List.getElem?_cons_succ] at c4
  rw [← HVV3.out] at c0 c1 c2 c3 c4
  go_enter Tryz.func18, Tryz.ntmps18
  go_wp2_with fail
  rw [HVV3.out]
  clear HVV3 HVV2 HVV1 HSV1 HSV2 HSV3 c0 c1 c2 c3 c4
  refine (sCheck_any f s mx V3 h hm2).mono ?_
  rintro e w3 ⟨rfl, hb⟩
  replace h := (h.below hb).more hb.size
  replace ha := (ha.below hb).more hb.size
  replace b0 := blk_below b0 hb
  replace b1 := blk_below b1 hb
  replace b2 := blk_below b2 hb
  replace hbt := hbt.trans (hb.mono hbt.size)
  clear hb
  clear hm2
  by_cases hE : Sc.chk s ≠ 0
  · have HC : Hid (Wk.ofR s al = ([], Sc.chk s)) := by show _ = _; unfold Wk.ofR; rw [if_pos hE]
    generalize Sc.chk s = er at *
    have dE : (er != 0) = true := by simp; omega
    have r0 := blk_cell (j := 0) b2
    have r1 := blk_frozen 0 b2
    simp only [List.getElem?_toArray, List.getElem?_cons_zero, List.getElem?_cons_succ] at r0
    have x2 := blk_set (k := 0) (.slice none 0 0) b2
    simp only [List.setIfInBounds_toArray, List.set_cons_zero, List.set_cons_succ] at x2
    go_wp2_with fail
    refine bodyPost_ret (results_cell_row2 rfl _ _ (w.heap.size + 1 + 1) 31 #[.slice none 0 0] (0, 0) _ rfl x2 Tryz.underlying31 rfl infoWeek) rfl ?_
    exact wkpost_err HC.out (hbt.setCell (p := ⟨w.heap.size + 1 + 1, 0, none⟩) (by simp; omega) _)
  · have hE : Sc.chk s = 0 := Classical.not_not.1 hE
    have HE := Lib.hid hE
    rw [hE]
    clear hE
    have c0 := blk_cell (j := 0) b0
    simp only [List.getElem?_toArray, List.getElem?_cons_zero, List.getElem?_cons_succ] at c0
    have c1 := blk_cell (j := 1) b0
    simp only [List.getElem?_toArray, List.getElem?_cons_zero, List.getElem?_cons_succ] at c1
    have c2 := blk_cell (j := 2) b0
    simp only [List.getElem?_toArray, List.getElem?_cons_zero, List.getElem?_cons_succ] at c2
    have c3 := blk_cell (j := 3) b0
    simp only [List.getElem?_toArray, List.getElem?_cons_zero, List.getElem?_cons_succ] at c3
    have c4 := blk_cell (j := 4) b0
    simp only [List.getElem?_toArray, List.getElem?_cons_zero, List.getElem?_cons_succ] at c4
    obtain ⟨i0, hi, hz0, hz1, hz2⟩ := info_parts elP.i
    have H2 := Lib.hid hz2
    clear hz2
    have hs1 := hbt.size
    go_wp2_with (at_make; refine wpList_make_full _ rfl _ _ 29 rfl w.heap.size 62 i0 (.agg #[.int .i64 0, .int .i64 0]) 2 Tryz.underlying29 hi hz0 hz1 _ _ _ _ f.nL rfl rfl rfl rfl (by rw [H2.out]; omega) (by unfold maxLen; omega) hs1 ?_; intro w4 hown hg4)
    have hb4 : Below w3.heap.size w3 w4 := below_of_grown hg4 (Nat.le_refl _) (fun g hg => by cases hg)
    rw [made_places] at hown
    have hz4 : w3.heap.size < w4.heap.size := own_some_lt hown
    clear c0 c1 c2 c3 c4
    have hb := hb4
    clear hb4 hg4
    replace h := (h.below hb).more hb.size
    replace ha := (ha.below hb).more hb.size
    replace b0 := blk_below b0 hb
    replace b1 := blk_below b1 hb
    replace b2 := blk_below b2 hb
    replace hbt := hbt.trans (hb.mono hbt.size)
    clear hb
    obtain ⟨V5, hV⟩ : ∃ V5, V5 = w4.alloc (.cells #[.slice (some ⟨w3.heap.size, 0, none⟩) f.nL f.nL] 31) := ⟨_, rfl⟩
    have b5 := blk_new hV
    have hb := below_new hV
    rw [← hV]
    clear hV
    replace h := (h.below hb).more hb.size
    replace ha := (ha.below hb).more hb.size
    replace b0 := blk_below b0 hb
    replace b1 := blk_below b1 hb
    replace b2 := blk_below b2 hb
    replace hown := own_below hown hb
    replace hbt := hbt.trans (hb.mono hbt.size)
    clear hb
    have hR : w.heap.size ≤ w3.heap.size := hs1
    generalize w3.heap.size = bR at *
    generalize w4.heap.size = bX at *
    obtain ⟨OK, hOK⟩ : ∃ OK : Nat → Prop, OK = Wk.ofOk f.nL f.nS f.nR al := ⟨_, rfl⟩
    obtain ⟨F, hF⟩ : ∃ F : Nat → Pl, F = Wk.ofPl f.nL f.nS f.nR al := ⟨_, rfl⟩
    have HGOOD : Hid ((∀ j, j < f.nL → OK j) → Wk.ofR s al = ((List.range f.nL).map F, 0)) := fun hh => by
      unfold Wk.ofR
      rw [HLN.out.1, HLN.out.2.1, HLN.out.2.2.2.2, if_neg (fun hq => hq HE.out), ← hOK, ← hF, if_pos hh]
    have HBAD : Hid (∀ j, j < f.nL → ¬ OK j → Wk.ofR s al = ([], 40)) := fun j hj hn => by
      unfold Wk.ofR
      rw [HLN.out.1, HLN.out.2.1, HLN.out.2.2.2.2, if_neg (fun hq => hq HE.out), ← hOK, if_neg (fun hq => hn (hq j hj))]
    have HOK := Lib.hid hOK
    have HF := Lib.hid hF
    clear hOK hF
    go_loopw [29] (fun iv wr => ∃ k : Nat, k ≤ f.nL ∧ iv = .int .i64 k ∧ (∀ j, j < k → OK j) ∧ wr.ownsRow w.heap.size 62 2 (.slice (some ⟨bR, 0, none⟩) f.nL f.nL) f.nL (pv ((List.range k).map F ++ List.replicate (f.nL - k) (0, 0))) ∧ wr.heap[bX]? = some (.cells #[.slice (some ⟨bR, 0, none⟩) f.nL f.nL] 31) ∧ wr.heap[w.heap.size]? = some (.cells f.vals 28) ∧ wr.heap[w.heap.size + 1]? = some (.cells #[.slice A n c] 39) ∧ wr.heap[w.heap.size + 1 + 1]? = some (.cells #[.slice none 0 0] 31) ∧ RdO wr wr.heap.size A n c al ∧ Below w.heap.size w wr) (fun iv _ => f.nL - (intOf iv).toNat)
    case atStart => exact ⟨0, by omega, rfl, (fun j hj => by omega), by simpa using hown, b5, b0, b1, b2, ha, hbt⟩
    case round =>
      clear hown b5 b0 b1 b2 ha hbt h
      obtain ⟨k, hk, rfl, hall, hown, b5, b0, b1, b2, ha, hbt⟩ := hrel
      have HALL := Lib.hid hall
      clear hall
      by_cases hkn : k < f.nL
      · have d1 : decide ((k : Int) < (f.nL : Int)) = true := by simp; omega
        have hne : bX ≠ bR := fun e => by have := own_blk_ne hown b5 (by decide) bR rfl; exact this e
        obtain ⟨V6, hV⟩ : ∃ V6, V6 = wr.alloc (.cells #[.int .i64 (k : Int)] 3) := ⟨_, rfl⟩
        have b6 := blk_new hV
        have hb := below_new hV
        have HV6 := Lib.hid hV.symm
        clear hV
        replace hown := own_below hown hb
        replace b5 := blk_below b5 hb
        replace b0 := blk_below b0 hb
        replace b1 := blk_below b1 hb
        replace b2 := blk_below b2 hb
        replace ha := (ha.below hb).more hb.size
        replace hbt := hbt.trans (hb.mono hbt.size)
        clear hb
        have b0u := b0
        unfold Sc.Five.vals at b0u
        have c0 := blk_cell (j := 0) b0u
        simp only [List.getElem?_toArray, List.getElem?_cons_zero, List.getElem?_cons_succ] at c0
        have c1 := blk_cell (j := 1) b0u
        simp only [List.getElem?_toArray, List.getElem?_cons_zero, List.getElem?_cons_succ] at c1
        have c2 := blk_cell (j := 2) b0u
        simp only [List.getElem?_toArray, List.getElem?_cons_zero, List.getElem?_cons_succ] at c2
        have c3 := blk_cell (j := 3) b0u
        simp only [List.getElem?_toArray, List.getElem?_cons_zero, List.getElem?_cons_succ] at c3
        have c4 := blk_cell (j := 4) b0u
        simp only [List.getElem?_toArray, List.getElem?_cons_zero, List.getElem?_cons_succ] at c4
        rw [← HV6.out] at c0 c1 c2 c3 c4
        go_wp2_with fail
        rw [HV6.out]
        clear c0 c1 c2 c3 c4 HV6 b0u
        refine (only_any f.nS 37 #[.pointer (some ⟨w.heap.size, 0, none⟩), .pointer (some ⟨wr.heap.size, 0, none⟩)] 35 #[.pointer (some ⟨w.heap.size + 1, 0, none⟩)] (fun x => Wk.atI f.nL f.nS (k : Int) (x : Int)) (fun x => Wk.holds al (Wk.atI f.nL f.nS (k : Int) (x : Int))) V6 (by omega) (enters_of Tryz.func37 (by kernel_rfl) rfl) (enters_of Tryz.func35 (by kernel_rfl) rfl)
          (fun W x hW _ => of2_any f w.heap.size wr.heap.size k x W (blk_below b0 hW) (blk_below b6 hW) mS mR mL hs)
          (fun W x hW _ => of1_any (w.heap.size + 1) A n c al _ W (blk_below b1 hW) ((ha.below hW).more hW.size) (Wk.at_nonneg _ _ _ _))).mono ?_
        rintro e w7 ⟨rfl, hb⟩
        replace hown := own_below hown hb
        replace b5 := blk_below b5 hb
        replace b0 := blk_below b0 hb
        replace b1 := blk_below b1 hb
        replace b2 := blk_below b2 hb
        replace ha := (ha.below hb).more hb.size
        replace b6 := blk_below b6 hb
        replace hbt := hbt.trans (hb.mono hbt.size)
        clear hb
        rw [show Wk.onl (fun x => Wk.holds al (Wk.atI f.nL f.nS (k : Int) (x : Int))) f.nS = Wk.slotOf f.nL f.nS al k from rfl]
        obtain ⟨S1, hS1⟩ : ∃ S1, S1 = Wk.slotOf f.nL f.nS al k := ⟨_, rfl⟩
        rw [← hS1]
        have HS1 := Lib.hid hS1
        clear hS1
        have b0u := b0
        unfold Sc.Five.vals at b0u
        have c0 := blk_cell (j := 0) b0u
        simp only [List.getElem?_toArray, List.getElem?_cons_zero, List.getElem?_cons_succ] at c0
        have c1 := blk_cell (j := 1) b0u
        simp only [List.getElem?_toArray, List.getElem?_cons_zero, List.getElem?_cons_succ] at c1
        have c2 := blk_cell (j := 2) b0u
        simp only [List.getElem?_toArray, List.getElem?_cons_zero, List.getElem?_cons_succ] at c2
        have c3 := blk_cell (j := 3) b0u
        simp only [List.getElem?_toArray, List.getElem?_cons_zero, List.getElem?_cons_succ] at c3
        have c4 := blk_cell (j := 4) b0u
        simp only [List.getElem?_toArray, List.getElem?_cons_zero, List.getElem?_cons_succ] at c4
        go_wp2_with fail
        clear c0 c1 c2 c3 c4 b0u
        refine (only_any f.nR 38 #[.pointer (some ⟨w.heap.size, 0, none⟩), .pointer (some ⟨wr.heap.size, 0, none⟩)] 35 #[.pointer (some ⟨w.heap.size + 1, 0, none⟩)] (fun x => Wk.inI f.nL f.nS f.nR (k : Int) (x : Int)) (fun x => Wk.holds al (Wk.inI f.nL f.nS f.nR (k : Int) (x : Int))) w7 (by omega) (enters_of Tryz.func38 (by kernel_rfl) rfl) (enters_of Tryz.func35 (by kernel_rfl) rfl)
          (fun W x hW _ => of3_any f w.heap.size wr.heap.size k x W (blk_below b0 hW) (blk_below b6 hW) mS mR mL hs)
          (fun W x hW _ => of1_any (w.heap.size + 1) A n c al _ W (blk_below b1 hW) ((ha.below hW).more hW.size) (Wk.in_nonneg _ _ _ _ _))).mono ?_
        rintro e w8 ⟨rfl, hb⟩
        replace hown := own_below hown hb
        replace b5 := blk_below b5 hb
        replace b0 := blk_below b0 hb
        replace b1 := blk_below b1 hb
        replace b2 := blk_below b2 hb
        replace ha := (ha.below hb).more hb.size
        replace b6 := blk_below b6 hb
        replace hbt := hbt.trans (hb.mono hbt.size)
        clear hb
        rw [show Wk.onl (fun x => Wk.holds al (Wk.inI f.nL f.nS f.nR (k : Int) (x : Int))) f.nR = Wk.roomOf f.nL f.nS f.nR al k from rfl]
        obtain ⟨R1, hR1⟩ : ∃ R1, R1 = Wk.roomOf f.nL f.nS f.nR al k := ⟨_, rfl⟩
        rw [← hR1]
        have HR1 := Lib.hid hR1
        clear hR1
        have HOKk : Hid (OK k ↔ S1.2 = 1 ∧ R1.2 = 1) := by show _ ↔ _; rw [HOK.out, HS1.out, HR1.out]; exact Iff.rfl
        have HFk : Hid (F k = ((S1.1 : Int), (R1.1 : Int))) := by show _ = _; rw [HF.out, HS1.out, HR1.out]; rfl
        have lS : S1.1 ≤ 1000 := by rw [HS1.out]; exact Nat.le_trans (Wk.onl_lt _ _) hs.1
        have lR : R1.1 ≤ 1000 := by rw [HR1.out]; exact Nat.le_trans (Wk.onl_lt _ _) hs.2.1
        obtain ⟨s1, s2⟩ := S1
        obtain ⟨r1, r2⟩ := R1
        dsimp only at *
        have r0 := blk_cell (j := 0) b2
        have rf := blk_frozen 0 b2
        simp only [List.getElem?_toArray, List.getElem?_cons_zero, List.getElem?_cons_succ] at r0
        by_cases h1 : ¬ s2 = 1
        · have e1 : decide (s2 = 1) = false := by simp; omega
          have HC := Lib.hid (HBAD.out k hkn (fun hq => h1 (HOKk.out.1 hq).1))
          clear h1
          have x2 := blk_set (k := 0) (.slice none 0 0) b2
          simp only [List.setIfInBounds_toArray, List.set_cons_zero, List.set_cons_succ] at x2
          go_wp2_with fail
          refine bodyPost_ret (results_cell_row2 rfl _ _ (w.heap.size + 1 + 1) 31 #[.slice none 0 0] (0, 0) _ rfl x2 Tryz.underlying31 rfl infoWeek) rfl ?_
          exact wkpost_err HC.out (hbt.setCell (p := ⟨w.heap.size + 1 + 1, 0, none⟩) (by simp; omega) _)
        · have h1 : s2 = 1 := Classical.not_not.1 h1
          have e1 : decide (s2 = 1) = true := by simp; omega
          by_cases h2 : ¬ r2 = 1
          · have e2 : decide (r2 = 1) = false := by simp; omega
            have HC := Lib.hid (HBAD.out k hkn (fun hq => h2 (HOKk.out.1 hq).2))
            clear h1 h2
            have x2 := blk_set (k := 0) (.slice none 0 0) b2
            simp only [List.setIfInBounds_toArray, List.set_cons_zero, List.set_cons_succ] at x2
            go_wp2_with fail
            refine bodyPost_ret (results_cell_row2 rfl _ _ (w.heap.size + 1 + 1) 31 #[.slice none 0 0] (0, 0) _ rfl x2 Tryz.underlying31 rfl infoWeek) rfl ?_
            exact wkpost_err HC.out (hbt.setCell (p := ⟨w.heap.size + 1 + 1, 0, none⟩) (by simp; omega) _)
          · have h2 : r2 = 1 := Classical.not_not.1 h2
            have e2 : decide (r2 = 1) = true := by simp; omega
            have HN : Hid (∀ j, j < k + 1 → OK j) := fun j hj => by
              by_cases hjk : j < k
              · exact HALL.out j hjk
              · have : j = k := by omega
                subst this
                exact HOKk.out.2 ⟨h1, h2⟩
            clear h1 h2 r0 rf
            have x0 := blk_cell (j := 0) b5
            simp only [List.getElem?_toArray, List.getElem?_cons_zero, List.getElem?_cons_succ] at x0
            have y0 := blk_cell (j := 0) b6
            simp only [List.getElem?_toArray, List.getElem?_cons_zero, List.getElem?_cons_succ] at y0
            obtain ⟨u0, z0⟩ := own_cell hown (j := k * 2) (by omega)
            obtain ⟨u1, z1⟩ := own_cell hown (j := k * 2 + 1) (by omega)
            have z2 := hown.frozenAt (k * 2)
            have z3 := hown.frozenAt (k * 2 + 1)
            have d4 : decide (k < f.nL) = true := by simp; omega
            have hst := ((hown.stored (k * 2) (.int .i64 (s1 : Int))).1.stored (k * 2 + 1) (.int .i64 (r1 : Int))).1
            have hln : k < ((List.range k).map F ++ List.replicate (f.nL - k) ((0, 0) : Pl)).length := by simp; omega
            have ep := pv_set2 ((List.range k).map F ++ List.replicate (f.nL - k) (0, 0)) k (F k) hln
            rw [HFk.out] at ep
            dsimp only at ep
            rw [ep, ← HFk.out, Wk.fill_step F hkn] at hst
            clear ep hln
            have n0 : w.heap.size ≠ bR := own_blk_ne hown b0 (by decide) bR rfl
            have n1 : w.heap.size + 1 ≠ bR := own_blk_ne hown b1 (by decide) bR rfl
            have n2 : w.heap.size + 1 + 1 ≠ bR := own_blk_ne hown b2 (by decide) bR rfl
            have tb5 := blk_other (p := ⟨bR, k * 2 + 1, none⟩) (.int .i64 (r1 : Int)) (blk_other (p := ⟨bR, k * 2, none⟩) (.int .i64 (s1 : Int)) b5 (Ne.symm hne)) (Ne.symm hne)
            have tb0 := blk_other (p := ⟨bR, k * 2 + 1, none⟩) (.int .i64 (r1 : Int)) (blk_other (p := ⟨bR, k * 2, none⟩) (.int .i64 (s1 : Int)) b0 (Ne.symm n0)) (Ne.symm n0)
            have tb1 := blk_other (p := ⟨bR, k * 2 + 1, none⟩) (.int .i64 (r1 : Int)) (blk_other (p := ⟨bR, k * 2, none⟩) (.int .i64 (s1 : Int)) b1 (Ne.symm n1)) (Ne.symm n1)
            have tb2 := blk_other (p := ⟨bR, k * 2 + 1, none⟩) (.int .i64 (r1 : Int)) (blk_other (p := ⟨bR, k * 2, none⟩) (.int .i64 (s1 : Int)) b2 (Ne.symm n2)) (Ne.symm n2)
            have hbt2 := (hbt.setCell (p := ⟨bR, k * 2, none⟩) hR (.int .i64 (s1 : Int))).setCell (p := ⟨bR, k * 2 + 1, none⟩) hR (.int .i64 (r1 : Int))
            have ha2 := (ha0.below hbt2).more hbt2.size
            go_wp2_with fail
            go_roundw
            case rel => exact ⟨k + 1, by omega, by go_num, HN.out, hst, tb5, tb0, tb1, tb2, ha2, hbt2⟩
            case measure => simp [intOf]; omega
      · obtain rfl : k = f.nL := by omega
        have d1 : decide ((f.nL : Int) < (f.nL : Int)) = false := by simp
        have HC := Lib.hid (HGOOD.out HALL.out)
        rw [Nat.sub_self, List.replicate_zero, List.append_nil] at hown
        have x0 := blk_cell (j := 0) b5
        simp only [List.getElem?_toArray, List.getElem?_cons_zero, List.getElem?_cons_succ] at x0
        have r0 := blk_cell (j := 0) b2
        have rf := blk_frozen 0 b2
        simp only [List.getElem?_toArray, List.getElem?_cons_zero, List.getElem?_cons_succ] at r0
        have x2 := blk_set (k := 0) (.slice (some ⟨bR, 0, none⟩) f.nL f.nL) b2
        simp only [List.setIfInBounds_toArray, List.set_cons_zero, List.set_cons_succ] at x2
        have n2 := own_blk_ne hown b2 (by decide)
        go_wp2_with fail
        refine bodyPost_ret (results_cell_row2 rfl _ _ (w.heap.size + 1 + 1) 31 #[.slice (some ⟨bR, 0, none⟩) f.nL f.nL] (0, 0) _ rfl x2 Tryz.underlying31 rfl infoWeek) rfl ?_
        rw [HC.out]
        refine ⟨_, rfl, ?_, hbt.setCell (p := ⟨w.heap.size + 1 + 1, 0, none⟩) (by simp; omega) _⟩
        show World.ownsRow _ _ _ _ _ ((List.range f.nL).map F).length _
        rw [List.length_map, List.length_range]
        exact own_set hown n2
end Go.Proofs.YtojbjaklngdlcaaGreatDoor
