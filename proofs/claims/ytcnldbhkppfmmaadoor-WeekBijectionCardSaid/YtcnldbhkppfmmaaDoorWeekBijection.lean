/-
  WeekBijection, walked.
-/
import Derived.Test.YtcnldbhkppfmmaaDoorFew4
import Derived.Test.YtcnldbhkppfmmaaDoorRtP
namespace Go.Proofs.YtcnldbhkppfmmaaDoor
open Go.RowKit Go.Shelf
set_option linter.unusedVariables false
set_option linter.unusedSimpArgs false

/-- The variable of the k-th of a lesson's slots and rooms. -/
def Wk.vr (L S R i k : Nat) : Nat := if k < S then i * S + k + 1 else L * S + i * R + (k - S) + 1
theorem Wk.vr_le {L S R i k : Nat} (hi : i < L) (hk : k < S + R) : 1 ≤ Wk.vr L S R i k ∧ Wk.vr L S R i k ≤ L * (S + R) := by
  unfold Wk.vr
  rw [Nat.mul_add]
  split
  · rename_i h; have := Wk.mul_lt hi h; omega
  · rename_i h; have := Wk.mul_lt hi (show k - S < R by omega); omega
theorem Wk.vr_inj {L S R i k i' k' : Nat} (hi : i < L) (hk : k < S + R) (hi' : i' < L) (hk' : k' < S + R) (e : Wk.vr L S R i k = Wk.vr L S R i' k') : i = i' ∧ k = k' := by
  unfold Wk.vr at e
  by_cases h1 : k < S <;> by_cases h2 : k' < S
  · rw [if_pos h1, if_pos h2] at e
    exact Wk.mix_inj h1 h2 (Nat.succ.inj e)
  · rw [if_pos h1, if_neg h2] at e
    have := Wk.mul_lt hi h1
    omega
  · rw [if_neg h1, if_pos h2] at e
    have := Wk.mul_lt hi' h2
    omega
  · rw [if_neg h1, if_neg h2] at e
    have h3 : i * R + (k - S) = i' * R + (k' - S) := by have := Nat.succ.inj e; rw [Nat.add_assoc, Nat.add_assoc] at this; exact Nat.add_left_cancel this
    obtain ⟨e1, e2⟩ := Wk.mix_inj (show k - S < R by omega) (show k' - S < R by omega) h3
    exact ⟨e1, by omega⟩
/-- Which variables have been met ahead of (i, k). -/
def Wk.metOk (L S R i k : Nat) (m : List Bool) : Prop := ∀ v : Nat, m[v]? = some true → ∃ i' k', (i' < i ∨ (i' = i ∧ k' < k)) ∧ i' < L ∧ k' < S + R ∧ Wk.vr L S R i' k' = v
theorem Wk.met_not {L S R i k : Nat} {m : List Bool} (h : Wk.metOk L S R i k m) (hi : i < L) (hk : k < S + R) (hl : Wk.vr L S R i k < m.length) : m[Wk.vr L S R i k] = false := by
  cases hb : m[Wk.vr L S R i k] with
  | false => rfl
  | true =>
    obtain ⟨i', k', h1, h2, h3, h4⟩ := h (Wk.vr L S R i k) (by rw [List.getElem?_eq_getElem hl, hb])
    obtain ⟨e1, e2⟩ := Wk.vr_inj h2 h3 hi hk h4
    omega
theorem Wk.met_step {L S R i k : Nat} {m : List Bool} (h : Wk.metOk L S R i k m) (hi : i < L) (hk : k < S + R) : Wk.metOk L S R i (k + 1) (m.set (Wk.vr L S R i k) true) := by
  intro v hv
  rw [List.getElem?_set] at hv
  split at hv
  · rename_i e
    exact ⟨i, k, .inr ⟨rfl, by omega⟩, hi, hk, e⟩
  · obtain ⟨i', k', h1, h2⟩ := h v hv
    exact ⟨i', k', by omega, h2⟩
theorem Wk.met_next {L S R i : Nat} {m : List Bool} (h : Wk.metOk L S R i (S + R) m) : Wk.metOk L S R (i + 1) 0 m := by
  intro v hv
  obtain ⟨i', k', h1, h2⟩ := h v hv
  exact ⟨i', k', by omega, h2⟩
theorem bov_get {m : List Bool} {v : Nat} (h : v < m.length) : (bov m)[v]? = some (.bool m[v]) := by unfold bov; rw [List.getElem?_map, List.getElem?_eq_getElem h]; rfl

set_option maxRecDepth 100000 in
set_option maxHeartbeats 3000000 in
theorem weekBijection_any (f : Sc.Five) (s : Sc.Sch)  (mx : Int) (w : World) (hS : Sc.RdSch w w.heap.size f s) (hF : f.nS ≤ 5864062014805 ∧ f.nR ≤ 5864062014805 ∧ f.nP ≤ 5864062014805 ∧ f.nG ≤ 5864062014805 ∧ f.nL ≤ 5864062014805)  (hm : w.cell? ⟨0, 0, none⟩ = some (.int .i64 mx)) :
    Calls Tryd.prog 7 #[.agg f.vals] w fun e w' => e = .returned (.bool true) ∧ Below w.heap.size w w' := by
  have hbt := Below.refl w.heap.size w
  have HF := Lib.hid hF
  clear hF
  have HLN := Lib.hid hS.lens
  have mS : f.nS ≤ f.cS ∧ f.cS ≤ 9223372036854775807 := ⟨hS.slots.le, hS.slots.max⟩
  have mR : f.nR ≤ f.cR ∧ f.cR ≤ 9223372036854775807 := ⟨hS.rooms.le, hS.rooms.max⟩
  have mP : f.nP ≤ f.cP ∧ f.cP ≤ 9223372036854775807 := ⟨hS.people.le, hS.people.max⟩
  have mG : f.nG ≤ f.cG ∧ f.cG ≤ 9223372036854775807 := ⟨hS.groups.le, hS.groups.max⟩
  have mL : f.nL ≤ f.cL ∧ f.cL ≤ 9223372036854775807 := ⟨hS.lessons.le, hS.lessons.max⟩
  obtain ⟨V1, hV⟩ : ∃ V1, V1 = w.alloc (.cells #[.slice f.aS f.nS f.cS, .slice f.aR f.nR f.cR, .slice f.aP f.nP f.cP, .slice f.aG f.nG f.cG, .slice f.aL f.nL f.cL] 45) := ⟨_, rfl⟩
  have b0 := blk_new hV
  have hb := below_new hV
  replace hS := (hS.below hb).more hb.size
  replace hm := (hb.cell (World.block_lt_of_cell? _ _ hm)).trans hm
  replace hbt := hbt.trans (hb.mono hbt.size)
  clear hb
  have HSV1 : Hid (V1.heap.size = w.heap.size + 1) := by show V1.heap.size = _; rw [hV, World.size_alloc]
  have HVV1 := Lib.hid hV.symm
  clear hV
  clear HSV1
  unfold Sc.Five.vals
  go_enter Tryd.func7, Tryd.ntmps7
  go_wp2_with fail
  rw [HVV1.out]
  clear HVV1
  refine (live4_any mx V1 hm).mono ?_
  rintro e w1 ⟨rfl, hb⟩
  replace hS := (hS.below hb).more hb.size
  replace hm := (hb.cell (World.block_lt_of_cell? _ _ hm)).trans hm
  replace b0 := blk_below b0 hb
  replace hbt := hbt.trans (hb.mono hbt.size)
  clear hb
  have c0 := blk_cell (j := 0) b0
  simp only [List.getElem?_toArray, List.getElem?_cons_zero, List.getElem?_cons_succ] at c0
  have c1 := blk_cell (j := 1) b0
  simp only [List.getElem?_toArray, List.getElem?_cons_zero, List.getElem?_cons_succ] at c1
  have c2 := blk_cell (j := 2) b0
  simp only [List.getElem?_toArray, List.getElem?_cons_zero, List.getElem?_cons_succ] at c2
  have c3 := blk_cell (j := 3) b0
  simp only [List.getElem?_toArray, List.getElem?_cons_zero, List.getElem?_cons_succ] at c3
  have c4 := blk_cell (j := 4) b0
  simp only [List.getElem?_toArray, List.getElem?_cons_zero, List.getElem?_cons_succ] at c4
  go_wp2_with fail
  clear c0 c1 c2 c3 c4
  refine (few4_any f s none 0 0 w1 hS HF.out ⟨by omega, by omega⟩).mono ?_
  rintro e w2 ⟨bo, rfl, hbo, hb⟩
  have HB := Lib.hid hbo
  clear hbo
  replace hS := (hS.below hb).more hb.size
  replace hm := (hb.cell (World.block_lt_of_cell? _ _ hm)).trans hm
  replace b0 := blk_below b0 hb
  replace hbt := hbt.trans (hb.mono hbt.size)
  clear hb
  cases bo with
  | false =>
    go_wp2_with fail
    go_ret
    exact ⟨rfl, hbt⟩
  | true =>
    obtain ⟨⟨s1, s2, s3, s4, s5⟩, _⟩ := HB.out rfl
    clear HB
    have hs : f.nS ≤ 1000 ∧ f.nR ≤ 1000 ∧ f.nL ≤ 1000 := ⟨by omega, by omega, by omega⟩
    have c0 := blk_cell (j := 0) b0
    simp only [List.getElem?_toArray, List.getElem?_cons_zero, List.getElem?_cons_succ] at c0
    have c1 := blk_cell (j := 1) b0
    simp only [List.getElem?_toArray, List.getElem?_cons_zero, List.getElem?_cons_succ] at c1
    have c2 := blk_cell (j := 2) b0
    simp only [List.getElem?_toArray, List.getElem?_cons_zero, List.getElem?_cons_succ] at c2
    have c3 := blk_cell (j := 3) b0
    simp only [List.getElem?_toArray, List.getElem?_cons_zero, List.getElem?_cons_succ] at c3
    have c4 := blk_cell (j := 4) b0
    simp only [List.getElem?_toArray, List.getElem?_cons_zero, List.getElem?_cons_succ] at c4
    by_cases h1 : 20 < f.nL
    · have th1 : decide ((20 : Int) < (f.nL : Int)) = true := by simp; omega
      have uh1 : decide (20 < f.nL) = true := by simp; omega
      go_wp2_with fail
      go_ret
      exact ⟨rfl, hbt⟩
    · have th1 : decide ((20 : Int) < (f.nL : Int)) = false := by simp; omega
      have uh1 : decide (20 < f.nL) = false := by simp; omega
      by_cases h2 : 60 < f.nS
      · have th2 : decide ((60 : Int) < (f.nS : Int)) = true := by simp; omega
        have uh2 : decide (60 < f.nS) = true := by simp; omega
        go_wp2_with fail
        go_ret
        exact ⟨rfl, hbt⟩
      · have th2 : decide ((60 : Int) < (f.nS : Int)) = false := by simp; omega
        have uh2 : decide (60 < f.nS) = false := by simp; omega
        by_cases h3 : 40 < f.nR
        · have th3 : decide ((40 : Int) < (f.nR : Int)) = true := by simp; omega
          have uh3 : decide (40 < f.nR) = true := by simp; omega
          go_wp2_with fail
          go_ret
          exact ⟨rfl, hbt⟩
        · have th3 : decide ((40 : Int) < (f.nR : Int)) = false := by simp; omega
          have uh3 : decide (40 < f.nR) = false := by simp; omega
          go_wp2_with fail
          clear c0 c1 c2 c3 c4
          refine (wVars_any f w2 mS mR mL hs).mono ?_
          rintro e w3 ⟨rfl, hb⟩
          replace hS := (hS.below hb).more hb.size
          replace hm := (hb.cell (World.block_lt_of_cell? _ _ hm)).trans hm
          replace b0 := blk_below b0 hb
          replace hbt := hbt.trans (hb.mono hbt.size)
          clear hb
          have hprod : f.nL * (f.nS + f.nR) ≤ 2000000 := Nat.le_trans (Nat.mul_le_mul hs.2.2 (show f.nS + f.nR ≤ 2000 by omega)) (by omega)
          obtain ⟨V, hV⟩ : ∃ V, V = f.nL * (f.nS + f.nR) := ⟨_, rfl⟩
          have HV := Lib.hid hV
          have hpI : (f.nL : Int) * ((f.nS : Int) + (f.nR : Int)) = (V : Int) := by rw [hV]; simp
          rw [← hV] at hprod ⊢
          clear hV
          have dV : ((V : Int) != (V : Int)) = false := by simp
          obtain ⟨i0, hi, hz0, hz1, hz2⟩ := info_parts elO.i
          have H2 := Lib.hid hz2
          clear hz2
          have hs1 := hbt.size
          have c0 := blk_cell (j := 0) b0
          simp only [List.getElem?_toArray, List.getElem?_cons_zero, List.getElem?_cons_succ] at c0
          have c1 := blk_cell (j := 1) b0
          simp only [List.getElem?_toArray, List.getElem?_cons_zero, List.getElem?_cons_succ] at c1
          have c2 := blk_cell (j := 2) b0
          simp only [List.getElem?_toArray, List.getElem?_cons_zero, List.getElem?_cons_succ] at c2
          have c3 := blk_cell (j := 3) b0
          simp only [List.getElem?_toArray, List.getElem?_cons_zero, List.getElem?_cons_succ] at c3
          have c4 := blk_cell (j := 4) b0
          simp only [List.getElem?_toArray, List.getElem?_cons_zero, List.getElem?_cons_succ] at c4
          go_wp2_with (at_make; refine wpList_make_full _ rfl _ _ 46 rfl w.heap.size 4 i0 (.bool false) 1 Tryd.underlying46 hi hz0 hz1 _ _ _ _ (V + 1) rfl rfl rfl rfl (by rw [H2.out]; omega) (by unfold maxLen; omega) hs1 ?_; intro w4 hown hg4; have hb4 : Below w3.heap.size w3 w4 := below_of_grown hg4 (Nat.le_refl _) (fun g hg => by cases hg); have e4 := blk_cell (j := 4) (blk_below b0 hb4); simp only [List.getElem?_toArray, List.getElem?_cons_zero, List.getElem?_cons_succ] at e4)
          clear c0 c1 c2 c3 c4
          rw [made_bools] at hown
          have hb := hb4
          clear hb4 hg4 e4 hpI dV
          replace hS := (hS.below hb).more hb.size
          replace hm := (hb.cell (World.block_lt_of_cell? _ _ hm)).trans hm
          replace b0 := blk_below b0 hb
          replace hbt := hbt.trans (hb.mono hbt.size)
          clear hb
          generalize w3.heap.size = bR at *
          have hR : w.heap.size ≤ bR := hs1
          go_loopw [5, 6] (fun nv iv wr => ∃ (i : Nat) (m : List Bool), i ≤ f.nL ∧ iv = .int .i64 i ∧ nv = .int .i64 ((i * (f.nS + f.nR) : Nat) : Int) ∧ m.length = V + 1 ∧ Wk.metOk f.nL f.nS f.nR i 0 m ∧ wr.ownsRow w.heap.size 4 1 (.slice (some ⟨bR, 0, none⟩) (V + 1) (V + 1)) (V + 1) (bov m) ∧ wr.heap[w.heap.size]? = some (.cells #[.slice f.aS f.nS f.cS, .slice f.aR f.nR f.cR, .slice f.aP f.nP f.cP, .slice f.aG f.nG f.cG, .slice f.aL f.nL f.cL] 45) ∧ Below w.heap.size w wr) (fun _ iv _ => f.nL - (intOf iv).toNat)
          case atStart => exact ⟨0, List.replicate (V + 1) false, by omega, rfl, by simp, by simp, (fun v hv => by rw [List.getElem?_replicate] at hv; split at hv <;> simp at hv), hown, b0, hbt⟩
          case round =>
            have h0w := hS
            clear hown b0
            obtain ⟨i, m, hi, rfl, rfl, hm0, hmet, hown, b0, hbt2⟩ := hrel
            have HMET := Lib.hid hmet
            have HM0 := Lib.hid hm0
            clear hmet hm0
            clear hbt
            have hbt := hbt2
            clear hbt2
            have c0 := blk_cell (j := 0) b0
            simp only [List.getElem?_toArray, List.getElem?_cons_zero, List.getElem?_cons_succ] at c0
            have c1 := blk_cell (j := 1) b0
            simp only [List.getElem?_toArray, List.getElem?_cons_zero, List.getElem?_cons_succ] at c1
            have c2 := blk_cell (j := 2) b0
            simp only [List.getElem?_toArray, List.getElem?_cons_zero, List.getElem?_cons_succ] at c2
            have c3 := blk_cell (j := 3) b0
            simp only [List.getElem?_toArray, List.getElem?_cons_zero, List.getElem?_cons_succ] at c3
            have c4 := blk_cell (j := 4) b0
            simp only [List.getElem?_toArray, List.getElem?_cons_zero, List.getElem?_cons_succ] at c4
            by_cases hi1 : i < f.nL
            · have t1 : decide ((i : Int) < (f.nL : Int)) = true := by simp; omega
              go_wp2_with fail
              clear c0 c1 c2 c3 c4
              have hiV : i * (f.nS + f.nR) + (f.nS + f.nR) ≤ V := by
                have := Nat.mul_le_mul_right (f.nS + f.nR) (show i + 1 ≤ f.nL by omega)
                rw [← HV.out, Nat.succ_mul] at this
                exact this
              obtain ⟨z, hz⟩ : ∃ z, z = i * (f.nS + f.nR) := ⟨_, rfl⟩
              rw [← hz] at hiV ⊢
              have HZ := Lib.hid hz
              clear hz
              go_loopw [5, 7] (fun nv kv wr => ∃ (k : Nat) (m : List Bool), k ≤ f.nS + f.nR ∧ kv = .int .i64 k ∧ nv = .int .i64 ((z + k : Nat) : Int) ∧ m.length = V + 1 ∧ Wk.metOk f.nL f.nS f.nR i k m ∧ wr.ownsRow w.heap.size 4 1 (.slice (some ⟨bR, 0, none⟩) (V + 1) (V + 1)) (V + 1) (bov m) ∧ wr.heap[w.heap.size]? = some (.cells #[.slice f.aS f.nS f.cS, .slice f.aR f.nR f.cR, .slice f.aP f.nP f.cP, .slice f.aG f.nG f.cG, .slice f.aL f.nL f.cL] 45) ∧ Below w.heap.size w wr) (fun _ kv _ => f.nS + f.nR - (intOf kv).toNat)
              case atStart => exact ⟨0, m, by omega, rfl, by simp, HM0.out, HMET.out, hown, b0, hbt⟩
              case round =>
                clear HM0 HMET hown b0 hbt
                obtain ⟨k, m, hk, rfl, rfl, hm0, hmet, hown, b0, hbt⟩ := hrel
                have HMET := Lib.hid hmet
                have HM1 := Lib.hid hm0
                clear hmet hm0
                have c0 := blk_cell (j := 0) b0
                simp only [List.getElem?_toArray, List.getElem?_cons_zero, List.getElem?_cons_succ] at c0
                have c1 := blk_cell (j := 1) b0
                simp only [List.getElem?_toArray, List.getElem?_cons_zero, List.getElem?_cons_succ] at c1
                have c2 := blk_cell (j := 2) b0
                simp only [List.getElem?_toArray, List.getElem?_cons_zero, List.getElem?_cons_succ] at c2
                have c3 := blk_cell (j := 3) b0
                simp only [List.getElem?_toArray, List.getElem?_cons_zero, List.getElem?_cons_succ] at c3
                have c4 := blk_cell (j := 4) b0
                simp only [List.getElem?_toArray, List.getElem?_cons_zero, List.getElem?_cons_succ] at c4
                by_cases hk1 : k < f.nS + f.nR
                · have t2 : decide ((k : Int) < (f.nS : Int) + (f.nR : Int)) = true := by simp; omega
                  go_wp2_with fail
                  clear c0 c1 c2 c3 c4
                  refine (wAt_any f i k wr mS mR mL hs).mono ?_
                  rintro e w5 ⟨rfl, hb⟩
                  replace b0 := blk_below b0 hb
                  replace hown := own_below hown hb
                  replace hbt := hbt.trans (hb.mono hbt.size)
                  clear hb
                  have hvl := Wk.vr_le hi1 hk1
                  rw [← HV.out] at hvl
                  have hvm : Wk.vr f.nL f.nS f.nR i k < m.length := by rw [HM1.out]; omega
                  have hmf := Wk.met_not HMET.out hi1 hk1 hvm
                  have HST := Lib.hid (Wk.met_step HMET.out hi1 hk1)
                  by_cases hkS : k < f.nS
                  · have ea : Wk.atI f.nL f.nS (i : Int) (k : Int) = ((Wk.vr f.nL f.nS f.nR i k : Nat) : Int) := by rw [Wk.at_nat hi1 hkS]; unfold Wk.vr; rw [if_pos hkS]
                    rw [ea]
                    clear ea
                    have t3 : decide ((f.nS : Int) ≤ (k : Int)) = false := by simp; omega
                    generalize Wk.vr f.nL f.nS f.nR i k = v at *
                    have c0 := blk_cell (j := 0) b0
                    simp only [List.getElem?_toArray, List.getElem?_cons_zero, List.getElem?_cons_succ] at c0
                    have c1 := blk_cell (j := 1) b0
                    simp only [List.getElem?_toArray, List.getElem?_cons_zero, List.getElem?_cons_succ] at c1
                    have c2 := blk_cell (j := 2) b0
                    simp only [List.getElem?_toArray, List.getElem?_cons_zero, List.getElem?_cons_succ] at c2
                    have c3 := blk_cell (j := 3) b0
                    simp only [List.getElem?_toArray, List.getElem?_cons_zero, List.getElem?_cons_succ] at c3
                    have c4 := blk_cell (j := 4) b0
                    simp only [List.getElem?_toArray, List.getElem?_cons_zero, List.getElem?_cons_succ] at c4
                    have z0 := hown.cellAt v (by omega)
                    rw [bov_get hvm, hmf] at z0
                    clear hvm hmf
                    have z1 := hown.frozenAt v
                    have t6 : decide ((v : Int) < 1) = false := by simp; omega
                    have t7 : decide ((V : Int) < (v : Int)) = false := by simp; omega
                    have t8 : decide (v < V + 1) = true := by simp; omega
                    have hst := (hown.stored v (.bool true)).1
                    rw [bov_set] at hst
                    have n0 : bR ≠ w.heap.size := own_blk_ne hown b0 (by decide) bR rfl |> fun h e => h e.symm
                    have b0s := blk_other (p := ⟨bR, v, none⟩) (.bool true) b0 n0
                    have hbts := hbt.setCell (p := ⟨bR, v, none⟩) hR (.bool true)
                    go_wp2_with fail
                    go_roundw
                    case rel => exact ⟨k + 1, _, by omega, by go_num, by go_num, by rw [List.length_set]; exact HM1.out, HST.out, hst, b0s, hbts⟩
                    case measure => simp [intOf]; omega
                  · have t3 : decide ((f.nS : Int) ≤ (k : Int)) = true := by simp; omega
                    generalize Wk.atI f.nL f.nS (i : Int) (k : Int) = oldv
                    obtain ⟨k', hk'⟩ : ∃ k', k' = k - f.nS := ⟨_, rfl⟩
                    have EK : Hid ((k : Int) - (f.nS : Int) = (k' : Int)) := by show _ = _; omega
                    have HK2 := Lib.hid hk'
                    have k1 : k' < f.nR := by omega
                    clear hk'
                    have c0 := blk_cell (j := 0) b0
                    simp only [List.getElem?_toArray, List.getElem?_cons_zero, List.getElem?_cons_succ] at c0
                    have c1 := blk_cell (j := 1) b0
                    simp only [List.getElem?_toArray, List.getElem?_cons_zero, List.getElem?_cons_succ] at c1
                    have c2 := blk_cell (j := 2) b0
                    simp only [List.getElem?_toArray, List.getElem?_cons_zero, List.getElem?_cons_succ] at c2
                    have c3 := blk_cell (j := 3) b0
                    simp only [List.getElem?_toArray, List.getElem?_cons_zero, List.getElem?_cons_succ] at c3
                    have c4 := blk_cell (j := 4) b0
                    simp only [List.getElem?_toArray, List.getElem?_cons_zero, List.getElem?_cons_succ] at c4
                    go_wp2_with fail
                    clear c0 c1 c2 c3 c4
                    rw [EK.out]
                    refine (wIn_any f i k' w5 mS mR mL hs).mono ?_
                    rintro e w6 ⟨rfl, hb⟩
                    replace b0 := blk_below b0 hb
                    replace hown := own_below hown hb
                    replace hbt := hbt.trans (hb.mono hbt.size)
                    clear hb
                    have ea : Wk.inI f.nL f.nS f.nR (i : Int) (k' : Int) = ((Wk.vr f.nL f.nS f.nR i k : Nat) : Int) := by rw [Wk.in_nat hi1 k1]; unfold Wk.vr; rw [if_neg hkS, HK2.out]
                    rw [ea]
                    clear ea
                    generalize Wk.vr f.nL f.nS f.nR i k = v at *
                    have c0 := blk_cell (j := 0) b0
                    simp only [List.getElem?_toArray, List.getElem?_cons_zero, List.getElem?_cons_succ] at c0
                    have c1 := blk_cell (j := 1) b0
                    simp only [List.getElem?_toArray, List.getElem?_cons_zero, List.getElem?_cons_succ] at c1
                    have c2 := blk_cell (j := 2) b0
                    simp only [List.getElem?_toArray, List.getElem?_cons_zero, List.getElem?_cons_succ] at c2
                    have c3 := blk_cell (j := 3) b0
                    simp only [List.getElem?_toArray, List.getElem?_cons_zero, List.getElem?_cons_succ] at c3
                    have c4 := blk_cell (j := 4) b0
                    simp only [List.getElem?_toArray, List.getElem?_cons_zero, List.getElem?_cons_succ] at c4
                    have z0 := hown.cellAt v (by omega)
                    rw [bov_get hvm, hmf] at z0
                    clear hvm hmf
                    have z1 := hown.frozenAt v
                    have t6 : decide ((v : Int) < 1) = false := by simp; omega
                    have t7 : decide ((V : Int) < (v : Int)) = false := by simp; omega
                    have t8 : decide (v < V + 1) = true := by simp; omega
                    have hst := (hown.stored v (.bool true)).1
                    rw [bov_set] at hst
                    have n0 : bR ≠ w.heap.size := own_blk_ne hown b0 (by decide) bR rfl |> fun h e => h e.symm
                    have b0s := blk_other (p := ⟨bR, v, none⟩) (.bool true) b0 n0
                    have hbts := hbt.setCell (p := ⟨bR, v, none⟩) hR (.bool true)
                    go_wp2_with fail
                    go_roundw
                    case rel => exact ⟨k + 1, _, by omega, by go_num, by go_num, by rw [List.length_set]; exact HM1.out, HST.out, hst, b0s, hbts⟩
                    case measure => simp [intOf]; omega
                · obtain rfl : k = f.nS + f.nR := by omega
                  have t2 : decide (((f.nS + f.nR : Nat) : Int) < (f.nS : Int) + (f.nR : Int)) = false := by simp
                  have HNX := Lib.hid (Wk.met_next HMET.out)
                  have HZ2 : Hid (z + (f.nS + f.nR) = (i + 1) * (f.nS + f.nR)) := by show _ = _; rw [HZ.out, Nat.succ_mul]
                  go_wp2_with fail
                  go_roundw
                  case rel => exact ⟨i + 1, m, by omega, by go_num, by rw [← HZ2.out], HM1.out, HNX.out, hown, b0, hbt⟩
                  case measure => simp [intOf]; omega
            · obtain rfl : i = f.nL := by omega
              have t1 : decide ((f.nL : Int) < (f.nL : Int)) = false := by simp
              rw [← HV.out]
              have dV : ((V : Int) == (V : Int)) = true := by simp
              go_wp2_with fail
              clear c0 c1 c2 c3 c4
              refine (wAt_any f (-1) 0 wr mS mR mL hs).mono ?_
              rintro e w5 ⟨rfl, hb⟩
              rw [show Wk.atI f.nL f.nS (-1) 0 = 0 by unfold Wk.atI Wk.idx; rw [if_neg (by omega)]]
              replace b0 := blk_below b0 hb
              replace hown := own_below hown hb
              replace hbt := hbt.trans (hb.mono hbt.size)
              clear hb
              have c0 := blk_cell (j := 0) b0
              simp only [List.getElem?_toArray, List.getElem?_cons_zero, List.getElem?_cons_succ] at c0
              have c1 := blk_cell (j := 1) b0
              simp only [List.getElem?_toArray, List.getElem?_cons_zero, List.getElem?_cons_succ] at c1
              have c2 := blk_cell (j := 2) b0
              simp only [List.getElem?_toArray, List.getElem?_cons_zero, List.getElem?_cons_succ] at c2
              have c3 := blk_cell (j := 3) b0
              simp only [List.getElem?_toArray, List.getElem?_cons_zero, List.getElem?_cons_succ] at c3
              have c4 := blk_cell (j := 4) b0
              simp only [List.getElem?_toArray, List.getElem?_cons_zero, List.getElem?_cons_succ] at c4
              go_wp2_with fail
              clear c0 c1 c2 c3 c4
              refine (wAt_any f 0 f.nS w5 mS mR mL hs).mono ?_
              rintro e w6 ⟨rfl, hb⟩
              rw [show Wk.atI f.nL f.nS 0 (f.nS : Int) = 0 by unfold Wk.atI Wk.idx; rw [if_neg (by omega)]]
              replace b0 := blk_below b0 hb
              replace hown := own_below hown hb
              replace hbt := hbt.trans (hb.mono hbt.size)
              clear hb
              have c0 := blk_cell (j := 0) b0
              simp only [List.getElem?_toArray, List.getElem?_cons_zero, List.getElem?_cons_succ] at c0
              have c1 := blk_cell (j := 1) b0
              simp only [List.getElem?_toArray, List.getElem?_cons_zero, List.getElem?_cons_succ] at c1
              have c2 := blk_cell (j := 2) b0
              simp only [List.getElem?_toArray, List.getElem?_cons_zero, List.getElem?_cons_succ] at c2
              have c3 := blk_cell (j := 3) b0
              simp only [List.getElem?_toArray, List.getElem?_cons_zero, List.getElem?_cons_succ] at c3
              have c4 := blk_cell (j := 4) b0
              simp only [List.getElem?_toArray, List.getElem?_cons_zero, List.getElem?_cons_succ] at c4
              go_wp2_with fail
              clear c0 c1 c2 c3 c4
              refine (wIn_any f f.nL 0 w6 mS mR mL hs).mono ?_
              rintro e w7 ⟨rfl, hb⟩
              rw [show Wk.inI f.nL f.nS f.nR (f.nL : Int) 0 = 0 by unfold Wk.inI Wk.idx; rw [if_neg (by omega)]]
              replace b0 := blk_below b0 hb
              replace hown := own_below hown hb
              replace hbt := hbt.trans (hb.mono hbt.size)
              clear hb
              go_wp2_with fail
              go_ret
              exact ⟨rfl, hbt⟩

end Go.Proofs.YtcnldbhkppfmmaaDoor
