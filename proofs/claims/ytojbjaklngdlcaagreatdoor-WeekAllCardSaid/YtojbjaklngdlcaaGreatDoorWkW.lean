/-
  The walks of week's within, Check, Vars, At and In.
-/
import Derived.Test.YtojbjaklngdlcaaGreatDoorWkP
import Derived.Test.YtojbjaklngdlcaaGreatDoorSChkW
namespace Go.Proofs.YtojbjaklngdlcaaGreatDoor
open Go.RowKit Go.Shelf
set_option linter.unusedVariables false
set_option linter.unusedSimpArgs false

set_option maxRecDepth 100000 in
set_option maxHeartbeats 2000000 in
theorem wwithin_any (n : Int) (m : Nat) (w : World) : Calls Tryz.prog 32 #[.int .i64 n, .int .i64 (m : Int)] w (TellsQ (Wk.idx n m) w) := by
  unfold Wk.idx
  by_cases h1 : 0 ≤ n
  · have d1 : decide (0 ≤ n) = true := by simp; omega
    by_cases h2 : n < (m : Int)
    · have d2 : decide (n < (m : Int)) = true := by simp; omega
      go_enter Tryz.func32, Tryz.ntmps32
      go_wp2
      go_ret
      exact ⟨_, rfl, ⟨fun _ => by omega, fun _ => rfl⟩, rfl⟩
    · have d2 : decide (n < (m : Int)) = false := by simp; omega
      go_enter Tryz.func32, Tryz.ntmps32
      go_wp2
      go_ret
      exact ⟨_, rfl, ⟨(fun h => by cases h), fun h => by omega⟩, rfl⟩
  · have d1 : decide (0 ≤ n) = false := by simp; omega
    go_enter Tryz.func32, Tryz.ntmps32
    go_wp2
    go_ret
    exact ⟨_, rfl, ⟨(fun h => by cases h), fun h => by omega⟩, rfl⟩

/-- A function value that tells of a place whether p holds. -/
def PredP (g : Nat) (lb : Array Value) (p : Pl → Prop) (w : World) : Prop :=
  ∀ (W : World) (x : Pl), Below w.heap.size w W → Calls Tryz.prog g (#[.agg #[.int .i64 x.1, .int .i64 x.2]] ++ lb) W (Tells (p x) W)

set_option maxRecDepth 100000 in
set_option maxHeartbeats 4000000 in
theorem ifP_any (A : Option Addr) (n c : Nat) (l : List Pl) (gf : Nat) (lb : Array Value) (eg : ∀ args w, (callFunc gf args).run Tryz.prog w = .ok (.enter gf args) w) (p : Pl → Prop) (w : World) (h : RdP w w.heap.size A n c l) (hp : PredP gf lb p w) :
    Calls Tryz.prog 57 #[.slice A n c, .func (.func gf) #[] lb] w fun e w' => ∃ i : Int, e = .returned (.int .i64 i) ∧ (0 ≤ i ↔ ∃ x ∈ l, p x) ∧ Below w.heap.size w w' := by
  have h1 := h.max
  have h2 := h.le
  have hl := Lib.hid h.len
  go_enter Tryz.func57, Tryz.ntmps57
  go_wp2_with fail
  go_loopw [8] (fun i wr => ∃ j : Nat, j ≤ n ∧ i = .int .i64 j ∧ (∀ x ∈ l.take j, ¬ p x) ∧ Below w.heap.size w wr) (fun i _ => n - (intOf i).toNat)
  case atStart => exact ⟨0, by omega, rfl, by simp, Below.refl _ _⟩
  case round =>
    obtain ⟨j, hj, rfl, hall, hbt⟩ := hrel
    have HA := Lib.hid hall
    clear hall
    by_cases hjn : j < n
    · have hjl : j < l.length := by rw [hl.out]; exact hjn
      obtain ⟨ad, rfl, _, x0, x1, _, _⟩ := (h.below hbt).at_ hjn hjl
      have d1 : decide ((j : Int) < (n : Int)) = true := by simp; omega
      have d2 : decide (j < n) = true := by simp; omega
      have HC := Lib.hid (hp wr l[j] hbt)
      have HY : Hid (p l[j] → ∃ x ∈ l, p x) := fun e => ⟨_, List.getElem_mem hjl, e⟩
      have HN : Hid (¬ p l[j] → ∀ x ∈ l.take (j + 1), ¬ p x) := fun e x hx => by
        rw [List.take_succ_eq_append_getElem hjl] at hx
        rcases List.mem_append.1 hx with hx | hx
        · exact HA.out x hx
        · rw [List.mem_singleton] at hx; subst hx; exact e
      go_wp2_with fail
      refine HC.out.mono ?_
      rintro e w3 ⟨b, rfl, hiff, hb⟩
      have hb3 := hbt.trans (hb.mono hbt.size)
      clear HC hb hbt
      cases b with
      | true =>
        have HP := Lib.hid (HY.out (hiff.1 rfl))
        clear hiff
        go_wp2_with fail
        go_ret
        exact ⟨_, rfl, ⟨fun _ => HP.out, fun _ => by omega⟩, hb3⟩
      | false =>
        have HP := Lib.hid (HN.out (fun hh => by have := hiff.2 hh; cases this))
        clear hiff
        go_wp2_with fail
        go_roundw
        case rel => exact ⟨j + 1, by omega, by go_num, HP.out, hb3⟩
        case measure => simp [intOf]; omega
    · obtain rfl : j = n := by omega
      have d1 : decide ((j : Int) < (j : Int)) = false := by simp
      have HE : Hid (¬ ∃ x ∈ l, p x) := by
        rintro ⟨x, hx, hpx⟩
        exact HA.out x (by rw [List.take_of_length_le (by rw [hl.out]; omega)]; exact hx) hpx
      go_wp2_with fail
      go_ret
      exact ⟨_, rfl, ⟨fun hh => by omega, fun hh => absurd hh HE.out⟩, hbt⟩

set_option maxRecDepth 100000 in
theorem cfP_any (A : Option Addr) (n c : Nat) (l : List Pl) (gf : Nat) (lb : Array Value) (eg : ∀ args w, (callFunc gf args).run Tryz.prog w = .ok (.enter gf args) w) (p : Pl → Prop) (w : World) (h : RdP w w.heap.size A n c l) (hp : PredP gf lb p w) :
    Calls Tryz.prog 33 #[.slice A n c, .func (.func gf) #[] lb] w (Tells (∃ x ∈ l, p x) w) := by
  go_enter Tryz.func33, Tryz.ntmps33
  go_wp2_with fail
  refine (ifP_any A n c l gf lb eg p w h hp).mono ?_
  rintro e w2 ⟨i, rfl, hiff, hb⟩
  go_wp2
  go_ret
  exact ⟨_, rfl, by rw [decide_eq_true_iff]; exact hiff, hb⟩

set_option maxRecDepth 100000 in
set_option maxHeartbeats 4000000 in
theorem place_pred (bS : Nat) (f : Sc.Five) (w : World) (b1 : w.heap[bS]? = some (.cells f.vals 28)) (m1 : f.nS ≤ f.cS ∧ f.cS ≤ 9223372036854775807) (m2 : f.nR ≤ f.cR ∧ f.cR ≤ 9223372036854775807) :
    PredP 31 #[.pointer (some ⟨bS, 0, none⟩)] (fun x => ¬ Wk.placed f.nS f.nR x) w := by
  rintro W ⟨sl, ro⟩ hW
  unfold Wk.placed
  dsimp only
  obtain ⟨V, hV⟩ : ∃ V, V = W.alloc (.cells #[.int .i64 sl, .int .i64 ro] 62) := ⟨_, rfl⟩
  have bV := blk_new hV
  have hb := below_new hV
  have HV := Lib.hid hV.symm
  clear hV
  have c0 : V.cell? ⟨bS, 0, none⟩ = some (.slice f.aS f.nS f.cS) := ((hb.cell (p := ⟨bS, 0, none⟩) (Nat.lt_of_lt_of_le (blk_lt b1) hW.size)).trans ((hW.cell (p := ⟨bS, 0, none⟩) (blk_lt b1)).trans (blk_cell b1))).trans rfl
  have c1 : V.cell? ⟨bS, 1, none⟩ = some (.slice f.aR f.nR f.cR) := ((hb.cell (p := ⟨bS, 1, none⟩) (Nat.lt_of_lt_of_le (blk_lt b1) hW.size)).trans ((hW.cell (p := ⟨bS, 1, none⟩) (blk_lt b1)).trans (blk_cell b1))).trans rfl
  have d0 := blk_cell (j := 0) bV
  have d1 := blk_cell (j := 1) bV
  simp only [List.getElem?_toArray, List.getElem?_cons_zero, List.getElem?_cons_succ] at d0 d1
  have c0' := c0
  rw [← HV.out] at c0'
  go_enter Tryz.func31, Tryz.ntmps31
  go_wp2_with fail
  rw [HV.out]
  clear c0'
  refine (wwithin_any sl f.nS V).mono ?_
  rintro e w2 ⟨b, rfl, hiff, rfl⟩
  cases b with
  | false =>
    have h1 : ¬ Wk.idx sl f.nS := fun h => by have := hiff.2 h; cases this
    clear hiff
    go_wp2_with fail
    go_ret
    exact ⟨_, rfl, ⟨fun _ h => h1 h.1, fun _ => rfl⟩, hb⟩
  | true =>
    have h1 := hiff.1 rfl
    clear hiff
    go_wp2_with fail
    refine (wwithin_any ro f.nR V).mono ?_
    rintro e w2 ⟨b, rfl, hiff, rfl⟩
    go_wp2
    go_ret
    exact ⟨_, rfl, by cases b <;> simp_all, hb⟩

/-- The school's lengths. -/
theorem Sc.RdSch.lens {w : World} {B : Nat} {f : Sc.Five} {s : Sc.Sch} (h : Sc.RdSch w B f s) : s.slots.length = f.nS ∧ s.rooms.length = f.nR ∧ s.people.length = f.nP ∧ s.groups.length = f.nG ∧ s.lessons.length = f.nL :=
  ⟨h.slots.len (by omega), h.rooms.len (by omega), h.people.len (by omega), h.groups.len (by omega), h.lessons.len (by omega)⟩

set_option maxRecDepth 100000 in
set_option maxHeartbeats 4000000 in
theorem wCheck_any (f : Sc.Five) (s : Sc.Sch) (A : Option Addr) (n c : Nat) (ps : List Pl) (mx : Int) (w : World) (h : Sc.RdSch w w.heap.size f s) (hp : RdP w w.heap.size A n c ps) (hm : w.cell? ⟨0, 0, none⟩ = some (.int .i64 mx)) :
    Calls Tryz.prog 8 #[.agg f.vals, .agg #[.slice A n c]] w fun e w' => e = .returned (.int .i64 (Wk.wchk s ps)) ∧ Below w.heap.size w w' := by
  have q1 := hp.max
  have q2 := hp.le
  have HN := Lib.hid hp.len
  have HLN := Lib.hid h.lens
  have mS : f.nS ≤ f.cS ∧ f.cS ≤ 9223372036854775807 := ⟨h.slots.le, h.slots.max⟩
  have mR : f.nR ≤ f.cR ∧ f.cR ≤ 9223372036854775807 := ⟨h.rooms.le, h.rooms.max⟩
  have mL : f.nL ≤ f.cL ∧ f.cL ≤ 9223372036854775807 := ⟨h.lessons.le, h.lessons.max⟩
  have hbt := Below.refl w.heap.size w
  obtain ⟨V1, hV⟩ : ∃ V1, V1 = w.alloc (.cells #[.slice f.aS f.nS f.cS, .slice f.aR f.nR f.cR, .slice f.aP f.nP f.cP, .slice f.aG f.nG f.cG, .slice f.aL f.nL f.cL] 28) := ⟨_, rfl⟩
  have b0 := blk_new hV
  have hb := below_new hV
  replace h := (h.below hb).more hb.size
  replace hp := (hp.below hb).more hb.size
  replace hbt := hbt.trans (hb.mono hbt.size)
  clear hb
  have HSV1 : Hid (V1.heap.size = w.heap.size + 1) := by show V1.heap.size = _; rw [hV, World.size_alloc]
  have HVV1 := Lib.hid hV.symm
  clear hV
  obtain ⟨V2, hV⟩ : ∃ V2, V2 = V1.alloc (.cells #[.slice A n c] 31) := ⟨_, rfl⟩
  have b1 := blk_new hV
  have hb := below_new hV
  replace h := (h.below hb).more hb.size
  replace hp := (hp.below hb).more hb.size
  replace b0 := blk_below b0 hb
  replace hbt := hbt.trans (hb.mono hbt.size)
  clear hb
  have HSV2 : Hid (V2.heap.size = V1.heap.size + 1) := by show V2.heap.size = _; rw [hV, World.size_alloc]
  have HVV2 := Lib.hid hV.symm
  clear hV
  rw [HSV1.out] at b1
  rw [← HVV1.out] at HVV2
  have hm2 : V2.cell? ⟨0, 0, none⟩ = some (.int .i64 mx) := (hbt.cell (World.block_lt_of_cell? _ _ hm)).trans hm
  unfold Sc.Five.vals
  have c0 := blk_cell (j := 0) b0
  simp only [List.getElem?_toArray, List.getElem?_cons_zero, List.getElem?_cons_succ] at c0
  have c1 := blk_cell (j := 1) b0
  simp only [List.getElem?_toArray, List.getElem?_cons_zero, List.getElem?_cons_succ] at c1
  have c2 := blk_cell (j := 2) b0
  simp only [List.getElem?_toArray, List.getElem?_cons_zero, List.getElem?_cons_succ] at c2
  have c3 := blk_cell (j := 3) b0
  simp only [List.getElem?_toArray, List.getElem?_cons_zero, List.getElem?_cons_succ] at c3
  have c4 := blk_cell (j := 4) b0
  simp only [List.getElem?_toArray, List.getElem?_cons_zero, List.getElem?_cons_succ] at c4
  rw [← HVV2.out] at c0 c1 c2 c3 c4
  go_enter Tryz.func8, Tryz.ntmps8
  go_wp2_with fail
  rw [HVV2.out]
  clear HVV2 HVV1 HSV1 HSV2 c0 c1 c2 c3 c4
  refine (sCheck_any f s mx V2 h hm2).mono ?_
  rintro e w3 ⟨rfl, hb⟩
  replace h := (h.below hb).more hb.size
  replace hp := (hp.below hb).more hb.size
  replace b0 := blk_below b0 hb
  replace b1 := blk_below b1 hb
  replace hbt := hbt.trans (hb.mono hbt.size)
  clear hb
  clear hm2
  by_cases hE : Sc.chk s ≠ 0
  · have HC := Lib.hid (Wk.wchk_err (ps := ps) hE)
    generalize Sc.chk s = er at *
    have dE : (er != 0) = true := by simp; omega
    go_wp2_with fail
    go_ret
    exact ⟨by rw [HC.out]; rfl, hbt⟩
  · have hE : Sc.chk s = 0 := Classical.not_not.1 hE
    have HE := Lib.hid hE
    rw [hE]
    clear hE
    have c0 := blk_cell (j := 0) b0
    simp only [List.getElem?_toArray, List.getElem?_cons_zero, List.getElem?_cons_succ] at c0
    have c1 := blk_cell (j := 1) b0
    simp only [List.getElem?_toArray, List.getElem?_cons_zero, List.getElem?_cons_succ] at c1
    have c2 := blk_cell (j := 2) b0
    simp only [List.getElem?_toArray, List.getElem?_cons_zero, List.getElem?_cons_succ] at c2
    have c3 := blk_cell (j := 3) b0
    simp only [List.getElem?_toArray, List.getElem?_cons_zero, List.getElem?_cons_succ] at c3
    have c4 := blk_cell (j := 4) b0
    simp only [List.getElem?_toArray, List.getElem?_cons_zero, List.getElem?_cons_succ] at c4
    have d0 := blk_cell (j := 0) b1
    simp only [List.getElem?_toArray, List.getElem?_cons_zero, List.getElem?_cons_succ] at d0
    by_cases hnl : ¬ n = f.nL
    · have dN : ((n : Int) != (f.nL : Int)) = true := by simp; omega
      have HC := Lib.hid (Wk.wchk_bad HE.out (fun hk : Wk.wkOk s ps => hnl (by have := hk.1; rw [HN.out, HLN.out.2.2.2.2] at this; exact this)))
      clear hnl
      go_wp2_with fail
      go_ret
      exact ⟨by rw [HC.out]; rfl, hbt⟩
    · have dN : ((n : Int) != (f.nL : Int)) = false := by simp; omega
      have HNL : Hid (n = f.nL) := Classical.not_not.1 hnl
      clear hnl
      go_wp2_with fail
      clear c0 c1 c2 c3 c4 d0
      refine (cfP_any A n c ps 31 #[.pointer (some ⟨w.heap.size, 0, none⟩)] (enters_of Tryz.func31 (by kernel_rfl) rfl) (fun x => ¬ Wk.placed f.nS f.nR x) w3 hp (place_pred w.heap.size f w3 b0 mS mR)).mono ?_
      rintro e w4 ⟨b, rfl, hiff, hb⟩
      replace h := (h.below hb).more hb.size
      replace hp := (hp.below hb).more hb.size
      replace b0 := blk_below b0 hb
      replace b1 := blk_below b1 hb
      replace hbt := hbt.trans (hb.mono hbt.size)
      clear hb
      cases b with
      | true =>
        obtain ⟨x, hx, hbad⟩ := hiff.1 rfl
        have HC := Lib.hid (Wk.wchk_bad HE.out (fun hk : Wk.wkOk s ps => hbad (by have := hk.2 x hx; rw [HLN.out.1, HLN.out.2.1] at this; exact this)))
        clear hiff hx hbad
        go_wp2_with fail
        go_ret
        exact ⟨by rw [HC.out]; rfl, hbt⟩
      | false =>
        have HC := Lib.hid (Wk.wchk_ok HE.out (⟨by rw [HN.out, HLN.out.2.2.2.2]; exact HNL.out, fun x hx => by
          rcases Classical.em (Wk.placed s.slots.length s.rooms.length x) with h1 | h1
          · exact h1
          · have := hiff.2 ⟨x, hx, by rw [HLN.out.1, HLN.out.2.1] at h1; exact h1⟩
            cases this⟩ : Wk.wkOk s ps))
        clear hiff
        go_wp2_with fail
        go_ret
        exact ⟨by rw [HC.out]; rfl, hbt⟩

set_option maxRecDepth 100000 in
set_option maxHeartbeats 4000000 in
theorem wVars_any (f : Sc.Five) (w : World) (mS : f.nS ≤ f.cS ∧ f.cS ≤ 9223372036854775807) (mR : f.nR ≤ f.cR ∧ f.cR ≤ 9223372036854775807) (mL : f.nL ≤ f.cL ∧ f.cL ≤ 9223372036854775807) (hs : f.nS ≤ 1000 ∧ f.nR ≤ 1000 ∧ f.nL ≤ 1000) :
    Calls Tryz.prog 10 #[.agg f.vals] w fun e w' => e = .returned (.int .i64 ((f.nL * (f.nS + f.nR) : Nat) : Int)) ∧ Below w.heap.size w w' := by
  obtain ⟨V1, hV⟩ : ∃ V1, V1 = w.alloc (.cells #[.slice f.aS f.nS f.cS, .slice f.aR f.nR f.cR, .slice f.aP f.nP f.cP, .slice f.aG f.nG f.cG, .slice f.aL f.nL f.cL] 28) := ⟨_, rfl⟩
  have b0 := blk_new hV
  have hb := below_new hV
  have HV := Lib.hid hV.symm
  clear hV
  unfold Sc.Five.vals
  have hprod : f.nL * (f.nS + f.nR) ≤ 2000000 := Nat.le_trans (Nat.mul_le_mul hs.2.2 (show f.nS + f.nR ≤ 2000 by omega)) (by omega)
  have hprod' : (f.nL : Int) * ((f.nS : Int) + (f.nR : Int)) ≤ 2000000 := by have := Int.ofNat_le.2 hprod; simpa using this
  have hpos : 0 ≤ (f.nL : Int) * ((f.nS : Int) + (f.nR : Int)) := Int.mul_nonneg (by omega) (by omega)
  go_enter Tryz.func10, Tryz.ntmps10
  go_wp2_with fail
  rw [HV.out]
  go_ret
  exact ⟨ret_int (by simp), hb⟩

set_option maxRecDepth 100000 in
set_option maxHeartbeats 4000000 in
theorem wAt_any (f : Sc.Five) (l x : Int) (w : World) (mS : f.nS ≤ f.cS ∧ f.cS ≤ 9223372036854775807) (mR : f.nR ≤ f.cR ∧ f.cR ≤ 9223372036854775807) (mL : f.nL ≤ f.cL ∧ f.cL ≤ 9223372036854775807) (hs : f.nS ≤ 1000 ∧ f.nR ≤ 1000 ∧ f.nL ≤ 1000) :
    Calls Tryz.prog 12 #[.agg f.vals, .int .i64 l, .int .i64 x] w fun e w' => e = .returned (.int .i64 (Wk.atI f.nL f.nS l x)) ∧ Below w.heap.size w w' := by
  obtain ⟨V1, hV⟩ : ∃ V1, V1 = w.alloc (.cells #[.slice f.aS f.nS f.cS, .slice f.aR f.nR f.cR, .slice f.aP f.nP f.cP, .slice f.aG f.nG f.cG, .slice f.aL f.nL f.cL] 28) := ⟨_, rfl⟩
  have b0 := blk_new hV
  have hb := below_new hV
  have HV := Lib.hid hV.symm
  clear hV
  unfold Sc.Five.vals
  have c0 := blk_cell (j := 0) b0
  have c1 := blk_cell (j := 1) b0
  have c4 := blk_cell (j := 4) b0
  simp only [List.getElem?_toArray, List.getElem?_cons_zero, List.getElem?_cons_succ] at c0 c1 c4
  have c0' := c0
  have c1' := c1
  have c4' := c4
  rw [← HV.out] at c0' c1' c4'
  go_enter Tryz.func12, Tryz.ntmps12
  go_wp2_with fail
  rw [HV.out]
  clear c0' c1' c4'
  refine (wwithin_any l f.nL V1).mono ?_
  rintro e w2 ⟨b, rfl, hiff, rfl⟩
  cases b with
  | false =>
    have HC : Hid ((Wk.atI f.nL f.nS l x) = 0) := if_neg (fun hh => by have := hiff.2 hh.1; cases this)
    clear hiff
    go_wp2_with fail
    go_ret
    exact ⟨by rw [HC.out]; rfl, hb⟩
  | true =>
    have hl := hiff.1 rfl
    clear hiff
    go_wp2_with fail
    refine (wwithin_any x f.nS V1).mono ?_
    rintro e w2 ⟨b, rfl, hiff, rfl⟩
    cases b with
    | false =>
      have HC : Hid ((Wk.atI f.nL f.nS l x) = 0) := if_neg (fun hh => by have := hiff.2 hh.2; cases this)
      clear hiff
      go_wp2_with fail
      go_ret
      exact ⟨by rw [HC.out]; rfl, hb⟩
    | true =>
      have hx := hiff.1 rfl
      have HC : Hid ((Wk.atI f.nL f.nS l x) = l * (f.nS : Int) + x + 1) := if_pos ⟨hl, hx⟩
      clear hiff
      unfold Wk.idx at hl hx
      obtain ⟨L, hL⟩ : ∃ L : Nat, l = (L : Int) := ⟨l.toNat, by omega⟩
      obtain ⟨X, hX⟩ : ∃ X : Nat, x = (X : Int) := ⟨x.toNat, by omega⟩
      subst hL hX
      have q1 : (L : Int) * (f.nS : Int) ≤ 1000000 := by have := Nat.mul_le_mul (show L ≤ 1000 by omega) (show f.nS ≤ 1000 by omega); have := Int.ofNat_le.2 this; simpa using this
      have q2 : 0 ≤ (L : Int) * (f.nS : Int) := Int.mul_nonneg (by omega) (by omega)
      go_wp2_with fail
      go_ret
      exact ⟨by rw [HC.out]; rfl, hb⟩

set_option maxRecDepth 100000 in
set_option maxHeartbeats 4000000 in
theorem wIn_any (f : Sc.Five) (l x : Int) (w : World) (mS : f.nS ≤ f.cS ∧ f.cS ≤ 9223372036854775807) (mR : f.nR ≤ f.cR ∧ f.cR ≤ 9223372036854775807) (mL : f.nL ≤ f.cL ∧ f.cL ≤ 9223372036854775807) (hs : f.nS ≤ 1000 ∧ f.nR ≤ 1000 ∧ f.nL ≤ 1000) :
    Calls Tryz.prog 14 #[.agg f.vals, .int .i64 l, .int .i64 x] w fun e w' => e = .returned (.int .i64 (Wk.inI f.nL f.nS f.nR l x)) ∧ Below w.heap.size w w' := by
  obtain ⟨V1, hV⟩ : ∃ V1, V1 = w.alloc (.cells #[.slice f.aS f.nS f.cS, .slice f.aR f.nR f.cR, .slice f.aP f.nP f.cP, .slice f.aG f.nG f.cG, .slice f.aL f.nL f.cL] 28) := ⟨_, rfl⟩
  have b0 := blk_new hV
  have hb := below_new hV
  have HV := Lib.hid hV.symm
  clear hV
  unfold Sc.Five.vals
  have c0 := blk_cell (j := 0) b0
  have c1 := blk_cell (j := 1) b0
  have c4 := blk_cell (j := 4) b0
  simp only [List.getElem?_toArray, List.getElem?_cons_zero, List.getElem?_cons_succ] at c0 c1 c4
  have c0' := c0
  have c1' := c1
  have c4' := c4
  rw [← HV.out] at c0' c1' c4'
  go_enter Tryz.func14, Tryz.ntmps14
  go_wp2_with fail
  rw [HV.out]
  clear c0' c1' c4'
  refine (wwithin_any l f.nL V1).mono ?_
  rintro e w2 ⟨b, rfl, hiff, rfl⟩
  cases b with
  | false =>
    have HC : Hid ((Wk.inI f.nL f.nS f.nR l x) = 0) := if_neg (fun hh => by have := hiff.2 hh.1; cases this)
    clear hiff
    go_wp2_with fail
    go_ret
    exact ⟨by rw [HC.out]; rfl, hb⟩
  | true =>
    have hl := hiff.1 rfl
    clear hiff
    go_wp2_with fail
    refine (wwithin_any x f.nR V1).mono ?_
    rintro e w2 ⟨b, rfl, hiff, rfl⟩
    cases b with
    | false =>
      have HC : Hid ((Wk.inI f.nL f.nS f.nR l x) = 0) := if_neg (fun hh => by have := hiff.2 hh.2; cases this)
      clear hiff
      go_wp2_with fail
      go_ret
      exact ⟨by rw [HC.out]; rfl, hb⟩
    | true =>
      have hx := hiff.1 rfl
      have HC : Hid ((Wk.inI f.nL f.nS f.nR l x) = (f.nL : Int) * (f.nS : Int) + l * (f.nR : Int) + x + 1) := if_pos ⟨hl, hx⟩
      clear hiff
      unfold Wk.idx at hl hx
      obtain ⟨L, hL⟩ : ∃ L : Nat, l = (L : Int) := ⟨l.toNat, by omega⟩
      obtain ⟨X, hX⟩ : ∃ X : Nat, x = (X : Int) := ⟨x.toNat, by omega⟩
      subst hL hX
      have q1 : (L : Int) * (f.nR : Int) ≤ 1000000 := by have := Nat.mul_le_mul (show L ≤ 1000 by omega) (show f.nR ≤ 1000 by omega); have := Int.ofNat_le.2 this; simpa using this
      have q2 : 0 ≤ (L : Int) * (f.nR : Int) := Int.mul_nonneg (by omega) (by omega)
      have q3 : (f.nL : Int) * (f.nS : Int) ≤ 1000000 := by have := Nat.mul_le_mul hs.2.2 hs.1; have := Int.ofNat_le.2 this; simpa using this
      have q4 : 0 ≤ (f.nL : Int) * (f.nS : Int) := Int.mul_nonneg (by omega) (by omega)
      go_wp2_with fail
      go_ret
      exact ⟨by rw [HC.out]; rfl, hb⟩

end Go.Proofs.YtojbjaklngdlcaaGreatDoor
