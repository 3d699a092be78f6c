/-
  The walks of the journal's Read and Check.
-/
import Derived.Test.YtfacdoemgalodaaVersW
import Derived.Test.YtfacdoemgalodaaRVersW
namespace Go.Proofs.Ytfacdoemgalodaa
open Go.RowKit
set_option linter.unusedVariables false
set_option linter.unusedSimpArgs false

/-- What Read answers, in new memory. -/
def RPost (R : List Ver × List Ver × Int) (w : World) (e : Ending) (w' : World) : Prop :=
  ∃ v1 v2, e = .returned (.tuple #[v1, v2, .int .i64 R.2.2]) ∧ OwnV w' w.heap.size v1 R.1 ∧ OwnV w' w.heap.size v2 R.2.1 ∧ Below w.heap.size w w'
theorem rpost_err {R : List Ver × List Ver × Int} {er : Int} {w w' : World} (hR : R = ([], [], er)) (hb : Below w.heap.size w w') : RPost R w (.returned (.tuple #[.slice none 0 0, .slice none 0 0, .int .i64 er])) w' := by
  subst hR
  exact ⟨_, _, rfl, OwnV.nil _ _, OwnV.nil _ _, hb⟩
theorem VersPost.below {r : Option (List Ver)} {bN k : Nat} {w W : World} {e : Ending} {w' : World} (h : VersPost r bN k W e w') (hb : Below w.heap.size w W) (hN : w.heap.size ≤ bN) : Below w.heap.size w w' := hb.grown h.1 hb.size (fun g hg => by cases hg; exact hN)

set_option maxRecDepth 100000 in
set_option maxHeartbeats 4000000 in
theorem jRead_any (A : Option Addr) (n c : Nat) (s : List UInt8) (B : Option Addr) (m d : Nat) (o : List UInt8) (w : World) (h : RdB w w.heap.size A n c s) (h' : RdB w w.heap.size B m d o) (hn : n ≤ 140737488355328) (hm : m ≤ 140737488355328) :
    Calls Try.prog 13 #[.agg #[.slice A n c, .slice B m d]] w (RPost (Jn.readD s o) w) := by
  have h1 := h.max
  have h2 := h.le
  have h3 := h'.max
  have h4 := h'.le
  obtain ⟨R, hR⟩ : ∃ R, R = Jn.readD s o := ⟨_, rfl⟩
  rw [← hR]
  unfold Jn.readD at hR
  rw [h.len, h'.len] at hR
  have HR := Lib.hid hR
  clear hR
  have hbt := Below.refl w.heap.size w
  have hh := h
  have hh' := h'
  obtain ⟨V1, hV⟩ : ∃ V1, V1 = w.alloc (.cells #[.slice A n c, .slice B m d] 24) := ⟨_, rfl⟩
  have b1 := blk_new hV
  have hb := below_new hV
  replace hbt := hbt.trans (hb.mono hbt.size)
  clear hb
  have HSV1 : Hid (V1.heap.size = w.heap.size + 1) := by show V1.heap.size = _; rw [hV, World.size_alloc]
  have HVV1 := Lib.hid hV.symm
  clear hV
  go_enter Try.func13, Try.ntmps13
  by_cases hbig : 1048576 < n + m
  · rw [if_pos hbig] at HR
    have d1 : decide (1048576 < (n : Int) + (m : Int)) = true := by simp; omega
    have cb10 := cell_of_row V1 w.heap.size 0 _ _ _ b1
    simp only [List.getElem?_toArray, List.getElem?_cons_zero, List.getElem?_cons_succ] at cb10
    have cb11 := cell_of_row V1 w.heap.size 1 _ _ _ b1
    simp only [List.getElem?_toArray, List.getElem?_cons_zero, List.getElem?_cons_succ] at cb11
    rw [← HVV1.out] at cb10 cb11
    go_wp2_with fail
    rw [HVV1.out]
    clear HVV1
    clear cb10 cb11
    go_ret3
    exact rpost_err HR.out hbt
  · rw [if_neg hbig] at HR
    have d1 : decide (1048576 < (n : Int) + (m : Int)) = false := by simp; omega
    have cb10 := cell_of_row V1 w.heap.size 0 _ _ _ b1
    simp only [List.getElem?_toArray, List.getElem?_cons_zero, List.getElem?_cons_succ] at cb10
    have cb11 := cell_of_row V1 w.heap.size 1 _ _ _ b1
    simp only [List.getElem?_toArray, List.getElem?_cons_zero, List.getElem?_cons_succ] at cb11
    rw [← HVV1.out] at cb10 cb11
    go_wp2_with fail
    rw [HVV1.out]
    clear HVV1
    clear cb10 cb11
    refine (jfrom_any 1 V1).mono ?_
    rintro e w2 ⟨rfl, hw2⟩
    have bN := blk_new hw2
    have hb := below_new hw2
    have hz : w.heap.size < V1.heap.size := by rw [HSV1.out]; omega
    clear hw2 HSV1
    replace b1 := blk_below b1 hb
    replace hbt := hbt.trans (hb.mono hbt.size)
    clear hb
    generalize V1.heap.size = N at *
    have cb10 := cell_of_row w2 w.heap.size 0 _ _ _ b1
    simp only [List.getElem?_toArray, List.getElem?_cons_zero, List.getElem?_cons_succ] at cb10
    have cb11 := cell_of_row w2 w.heap.size 1 _ _ _ b1
    simp only [List.getElem?_toArray, List.getElem?_cons_zero, List.getElem?_cons_succ] at cb11
    go_wp2_with fail
    clear cb10 cb11
    refine (jvers_any N 1 A n c s w2 ((hh.below hbt).more hbt.size) bN (by omega) (by omega)).mono ?_
    intro e w3 hp
    have hbt3 := hp.below hbt (by omega)
    have hbs := hbt.size
    obtain ⟨hg, ⟨hr, rfl, q, bq⟩ | ⟨vs, v, hr, rfl, hov, bq⟩⟩ := hp
    · rw [hr] at HR
      clear hbt
      go_wp2_with fail
      go_ret3
      exact rpost_err HR.out hbt3
    · rw [hr] at HR
      dsimp only at HR
      replace b1 := blk_kept b1 hg (RowT.blk bN) (by decide)
      replace hov := hov.mono hbs
      clear hbt hg bN hbs
      have hbt := hbt3
      clear hbt3
      obtain ⟨Av, cv, rfl, _⟩ := hov.rd
      have hvl : vs.length ≤ 1048576 := Jn.versB_len hr (by rw [hh.len]; omega)
      have cb10 := cell_of_row w3 w.heap.size 0 _ _ _ b1
      simp only [List.getElem?_toArray, List.getElem?_cons_zero, List.getElem?_cons_succ] at cb10
      have cb11 := cell_of_row w3 w.heap.size 1 _ _ _ b1
      simp only [List.getElem?_toArray, List.getElem?_cons_zero, List.getElem?_cons_succ] at cb11
      go_wp2_with fail
      clear cb10 cb11
      refine (jvers_any N (1 + vs.length) B m d o w3 ((hh'.below hbt).more hbt.size) bq (by omega) (by omega)).mono ?_
      intro e w4 hp
      have hbt4 := hp.below hbt (by omega)
      have hbs := hbt.size
      obtain ⟨hg, ⟨hr2, rfl, q, bq2⟩ | ⟨us, u, hr2, rfl, hou, bq2⟩⟩ := hp
      · rw [hr2] at HR
        go_wp2_with fail
        go_ret3
        exact rpost_err HR.out hbt4
      · rw [hr2] at HR
        dsimp only at HR
        replace hov := hov.kept hg (RowT.blk bq) (by decide) (by decide)
        replace hou := hou.mono hbs
        obtain ⟨Au, cu, rfl, _⟩ := hou.rd
        go_wp2_with fail
        go_ret3
        rw [HR.out]
        exact ⟨_, _, rfl, hov, hou, hbt4⟩

set_option maxRecDepth 100000 in
set_option maxHeartbeats 4000000 in
theorem jCheck_any (A : Option Addr) (n c : Nat) (s : List UInt8) (B : Option Addr) (m d : Nat) (o : List UInt8) (w : World) (h : RdB w w.heap.size A n c s) (h' : RdB w w.heap.size B m d o) (hn : n ≤ 140737488355328) (hm : m ≤ 140737488355328) :
    Calls Try.prog 16 #[.agg #[.slice A n c, .slice B m d]] w fun e w' => e = .returned (.int .i64 (Jn.readD s o).2.2) ∧ Below w.heap.size w w' := by
  obtain ⟨R, hR⟩ : ∃ R, Jn.readD s o = R := ⟨_, rfl⟩
  rw [hR]
  have HR := Lib.hid hR
  clear hR
  have hbt := Below.refl w.heap.size w
  obtain ⟨V1, hV⟩ : ∃ V1, V1 = w.alloc (.cells #[.slice A n c, .slice B m d] 24) := ⟨_, rfl⟩
  have b1 := blk_new hV
  have hb := below_new hV
  replace h := (h.below hb).more hb.size
  replace h' := (h'.below hb).more hb.size
  replace hbt := hbt.trans (hb.mono hbt.size)
  clear hb
  have HSV1 : Hid (V1.heap.size = w.heap.size + 1) := by show V1.heap.size = _; rw [hV, World.size_alloc]
  have HVV1 := Lib.hid hV.symm
  clear hV
  go_enter Try.func16, Try.ntmps16
  have cb10 := cell_of_row V1 w.heap.size 0 _ _ _ b1
  simp only [List.getElem?_toArray, List.getElem?_cons_zero, List.getElem?_cons_succ] at cb10
  have cb11 := cell_of_row V1 w.heap.size 1 _ _ _ b1
  simp only [List.getElem?_toArray, List.getElem?_cons_zero, List.getElem?_cons_succ] at cb11
  rw [← HVV1.out] at cb10 cb11
  go_wp2_with fail
  rw [HVV1.out]
  clear HVV1
  clear cb10 cb11
  refine (jRead_any A n c s B m d o V1 h h' hn hm).mono ?_
  rintro e w2 ⟨v1, v2, rfl, o1, o2, hb⟩
  rw [HR.out] at o1 o2 ⊢
  obtain ⟨A1, c1, rfl, _⟩ := o1.rd
  obtain ⟨A2, c2, rfl, _⟩ := o2.rd
  clear o1 o2
  replace h := (h.below hb).more hb.size
  replace h' := (h'.below hb).more hb.size
  replace b1 := blk_below b1 hb
  replace hbt := hbt.trans (hb.mono hbt.size)
  clear hb
  go_wp2_with fail
  go_ret
  exact ⟨rfl, hbt⟩

set_option maxRecDepth 100000 in
set_option maxHeartbeats 4000000 in
theorem rRead_any (A : Option Addr) (n c : Nat) (s : List UInt8) (B : Option Addr) (m d : Nat) (o : List UInt8) (w : World) (h : RdB w w.heap.size A n c s) (h' : RdB w w.heap.size B m d o) (hn : n ≤ 140737488355328) (hm : m ≤ 140737488355328) :
    Calls Try.prog 14 #[.agg #[.slice A n c, .slice B m d]] w (RPost (Jn.readD s o) w) := by
  have h1 := h.max
  have h2 := h.le
  have h3 := h'.max
  have h4 := h'.le
  obtain ⟨R, hR⟩ : ∃ R, R = Jn.readD s o := ⟨_, rfl⟩
  rw [← hR]
  unfold Jn.readD at hR
  rw [h.len, h'.len] at hR
  have HR := Lib.hid hR
  clear hR
  have hbt := Below.refl w.heap.size w
  have hh := h
  have hh' := h'
  obtain ⟨V1, hV⟩ : ∃ V1, V1 = w.alloc (.cells #[.slice A n c, .slice B m d] 24) := ⟨_, rfl⟩
  have b1 := blk_new hV
  have hb := below_new hV
  replace hbt := hbt.trans (hb.mono hbt.size)
  clear hb
  have HSV1 : Hid (V1.heap.size = w.heap.size + 1) := by show V1.heap.size = _; rw [hV, World.size_alloc]
  have HVV1 := Lib.hid hV.symm
  clear hV
  go_enter Try.func14, Try.ntmps14
  by_cases hbig : 1048576 < n + m
  · rw [if_pos hbig] at HR
    have d1 : decide (1048576 < (n : Int) + (m : Int)) = true := by simp; omega
    have cb10 := cell_of_row V1 w.heap.size 0 _ _ _ b1
    simp only [List.getElem?_toArray, List.getElem?_cons_zero, List.getElem?_cons_succ] at cb10
    have cb11 := cell_of_row V1 w.heap.size 1 _ _ _ b1
    simp only [List.getElem?_toArray, List.getElem?_cons_zero, List.getElem?_cons_succ] at cb11
    rw [← HVV1.out] at cb10 cb11
    go_wp2_with fail
    rw [HVV1.out]
    clear HVV1
    clear cb10 cb11
    go_ret3
    exact rpost_err HR.out hbt
  · rw [if_neg hbig] at HR
    have d1 : decide (1048576 < (n : Int) + (m : Int)) = false := by simp; omega
    have cb10 := cell_of_row V1 w.heap.size 0 _ _ _ b1
    simp only [List.getElem?_toArray, List.getElem?_cons_zero, List.getElem?_cons_succ] at cb10
    have cb11 := cell_of_row V1 w.heap.size 1 _ _ _ b1
    simp only [List.getElem?_toArray, List.getElem?_cons_zero, List.getElem?_cons_succ] at cb11
    rw [← HVV1.out] at cb10 cb11
    go_wp2_with fail
    rw [HVV1.out]
    clear HVV1
    clear cb10 cb11
    refine (rvers_any 1 A n c s V1 ((hh.below hbt).more hbt.size) (by omega) (by omega)).mono ?_
    rintro e w3 ⟨v, us, rfl, hov, hus, hb⟩
    replace hov := hov.mono hbt.size
    obtain ⟨Av, cv, rfl, _⟩ := hov.rd
    replace b1 := blk_below b1 hb
    replace hbt := hbt.trans (hb.mono hbt.size)
    clear hb
    cases hr : Jn.versB s 1 with
    | none =>
      rw [hr] at HR
      dsimp only at HR
      simp only [Option.isSome_none]
      go_wp2_with fail
      go_ret3
      exact rpost_err HR.out hbt
    | some vs =>
      rw [hr] at HR
      dsimp only at HR
      obtain rfl := hus vs hr
      simp only [Option.isSome_some]
      have hvl : us.length ≤ 1048576 := Jn.versB_len hr (by rw [hh.len]; omega)
      clear hus hr
      have cb10 := cell_of_row w3 w.heap.size 0 _ _ _ b1
      simp only [List.getElem?_toArray, List.getElem?_cons_zero, List.getElem?_cons_succ] at cb10
      have cb11 := cell_of_row w3 w.heap.size 1 _ _ _ b1
      simp only [List.getElem?_toArray, List.getElem?_cons_zero, List.getElem?_cons_succ] at cb11
      go_wp2_with fail
      clear cb10 cb11
      have hc1 : ((us.length : Int) + 1) = ((1 + us.length : Nat) : Int) := by omega
      rw [hc1]
      refine (rvers_any (1 + us.length) B m d o w3 ((hh'.below hbt).more hbt.size) (by omega) (by omega)).mono ?_
      rintro e w4 ⟨v2, us2, rfl, hov2, hus2, hb⟩
      replace hov2 := hov2.mono hbt.size
      obtain ⟨Av2, cv2, rfl, _⟩ := hov2.rd
      replace b1 := blk_below b1 hb
      replace hov := hov.below hb
      replace hbt := hbt.trans (hb.mono hbt.size)
      clear hb
      cases hr : Jn.versB o (1 + us.length) with
      | none =>
        rw [hr] at HR
        dsimp only at HR
        simp only [Option.isSome_none]
        go_wp2_with fail
        go_ret3
        exact rpost_err HR.out hbt
      | some ws =>
        rw [hr] at HR
        dsimp only at HR
        obtain rfl := hus2 ws hr
        simp only [Option.isSome_some]
        go_wp2_with fail
        go_ret3
        rw [HR.out]
        exact ⟨_, _, rfl, hov, hov2, hbt⟩

set_option maxRecDepth 100000 in
set_option maxHeartbeats 4000000 in
theorem rCheck_any (A : Option Addr) (n c : Nat) (s : List UInt8) (B : Option Addr) (m d : Nat) (o : List UInt8) (w : World) (h : RdB w w.heap.size A n c s) (h' : RdB w w.heap.size B m d o) (hn : n ≤ 140737488355328) (hm : m ≤ 140737488355328) :
    Calls Try.prog 36 #[.agg #[.slice A n c, .slice B m d]] w fun e w' => e = .returned (.int .i64 (Jn.readD s o).2.2) ∧ Below w.heap.size w w' := by
  obtain ⟨R, hR⟩ : ∃ R, Jn.readD s o = R := ⟨_, rfl⟩
  rw [hR]
  have HR := Lib.hid hR
  clear hR
  have hbt := Below.refl w.heap.size w
  obtain ⟨V1, hV⟩ : ∃ V1, V1 = w.alloc (.cells #[.slice A n c, .slice B m d] 24) := ⟨_, rfl⟩
  have b1 := blk_new hV
  have hb := below_new hV
  replace h := (h.below hb).more hb.size
  replace h' := (h'.below hb).more hb.size
  replace hbt := hbt.trans (hb.mono hbt.size)
  clear hb
  have HSV1 : Hid (V1.heap.size = w.heap.size + 1) := by show V1.heap.size = _; rw [hV, World.size_alloc]
  have HVV1 := Lib.hid hV.symm
  clear hV
  go_enter Try.func36, Try.ntmps36
  have cb10 := cell_of_row V1 w.heap.size 0 _ _ _ b1
  simp only [List.getElem?_toArray, List.getElem?_cons_zero, List.getElem?_cons_succ] at cb10
  have cb11 := cell_of_row V1 w.heap.size 1 _ _ _ b1
  simp only [List.getElem?_toArray, List.getElem?_cons_zero, List.getElem?_cons_succ] at cb11
  rw [← HVV1.out] at cb10 cb11
  go_wp2_with fail
  rw [HVV1.out]
  clear HVV1
  clear cb10 cb11
  refine (rRead_any A n c s B m d o V1 h h' hn hm).mono ?_
  rintro e w2 ⟨v1, v2, rfl, o1, o2, hb⟩
  rw [HR.out] at o1 o2 ⊢
  obtain ⟨A1, c1, rfl, _⟩ := o1.rd
  obtain ⟨A2, c2, rfl, _⟩ := o2.rd
  clear o1 o2
  replace h := (h.below hb).more hb.size
  replace h' := (h'.below hb).more hb.size
  replace b1 := blk_below b1 hb
  replace hbt := hbt.trans (hb.mono hbt.size)
  clear hb
  go_wp2_with fail
  go_ret
  exact ⟨rfl, hbt⟩

set_option maxRecDepth 100000 in
set_option maxHeartbeats 4000000 in
theorem rjoin_any (A : Option Addr) (n c : Nat) (s : List UInt8) (B : Option Addr) (m d : Nat) (o : List UInt8) (w : World) (h : RdB w w.heap.size A n c s) (h' : RdB w w.heap.size B m d o) (hn : n ≤ 1073741824) (hm : m ≤ 1073741824) :
    Calls Try.prog 38 #[.slice A n c, .slice B m d] w (RetNew 5 (n + m) (bv (s ++ o)) w) := by
  have h1 := h.max
  have h3 := h'.max
  go_enter Try.func38, Try.ntmps38
  have o0 := World.ownsRow_nil w w.heap.size 5 1
  go_wp2_with (first
    | (at_builtin; refine wpList_app (.const (.slice none 0 0)) (.tmp 5) elB o0 h (bv_one _) (by omega) (by omega) (Nat.le_refl _) rfl rfl rfl rfl ?_; intro v1 w1 o1 g1 t1; simp only [Nat.zero_add, List.nil_append] at o1; have hb1 : Below w.heap.size w w1 := below_of_grown g1 (Nat.le_refl _) (fun g hg => by cases hg))
    | (at_builtin; refine wpList_app (.tmp 6) (.tmp 7) elB o1 (h'.below hb1) (bv_one _) (by omega) (by omega) hb1.size rfl rfl rfl rfl ?_; intro v2 w2 o2 g2 t2))
  go_ret
  refine ⟨_, rfl, ?_, hb1.grown g2 hb1.size (own_lt o1)⟩
  rw [bv_append]
  exact o2

end Go.Proofs.Ytfacdoemgalodaa
