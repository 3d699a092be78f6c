/-
  The walks of the reference's comparisons of versions and disks, and of its small measures.
-/
import Derived.Test.YtfacdoemgalodaaCmpW
namespace Go.Proofs.Ytfacdoemgalodaa
open Go.RowKit
set_option linter.unusedVariables false
set_option linter.unusedSimpArgs false

set_option maxRecDepth 100000 in
set_option maxHeartbeats 4000000 in
theorem version_any (u v : Ver) (A : Option Addr) (c : Nat) (B : Option Addr) (d : Nat) (w : World) (h : RdP w w.heap.size A u.week.length c u.week) (h' : RdP w w.heap.size B v.week.length d v.week) :
    Calls Try.prog 34 #[.agg #[.int .i64 u.no, .slice A u.week.length c, .int .i64 u.cost, .bool u.best], .agg #[.int .i64 v.no, .slice B v.week.length d, .int .i64 v.cost, .bool v.best]] w (Tells (u = v) w) := by
  obtain ⟨no, wk, co, be⟩ := u
  obtain ⟨no', wk', co', be'⟩ := v
  dsimp only at h h' ⊢
  have hbt := Below.refl w.heap.size w
  obtain ⟨n, hn⟩ : ∃ n, wk.length = n := ⟨_, rfl⟩
  obtain ⟨m, hm⟩ : ∃ m, wk'.length = m := ⟨_, rfl⟩
  rw [hn] at h ⊢
  rw [hm] at h' ⊢
  clear hn hm
  obtain ⟨V1, hV⟩ : ∃ V1, V1 = w.alloc (.cells #[.int .i64 no, .slice A n c, .int .i64 co, .bool be] 42) := ⟨_, rfl⟩
  have b1 := blk_new hV
  have hb := below_new hV
  replace h := (h.below hb).more hb.size
  replace h' := (h'.below hb).more hb.size
  replace hbt := hbt.trans (hb.mono hbt.size)
  clear hb
  have HSV1 : Hid (V1.heap.size = w.heap.size + 1) := by show V1.heap.size = _; rw [hV, World.size_alloc]
  have HVV1 := Lib.hid hV.symm
  clear hV
  obtain ⟨V2, hV⟩ : ∃ V2, V2 = V1.alloc (.cells #[.int .i64 no', .slice B m d, .int .i64 co', .bool be'] 42) := ⟨_, rfl⟩
  have b2 := blk_new hV
  have hb := below_new hV
  replace h := (h.below hb).more hb.size
  replace h' := (h'.below hb).more hb.size
  replace b1 := blk_below b1 hb
  replace hbt := hbt.trans (hb.mono hbt.size)
  clear hb
  have HSV2 : Hid (V2.heap.size = V1.heap.size + 1) := by show V2.heap.size = _; rw [hV, World.size_alloc]
  have HVV2 := Lib.hid hV.symm
  clear hV
  rw [HSV1.out] at b2
  rw [← HVV1.out] at HVV2
  have c0 := blk_cell (j := 0) b1
  simp only [List.getElem?_toArray, List.getElem?_cons_zero, List.getElem?_cons_succ] at c0
  have c1 := blk_cell (j := 1) b1
  simp only [List.getElem?_toArray, List.getElem?_cons_zero, List.getElem?_cons_succ] at c1
  have c2 := blk_cell (j := 2) b1
  simp only [List.getElem?_toArray, List.getElem?_cons_zero, List.getElem?_cons_succ] at c2
  have c3 := blk_cell (j := 3) b1
  simp only [List.getElem?_toArray, List.getElem?_cons_zero, List.getElem?_cons_succ] at c3
  have e0 := blk_cell (j := 0) b2
  simp only [List.getElem?_toArray, List.getElem?_cons_zero, List.getElem?_cons_succ] at e0
  have e1 := blk_cell (j := 1) b2
  simp only [List.getElem?_toArray, List.getElem?_cons_zero, List.getElem?_cons_succ] at e1
  have e2 := blk_cell (j := 2) b2
  simp only [List.getElem?_toArray, List.getElem?_cons_zero, List.getElem?_cons_succ] at e2
  have e3 := blk_cell (j := 3) b2
  simp only [List.getElem?_toArray, List.getElem?_cons_zero, List.getElem?_cons_succ] at e3
  rw [← HVV2.out] at c0 c1 c2 c3 e0 e1 e2 e3
  go_enter Try.func34, Try.ntmps34
  by_cases z1 : no = no'
  · subst z1
    have d1 : (no == no) = true := by simp
    by_cases z2 : co = co'
    · subst z2
      have d2 : (co == co) = true := by simp
      by_cases z3 : be = be'
      · subst z3
        have d3 : (be == be) = true := by simp
        go_wp2_with fail
        rw [HVV2.out]
        refine (weeks_any A B n c m d wk wk' V2 h h').mono ?_
        rintro e w3 ⟨rfl, hb⟩
        replace h := (h.below hb).more hb.size
        replace h' := (h'.below hb).more hb.size
        replace b1 := blk_below b1 hb
        replace b2 := blk_below b2 hb
        replace hbt := hbt.trans (hb.mono hbt.size)
        clear hb
        go_wp2_with fail
        go_ret
        refine ⟨_, rfl, ?_, hbt⟩
        simp
      · have d3 : (be == be') = false := by simp [z3]
        go_wp2_with fail
        rw [HVV2.out]
        go_ret
        exact ⟨_, rfl, ⟨(fun hh => by cases hh), (fun hh => by injection hh with x1 x2 x3 x4; exact absurd x4 (by assumption))⟩, hbt⟩
    · have d2 : (co == co') = false := by simp [z2]
      go_wp2_with fail
      rw [HVV2.out]
      go_ret
      exact ⟨_, rfl, ⟨(fun hh => by cases hh), (fun hh => by injection hh with x1 x2 x3 x4; exact absurd x3 (by assumption))⟩, hbt⟩
  · have d1 : (no == no') = false := by simp [z1]
    go_wp2_with fail
    rw [HVV2.out]
    go_ret
    exact ⟨_, rfl, ⟨(fun hh => by cases hh), (fun hh => by injection hh with x1 x2 x3 x4; exact absurd x1 (by assumption))⟩, hbt⟩

set_option maxRecDepth 100000 in
set_option maxHeartbeats 4000000 in
theorem versions_any (A B : Option Addr) (n c m d : Nat) (us vs : List Ver) (w : World) (h : RdV w w.heap.size A n c us) (h' : RdV w w.heap.size B m d vs) :
    Calls Try.prog 15 #[.slice A n c, .slice B m d] w (Tells (us = vs) w) := by
  have h1 := h.max
  have h2 := h.le
  have h3 := h'.max
  have h4 := h'.le
  have hl := Lib.hid h.len
  have hl' := Lib.hid h'.len
  by_cases hnm : n = m
  · subst hnm
    go_enter Try.func15, Try.ntmps15
    go_wp2_with fail
    go_loopw [13] (fun i wr => ∃ k : Nat, k ≤ n ∧ i = .int .i64 k ∧ us.take k = vs.take k ∧ Below w.heap.size w wr) (fun i _ => n - (intOf i).toNat)
    case atStart => exact ⟨0, by omega, rfl, rfl, Below.refl _ _⟩
    case round =>
      obtain ⟨k, hk, rfl, htk, hbt⟩ := hrel
      have HT := Lib.hid htk
      clear htk
      by_cases hkn : k < n
      · have hku : k < us.length := by rw [hl.out]; exact hkn
        have hkv : k < vs.length := by rw [hl'.out]; exact hkn
        have d5 : decide ((k : Int) < (n : Int)) = true := by simp; omega
        have q := (h.below hbt).more hbt.size
        have q' := (h'.below hbt).more hbt.size
        go_wp2_with fail
        refine wp_region_plan [([0, 1, 2, 3, 4, 5, 6, 7], some 8), ([9], none)] (by kernel_rfl) (by kernel_rfl) ?_
        intro wd hsz hb
        clear hsz
        replace q := (q.below hb).more hb.size
        replace q' := (q'.below hb).more hb.size
        replace hbt := hbt.trans (hb.mono hbt.size)
        clear hb
        simp only [pickP, pick, List.map_cons, List.map_nil, Option.map_some, Option.map_none, List.getD_cons_zero, List.getD_cons_succ]
        obtain ⟨ad, A1, c1, rfl, _, x0, x1, x2, x3, hp, _, _⟩ := q.at_ hkn hku
        obtain ⟨ad', B1, d1, rfl, _, y0, y1, y2, y3, hp', _, _⟩ := q'.at_ hkn hkv
        have HS : Hid (us[k] = vs[k] → us.take (k + 1) = vs.take (k + 1)) := take_eq_step HT.out hku hkv
        have HN : Hid (us[k] ≠ vs[k] → us ≠ vs) := fun h1 h2 => h1 (by subst h2; rfl)
        generalize us[k] = u at *
        generalize vs[k] = v at *
        have Zx0 : ∀ x : Ext wd.heap.size wd, x.val.cell? _ = _ := fun x => (x.cell (World.block_lt_of_cell? _ _ x0)).trans x0
        have Zx1 : ∀ x : Ext wd.heap.size wd, x.val.cell? _ = _ := fun x => (x.cell (World.block_lt_of_cell? _ _ x1)).trans x1
        have Zx2 : ∀ x : Ext wd.heap.size wd, x.val.cell? _ = _ := fun x => (x.cell (World.block_lt_of_cell? _ _ x2)).trans x2
        have Zx3 : ∀ x : Ext wd.heap.size wd, x.val.cell? _ = _ := fun x => (x.cell (World.block_lt_of_cell? _ _ x3)).trans x3
        have Zy0 : ∀ x : Ext wd.heap.size wd, x.val.cell? _ = _ := fun x => (x.cell (World.block_lt_of_cell? _ _ y0)).trans y0
        have Zy1 : ∀ x : Ext wd.heap.size wd, x.val.cell? _ = _ := fun x => (x.cell (World.block_lt_of_cell? _ _ y1)).trans y1
        have Zy2 : ∀ x : Ext wd.heap.size wd, x.val.cell? _ = _ := fun x => (x.cell (World.block_lt_of_cell? _ _ y2)).trans y2
        have Zy3 : ∀ x : Ext wd.heap.size wd, x.val.cell? _ = _ := fun x => (x.cell (World.block_lt_of_cell? _ _ y3)).trans y3
        refine plan_cons ?_
        (repeat (go_big_quiet_step (fail)))
        refine plan_nil ?_
        clear Zx0 Zx1 Zx2 Zx3 Zy0 Zy1 Zy2 Zy3 x0 x1 x2 x3 y0 y1 y2 y3
        refine plan_call (by kernel_rfl) (fun K hK => ?_)
        go_simp
        refine (version_any u v A1 c1 B1 d1 _ hp hp').mono ?_
        rintro e w3 ⟨b, rfl, hiff, hb⟩
        clear q q'
        refine hK.out _ _ hb ?_
        clear hK K
        (try simp only [Act.put, List.setIfInBounds_toArray, List.set_cons_zero, List.set_cons_succ])
        replace hbt := hbt.trans (hb.mono hbt.size)
        clear hb
        have HI := Lib.hid hiff
        clear hiff
        cases b with
        | true =>
          refine plan_cons ?_
          (repeat (go_big_quiet_step (fail)))
          refine plan_nil ?_
          refine plan_end ?_
          go_wp2
          go_roundw
          case rel => exact ⟨k + 1, by omega, by go_num, HS.out (HI.out.1 rfl), hbt⟩
          case measure => simp [intOf]; omega
        | false =>
          refine plan_cons ?_
          (repeat (go_big_quiet_step (fail)))
          refine plan_nil ?_
          refine plan_end ?_
          go_wp2_with fail
          go_ret
          exact ⟨_, rfl, ⟨(fun hh => by cases hh), fun hh => absurd hh (HN.out (fun e => by have := HI.out.2 e; cases this))⟩, hbt⟩
      · obtain rfl : k = n := by omega
        have d5 : decide ((k : Int) < (k : Int)) = false := by simp
        go_wp2_with fail
        go_ret
        have := HT.out
        rw [List.take_of_length_le (by rw [hl.out]; omega), List.take_of_length_le (by rw [hl'.out]; omega)] at this
        exact ⟨_, rfl, ⟨fun _ => this, fun _ => rfl⟩, hbt⟩
  · have d1 : ((n : Int) != (m : Int)) = true := by simp; omega
    go_enter Try.func15, Try.ntmps15
    go_wp2_with fail
    go_ret
    exact ⟨_, rfl, ⟨(fun hh => by cases hh), fun hh => absurd (by rw [← hl.out, ← hl'.out, hh]) hnm⟩, Below.refl _ _⟩

set_option maxRecDepth 100000 in
set_option maxHeartbeats 4000000 in
theorem rSame_any (A : Option Addr) (n c : Nat) (s : List UInt8) (B : Option Addr) (m d : Nat) (o : List UInt8) (A' : Option Addr) (n' c' : Nat) (s' : List UInt8) (B' : Option Addr) (m' d' : Nat) (o' : List UInt8) (w : World) (h : RdB w w.heap.size A n c s) (h' : RdB w w.heap.size B m d o) (k : RdB w w.heap.size A' n' c' s') (k' : RdB w w.heap.size B' m' d' o') :
    Calls Try.prog 19 #[.agg #[.slice A n c, .slice B m d], .agg #[.slice A' n' c', .slice B' m' d']] w (Tells (s = s' ∧ o = o') w) := by
  have hbt := Below.refl w.heap.size w
  obtain ⟨V1, hV⟩ : ∃ V1, V1 = w.alloc (.cells #[.slice A n c, .slice B m d] 24) := ⟨_, rfl⟩
  have b1 := blk_new hV
  have hb := below_new hV
  replace h := (h.below hb).more hb.size
  replace h' := (h'.below hb).more hb.size
  replace k := (k.below hb).more hb.size
  replace k' := (k'.below hb).more hb.size
  replace hbt := hbt.trans (hb.mono hbt.size)
  clear hb
  have HSV1 : Hid (V1.heap.size = w.heap.size + 1) := by show V1.heap.size = _; rw [hV, World.size_alloc]
  have HVV1 := Lib.hid hV.symm
  clear hV
  obtain ⟨V2, hV⟩ : ∃ V2, V2 = V1.alloc (.cells #[.slice A' n' c', .slice B' m' d'] 24) := ⟨_, rfl⟩
  have b2 := blk_new hV
  have hb := below_new hV
  replace h := (h.below hb).more hb.size
  replace h' := (h'.below hb).more hb.size
  replace k := (k.below hb).more hb.size
  replace k' := (k'.below hb).more hb.size
  replace b1 := blk_below b1 hb
  replace hbt := hbt.trans (hb.mono hbt.size)
  clear hb
  have HSV2 : Hid (V2.heap.size = V1.heap.size + 1) := by show V2.heap.size = _; rw [hV, World.size_alloc]
  have HVV2 := Lib.hid hV.symm
  clear hV
  rw [HSV1.out] at b2
  rw [← HVV1.out] at HVV2
  have c0 := blk_cell (j := 0) b1
  simp only [List.getElem?_toArray, List.getElem?_cons_zero, List.getElem?_cons_succ] at c0
  have c1 := blk_cell (j := 1) b1
  simp only [List.getElem?_toArray, List.getElem?_cons_zero, List.getElem?_cons_succ] at c1
  have e0 := blk_cell (j := 0) b2
  simp only [List.getElem?_toArray, List.getElem?_cons_zero, List.getElem?_cons_succ] at e0
  have e1 := blk_cell (j := 1) b2
  simp only [List.getElem?_toArray, List.getElem?_cons_zero, List.getElem?_cons_succ] at e1
  have r1 := run_str h
  have r2 := run_str h'
  have r3 := run_str k
  have r4 := run_str k'
  have z1 := str_eq s s'
  have z2 := str_eq o o'
  rw [← HVV2.out] at c0 c1 e0 e1 r1 r2 r3 r4
  go_enter Try.func19, Try.ntmps19
  by_cases p1 : s = s'
  · rw [decide_eq_true p1] at z1
    go_wp2_with fail
    rw [HVV2.out]
    go_ret
    refine ⟨_, rfl, ?_, hbt⟩
    simp [p1]
  · rw [decide_eq_false p1] at z1
    go_wp2_with fail
    rw [HVV2.out]
    go_ret
    exact ⟨_, rfl, ⟨(fun hh => by cases hh), fun hh => absurd hh.1 p1⟩, hbt⟩

set_option maxRecDepth 100000 in
set_option maxHeartbeats 4000000 in
theorem rFew_any (A : Option Addr) (n c : Nat) (B : Option Addr) (m d : Nat) (w : World) :
    Calls Try.prog 12 #[.agg #[.slice A n c, .slice B m d]] w (Tells (n ≤ 4000 ∧ m ≤ 4000) w) := by
  have hbt := Below.refl w.heap.size w
  obtain ⟨V1, hV⟩ : ∃ V1, V1 = w.alloc (.cells #[.slice A n c, .slice B m d] 24) := ⟨_, rfl⟩
  have b1 := blk_new hV
  have hb := below_new hV
  replace hbt := hbt.trans (hb.mono hbt.size)
  clear hb
  have HSV1 : Hid (V1.heap.size = w.heap.size + 1) := by show V1.heap.size = _; rw [hV, World.size_alloc]
  have HVV1 := Lib.hid hV.symm
  clear hV
  have c0 := blk_cell (j := 0) b1
  simp only [List.getElem?_toArray, List.getElem?_cons_zero, List.getElem?_cons_succ] at c0
  have c1 := blk_cell (j := 1) b1
  simp only [List.getElem?_toArray, List.getElem?_cons_zero, List.getElem?_cons_succ] at c1
  rw [← HVV1.out] at c0 c1
  go_enter Try.func12, Try.ntmps12
  by_cases p1 : n ≤ 4000
  · have d1 : decide ((n : Int) ≤ 4000) = true := by simp; omega
    go_wp2_with fail
    rw [HVV1.out]
    go_ret
    refine ⟨_, rfl, ?_, hbt⟩
    simp
    omega
  · have d1 : decide ((n : Int) ≤ 4000) = false := by simp; omega
    go_wp2_with fail
    rw [HVV1.out]
    go_ret
    exact ⟨_, rfl, ⟨(fun hh => by cases hh), fun hh => absurd hh.1 p1⟩, hbt⟩

end Go.Proofs.Ytfacdoemgalodaa
