/-
  The walks of the reader's take, num, text and list.
-/
import Derived.Test.YtfockoihmoljfaaGreatDoorLotC
import Derived.Test.YtfockoihmoljfaaGreatDoorLotA
namespace Go.Proofs.YtfockoihmoljfaaGreatDoor
open Go.RowKit Go.Shelf
set_option linter.unusedVariables false
set_option linter.unusedSimpArgs false

set_option maxRecDepth 100000 in
theorem rdText1_any (A : Option Addr) (m c : Nat) (l : List UInt8) (a : Int) (w : World) (h : RdB w w.heap.size A m c l) (ha : okI a) :
    Calls Tryz.prog 115 #[.slice A m c, .int .i64 a] w fun e w' => e = .returned (.tuple #[.string (strOf (Vi.getS l a 64).1), .int .i64 (Vi.getS l a 64).2.1, .int .i64 (Vi.getS l a 64).2.2]) ∧ Below w.heap.size w w' := by
  unfold okI at ha
  go_enter Tryz.func115, Tryz.ntmps115
  go_wp2_with fail
  refine (getText_any A m c l a 64 w h ha).mono ?_
  rintro e w2 ⟨rfl, hb⟩
  go_wp2_with fail
  go_ret3
  exact ⟨rfl, hb⟩
set_option maxRecDepth 100000 in
theorem rdList1_any (A : Option Addr) (m c : Nat) (l : List UInt8) (a : Int) (w : World) (h : RdB w w.heap.size A m c l) (ha : okI a) (hm : m ≤ 1073741824) :
    Calls Tryz.prog 120 #[.slice A m c, .int .i64 a] w (LPost (Vi.getL l a 64) w) := by
  unfold okI at ha
  go_enter Tryz.func120, Tryz.ntmps120
  go_wp2_with fail
  refine (getInts_any A m c l a 64 w h ha hm).mono ?_
  rintro e w2 ⟨v, rfl, ho, hb⟩
  obtain ⟨A2, c2, rfl, _⟩ := own_rd ho
  go_wp2_with fail
  go_ret3
  exact ⟨_, rfl, ho, hb⟩

set_option maxRecDepth 100000 in
set_option maxHeartbeats 4000000 in
theorem takeI_any (bR : Nat) (A : Option Addr) (m c : Nat) (l : List UInt8) (at_ er : Int) (w : World) (b : w.heap[bR]? = some (.cells #[.slice A m c, .int .i64 at_, .int .i64 er] 96)) (h : RdB w w.heap.size A m c l) (ha : okI at_) (hm : m ≤ 1073741824) :
    Calls Tryz.prog 117 #[.pointer (some ⟨bR, 0, none⟩), .func (.func 118) #[] #[]] w fun e w' => e = .returned (.int .i64 (Sc.rNum l (at_, er)).1) ∧ w'.heap[bR]? = some (.cells #[.slice A m c, .int .i64 (Sc.rNum l (at_, er)).2.1, .int .i64 (Sc.rNum l (at_, er)).2.2] 96) ∧ w.grownBy w' (some bR) := by
  have ha0 := ha
  unfold okI at ha
  have hbR := blk_lt b
  have c0 := blk_cell (j := 0) b
  simp only [List.getElem?_toArray, List.getElem?_cons_zero, List.getElem?_cons_succ] at c0
  have c1 := blk_cell (j := 1) b
  simp only [List.getElem?_toArray, List.getElem?_cons_zero, List.getElem?_cons_succ] at c1
  have c2 := blk_cell (j := 2) b
  simp only [List.getElem?_toArray, List.getElem?_cons_zero, List.getElem?_cons_succ] at c2
  by_cases he : er = 0
  · subst he
    have HN : Hid (Sc.rNum l (at_, 0) = Vi.getI l at_) := Sc.take_ok
    rw [HN.out]
    clear HN
    obtain ⟨G, hG⟩ : ∃ G, Vi.getI l at_ = G := ⟨_, rfl⟩
    rw [hG]
    have HG := Lib.hid hG
    clear hG
    obtain ⟨n, nx, e⟩ := G
    dsimp only
    go_enter Tryz.func117, Tryz.ntmps117
    have hbt := Below.refl w.heap.size w
    go_wp2_with fail
    clear c0 c1 c2
    refine wp_region_stage 19 [([0, 1, 2, 3, 4, 5, 6, 7, 8, 9, 10], some 11), ([12, 13, 14, 15, 16, 17, 18], none)] [([], some 19), ([20, 21], some 22)] (by kernel_rfl) (by kernel_rfl) ?_
    intro wd hsz hb
    clear hsz
    replace h := (h.below hb).more hb.size
    replace b := blk_below b hb
    replace hbt := hbt.trans (hb.mono hbt.size)
    clear hb
    simp only [pickP, pick, List.map_cons, List.map_nil, Option.map_some, Option.map_none, List.getD_cons_zero, List.getD_cons_succ]
    have c0 : ∀ x : Ext wd.heap.size wd, x.val.cell? ⟨bR, 0, none⟩ = some (.slice A m c) := fun x => (x.cell (blk_lt b)).trans (blk_cell b)
    have c1 : ∀ x : Ext wd.heap.size wd, x.val.cell? ⟨bR, 1, none⟩ = some (.int .i64 at_) := fun x => (x.cell (blk_lt b)).trans (blk_cell b)
    have c2 : ∀ x : Ext wd.heap.size wd, x.val.cell? ⟨bR, 2, none⟩ = some (.int .i64 0) := fun x => (x.cell (blk_lt b)).trans (blk_cell b)
    refine stage_cons ?_
    (repeat (go_big_quiet_step (fail)))
    refine plan_nil ?_
    clear c0 c1 c2
    refine plan_call (by kernel_rfl) (fun K hK => ?_)
    go_simp
    refine (getInt_any A m c l at_ wd h ha).mono ?_
    rintro e' w3 ⟨rfl, rfl⟩
    have hb := Below.refl wd.heap.size wd
    rw [HG.out]
    dsimp only
    refine hK.out _ _ hb ?_
    clear hK K
    (try simp only [Act.put, List.setIfInBounds_toArray, List.set_cons_zero, List.set_cons_succ])
    replace h := (h.below hb).more hb.size
    replace b := blk_below b hb
    replace hbt := hbt.trans (hb.mono hbt.size)
    clear hb
    refine stage_cons ?_
    (repeat (go_big_quiet_step (fail)))
    refine plan_nil ?_
    refine plan_none (stage_late ?_)
    have c1 := blk_cell (j := 1) b
    simp only [List.getElem?_toArray, List.getElem?_cons_zero, List.getElem?_cons_succ] at c1
    have f1 := blk_frozen 1 b
    refine late_cons ?_
    (repeat (go_big_quiet_step (fail)))
    refine late_nil ?_
    refine late_call (by kernel_rfl) (fun K hK => ?_)
    go_simp
    refine hK.out _ _ ?_
    clear hK K
    (try simp only [Act.put, List.setIfInBounds_toArray, List.set_cons_zero, List.set_cons_succ])
    replace b := blk_set (k := 1) (.int .i64 nx) b
    simp only [List.setIfInBounds_toArray, List.set_cons_zero, List.set_cons_succ] at b
    have hg : w.grownBy (wd.setCell ⟨bR, 1, none⟩ (.int .i64 nx)) (some bR) := grown_set (grown_of_below hbt)
    clear c1 f1 h hbt
    generalize wd.setCell ⟨bR, 1, none⟩ (.int .i64 nx) = w4 at *
    have c1 := blk_cell (j := 2) b
    simp only [List.getElem?_toArray, List.getElem?_cons_zero, List.getElem?_cons_succ] at c1
    have f1 := blk_frozen 2 b
    refine late_cons ?_
    (repeat (go_big_quiet_step (fail)))
    refine late_nil ?_
    refine late_call (by kernel_rfl) (fun K hK => ?_)
    go_simp
    refine hK.out _ _ ?_
    clear hK K
    (try simp only [Act.put, List.setIfInBounds_toArray, List.set_cons_zero, List.set_cons_succ])
    replace b := blk_set (k := 2) (.int .i64 e) b
    simp only [List.setIfInBounds_toArray, List.set_cons_zero, List.set_cons_succ] at b
    replace hg : w.grownBy (w4.setCell ⟨bR, 2, none⟩ (.int .i64 e)) (some bR) := grown_set hg
    clear c1 f1
    generalize w4.setCell ⟨bR, 2, none⟩ (.int .i64 e) = w5 at *
    refine late_end ?_
    go_wp2_with fail
    go_ret
    exact ⟨rfl, b, hg⟩
  · have HN : Hid (Sc.rNum l (at_, er) = (0, (at_, er))) := Sc.take_err he
    rw [HN.out]
    clear HN
    have d1 : (er == 0) = false := by simp; omega
    go_enter Tryz.func117, Tryz.ntmps117
    go_wp2_with fail
    go_ret
    exact ⟨rfl, b, World.grownBy.refl _ _⟩

set_option maxRecDepth 100000 in
set_option maxHeartbeats 4000000 in
theorem takeS_any (bR : Nat) (A : Option Addr) (m c : Nat) (l : List UInt8) (at_ er : Int) (w : World) (b : w.heap[bR]? = some (.cells #[.slice A m c, .int .i64 at_, .int .i64 er] 96)) (h : RdB w w.heap.size A m c l) (ha : okI at_) (hm : m ≤ 1073741824) :
    Calls Tryz.prog 114 #[.pointer (some ⟨bR, 0, none⟩), .func (.func 115) #[] #[]] w fun e w' => e = .returned (.string (strOf (Sc.rText l (at_, er)).1)) ∧ w'.heap[bR]? = some (.cells #[.slice A m c, .int .i64 (Sc.rText l (at_, er)).2.1, .int .i64 (Sc.rText l (at_, er)).2.2] 96) ∧ w.grownBy w' (some bR) := by
  have ha0 := ha
  unfold okI at ha
  have hbR := blk_lt b
  have c0 := blk_cell (j := 0) b
  simp only [List.getElem?_toArray, List.getElem?_cons_zero, List.getElem?_cons_succ] at c0
  have c1 := blk_cell (j := 1) b
  simp only [List.getElem?_toArray, List.getElem?_cons_zero, List.getElem?_cons_succ] at c1
  have c2 := blk_cell (j := 2) b
  simp only [List.getElem?_toArray, List.getElem?_cons_zero, List.getElem?_cons_succ] at c2
  by_cases he : er = 0
  · subst he
    have HN : Hid (Sc.rText l (at_, 0) = Vi.getS l at_ 64) := Sc.take_ok
    rw [HN.out]
    clear HN
    obtain ⟨G, hG⟩ : ∃ G, Vi.getS l at_ 64 = G := ⟨_, rfl⟩
    rw [hG]
    have HG := Lib.hid hG
    clear hG
    obtain ⟨n, nx, e⟩ := G
    dsimp only
    go_enter Tryz.func114, Tryz.ntmps114
    have hbt := Below.refl w.heap.size w
    go_wp2_with fail
    clear c0 c1 c2
    refine wp_region_stage 19 [([0, 1, 2, 3, 4, 5, 6, 7, 8, 9, 10], some 11), ([12, 13, 14, 15, 16, 17, 18], none)] [([], some 19), ([20, 21], some 22)] (by kernel_rfl) (by kernel_rfl) ?_
    intro wd hsz hb
    clear hsz
    replace h := (h.below hb).more hb.size
    replace b := blk_below b hb
    replace hbt := hbt.trans (hb.mono hbt.size)
    clear hb
    simp only [pickP, pick, List.map_cons, List.map_nil, Option.map_some, Option.map_none, List.getD_cons_zero, List.getD_cons_succ]
    have c0 : ∀ x : Ext wd.heap.size wd, x.val.cell? ⟨bR, 0, none⟩ = some (.slice A m c) := fun x => (x.cell (blk_lt b)).trans (blk_cell b)
    have c1 : ∀ x : Ext wd.heap.size wd, x.val.cell? ⟨bR, 1, none⟩ = some (.int .i64 at_) := fun x => (x.cell (blk_lt b)).trans (blk_cell b)
    have c2 : ∀ x : Ext wd.heap.size wd, x.val.cell? ⟨bR, 2, none⟩ = some (.int .i64 0) := fun x => (x.cell (blk_lt b)).trans (blk_cell b)
    refine stage_cons ?_
    (repeat (go_big_quiet_step (fail)))
    refine plan_nil ?_
    clear c0 c1 c2
    refine plan_call (by kernel_rfl) (fun K hK => ?_)
    go_simp
    refine (rdText1_any A m c l at_ wd h ha0).mono ?_
    rintro e' w3 ⟨rfl, hb⟩
    rw [HG.out]
    dsimp only
    refine hK.out _ _ hb ?_
    clear hK K
    (try simp only [Act.put, List.setIfInBounds_toArray, List.set_cons_zero, List.set_cons_succ])
    replace h := (h.below hb).more hb.size
    replace b := blk_below b hb
    replace hbt := hbt.trans (hb.mono hbt.size)
    clear hb
    refine stage_cons ?_
    (repeat (go_big_quiet_step (fail)))
    refine plan_nil ?_
    refine plan_none (stage_late ?_)
    have c1 := blk_cell (j := 1) b
    simp only [List.getElem?_toArray, List.getElem?_cons_zero, List.getElem?_cons_succ] at c1
    have f1 := blk_frozen 1 b
    refine late_cons ?_
    (repeat (go_big_quiet_step (fail)))
    refine late_nil ?_
    refine late_call (by kernel_rfl) (fun K hK => ?_)
    go_simp
    refine hK.out _ _ ?_
    clear hK K
    (try simp only [Act.put, List.setIfInBounds_toArray, List.set_cons_zero, List.set_cons_succ])
    replace b := blk_set (k := 1) (.int .i64 nx) b
    simp only [List.setIfInBounds_toArray, List.set_cons_zero, List.set_cons_succ] at b
    have hg : w.grownBy (w3.setCell ⟨bR, 1, none⟩ (.int .i64 nx)) (some bR) := grown_set (grown_of_below hbt)
    clear c1 f1 h hbt
    generalize w3.setCell ⟨bR, 1, none⟩ (.int .i64 nx) = w4 at *
    have c1 := blk_cell (j := 2) b
    simp only [List.getElem?_toArray, List.getElem?_cons_zero, List.getElem?_cons_succ] at c1
    have f1 := blk_frozen 2 b
    refine late_cons ?_
    (repeat (go_big_quiet_step (fail)))
    refine late_nil ?_
    refine late_call (by kernel_rfl) (fun K hK => ?_)
    go_simp
    refine hK.out _ _ ?_
    clear hK K
    (try simp only [Act.put, List.setIfInBounds_toArray, List.set_cons_zero, List.set_cons_succ])
    replace b := blk_set (k := 2) (.int .i64 e) b
    simp only [List.setIfInBounds_toArray, List.set_cons_zero, List.set_cons_succ] at b
    replace hg : w.grownBy (w4.setCell ⟨bR, 2, none⟩ (.int .i64 e)) (some bR) := grown_set hg
    clear c1 f1
    generalize w4.setCell ⟨bR, 2, none⟩ (.int .i64 e) = w5 at *
    refine late_end ?_
    go_wp2_with fail
    go_ret
    exact ⟨rfl, b, hg⟩
  · have HN : Hid (Sc.rText l (at_, er) = ([], (at_, er))) := Sc.take_err he
    rw [HN.out]
    clear HN
    have d1 : (er == 0) = false := by simp; omega
    go_enter Tryz.func114, Tryz.ntmps114
    go_wp2_with fail
    go_ret
    exact ⟨rfl, b, World.grownBy.refl _ _⟩

set_option maxRecDepth 100000 in
set_option maxHeartbeats 4000000 in
theorem takeL_any (bR : Nat) (A : Option Addr) (m c : Nat) (l : List UInt8) (at_ er : Int) (w : World) (b : w.heap[bR]? = some (.cells #[.slice A m c, .int .i64 at_, .int .i64 er] 96)) (h : RdB w w.heap.size A m c l) (ha : okI at_) (hm : m ≤ 1073741824) :
    Calls Tryz.prog 119 #[.pointer (some ⟨bR, 0, none⟩), .func (.func 120) #[] #[]] w fun e w' => ∃ v, e = .returned v ∧ w'.ownsRow w.heap.size 3 1 v (Sc.rList l (at_, er)).1.length (iv (Sc.rList l (at_, er)).1) ∧ w'.heap[bR]? = some (.cells #[.slice A m c, .int .i64 (Sc.rList l (at_, er)).2.1, .int .i64 (Sc.rList l (at_, er)).2.2] 96) ∧ w.grownBy w' (some bR) := by
  have ha0 := ha
  unfold okI at ha
  have hbR := blk_lt b
  have c0 := blk_cell (j := 0) b
  simp only [List.getElem?_toArray, List.getElem?_cons_zero, List.getElem?_cons_succ] at c0
  have c1 := blk_cell (j := 1) b
  simp only [List.getElem?_toArray, List.getElem?_cons_zero, List.getElem?_cons_succ] at c1
  have c2 := blk_cell (j := 2) b
  simp only [List.getElem?_toArray, List.getElem?_cons_zero, List.getElem?_cons_succ] at c2
  by_cases he : er = 0
  · subst he
    have HN : Hid (Sc.rList l (at_, 0) = Vi.getL l at_ 64) := Sc.take_ok
    rw [HN.out]
    clear HN
    obtain ⟨G, hG⟩ : ∃ G, Vi.getL l at_ 64 = G := ⟨_, rfl⟩
    rw [hG]
    have HG := Lib.hid hG
    clear hG
    obtain ⟨n, nx, e⟩ := G
    dsimp only
    go_enter Tryz.func119, Tryz.ntmps119
    have hbt := Below.refl w.heap.size w
    go_wp2_with fail
    clear c0 c1 c2
    refine wp_region_stage 19 [([0, 1, 2, 3, 4, 5, 6, 7, 8, 9, 10], some 11), ([12, 13, 14, 15, 16, 17, 18], none)] [([], some 19), ([20, 21], some 22)] (by kernel_rfl) (by kernel_rfl) ?_
    intro wd hsz hb
    clear hsz
    replace h := (h.below hb).more hb.size
    replace b := blk_below b hb
    replace hbt := hbt.trans (hb.mono hbt.size)
    clear hb
    simp only [pickP, pick, List.map_cons, List.map_nil, Option.map_some, Option.map_none, List.getD_cons_zero, List.getD_cons_succ]
    have c0 : ∀ x : Ext wd.heap.size wd, x.val.cell? ⟨bR, 0, none⟩ = some (.slice A m c) := fun x => (x.cell (blk_lt b)).trans (blk_cell b)
    have c1 : ∀ x : Ext wd.heap.size wd, x.val.cell? ⟨bR, 1, none⟩ = some (.int .i64 at_) := fun x => (x.cell (blk_lt b)).trans (blk_cell b)
    have c2 : ∀ x : Ext wd.heap.size wd, x.val.cell? ⟨bR, 2, none⟩ = some (.int .i64 0) := fun x => (x.cell (blk_lt b)).trans (blk_cell b)
    refine stage_cons ?_
    (repeat (go_big_quiet_step (fail)))
    refine plan_nil ?_
    clear c0 c1 c2
    refine plan_call (by kernel_rfl) (fun K hK => ?_)
    go_simp
    refine (rdList1_any A m c l at_ wd h ha0 hm).mono ?_
    rintro e' w3 ⟨v, rfl, ho, hb⟩
    rw [HG.out] at ho ⊢
    dsimp only at ho ⊢
    obtain ⟨Av, cv, rfl, _⟩ := own_rd ho
    replace ho := own_mono ho hbt.size
    refine hK.out _ _ hb ?_
    clear hK K
    (try simp only [Act.put, List.setIfInBounds_toArray, List.set_cons_zero, List.set_cons_succ])
    replace h := (h.below hb).more hb.size
    replace b := blk_below b hb
    replace hbt := hbt.trans (hb.mono hbt.size)
    clear hb
    refine stage_cons ?_
    (repeat (go_big_quiet_step (fail)))
    refine plan_nil ?_
    refine plan_none (stage_late ?_)
    have c1 := blk_cell (j := 1) b
    simp only [List.getElem?_toArray, List.getElem?_cons_zero, List.getElem?_cons_succ] at c1
    have f1 := blk_frozen 1 b
    refine late_cons ?_
    (repeat (go_big_quiet_step (fail)))
    refine late_nil ?_
    refine late_call (by kernel_rfl) (fun K hK => ?_)
    go_simp
    refine hK.out _ _ ?_
    clear hK K
    (try simp only [Act.put, List.setIfInBounds_toArray, List.set_cons_zero, List.set_cons_succ])
    replace ho := own_set (p := ⟨bR, 1, none⟩) (u := .int .i64 nx) ho (own_blk_ne ho b (by decide))
    replace b := blk_set (k := 1) (.int .i64 nx) b
    simp only [List.setIfInBounds_toArray, List.set_cons_zero, List.set_cons_succ] at b
    have hg : w.grownBy (w3.setCell ⟨bR, 1, none⟩ (.int .i64 nx)) (some bR) := grown_set (grown_of_below hbt)
    clear c1 f1 h hbt
    generalize w3.setCell ⟨bR, 1, none⟩ (.int .i64 nx) = w4 at *
    have c1 := blk_cell (j := 2) b
    simp only [List.getElem?_toArray, List.getElem?_cons_zero, List.getElem?_cons_succ] at c1
    have f1 := blk_frozen 2 b
    refine late_cons ?_
    (repeat (go_big_quiet_step (fail)))
    refine late_nil ?_
    refine late_call (by kernel_rfl) (fun K hK => ?_)
    go_simp
    refine hK.out _ _ ?_
    clear hK K
    (try simp only [Act.put, List.setIfInBounds_toArray, List.set_cons_zero, List.set_cons_succ])
    replace ho := own_set (p := ⟨bR, 2, none⟩) (u := .int .i64 e) ho (own_blk_ne ho b (by decide))
    replace b := blk_set (k := 2) (.int .i64 e) b
    simp only [List.setIfInBounds_toArray, List.set_cons_zero, List.set_cons_succ] at b
    replace hg : w.grownBy (w4.setCell ⟨bR, 2, none⟩ (.int .i64 e)) (some bR) := grown_set hg
    clear c1 f1
    generalize w4.setCell ⟨bR, 2, none⟩ (.int .i64 e) = w5 at *
    refine late_end ?_
    go_wp2_with fail
    go_ret
    exact ⟨_, rfl, ho, b, hg⟩
  · have HN : Hid (Sc.rList l (at_, er) = ([], (at_, er))) := Sc.take_err he
    rw [HN.out]
    clear HN
    have d1 : (er == 0) = false := by simp; omega
    go_enter Tryz.func119, Tryz.ntmps119
    go_wp2_with fail
    go_ret
    exact ⟨_, rfl, World.ownsRow_nil _ _ _ _, b, World.grownBy.refl _ _⟩

set_option maxRecDepth 100000 in
set_option maxHeartbeats 4000000 in
theorem rdNum_any (bR : Nat) (A : Option Addr) (m c : Nat) (l : List UInt8) (at_ er : Int) (w : World) (b : w.heap[bR]? = some (.cells #[.slice A m c, .int .i64 at_, .int .i64 er] 96)) (h : RdB w w.heap.size A m c l) (ha : okI at_) (hm : m ≤ 1073741824) :
    Calls Tryz.prog 64 #[.pointer (some ⟨bR, 0, none⟩)] w fun e w' => e = .returned (.int .i64 (Sc.rNum l (at_, er)).1) ∧ w'.heap[bR]? = some (.cells #[.slice A m c, .int .i64 (Sc.rNum l (at_, er)).2.1, .int .i64 (Sc.rNum l (at_, er)).2.2] 96) ∧ w.grownBy w' (some bR) := by
  go_enter Tryz.func64, Tryz.ntmps64
  go_wp2_with fail
  refine (takeI_any bR A m c l at_ er w b h ha hm).mono ?_
  rintro e w2 ⟨rfl, hb, hg⟩
  go_wp2_with fail
  go_ret
  exact ⟨rfl, hb, hg⟩

set_option maxRecDepth 100000 in
set_option maxHeartbeats 4000000 in
theorem rdText_any (bR : Nat) (A : Option Addr) (m c : Nat) (l : List UInt8) (at_ er : Int) (w : World) (b : w.heap[bR]? = some (.cells #[.slice A m c, .int .i64 at_, .int .i64 er] 96)) (h : RdB w w.heap.size A m c l) (ha : okI at_) (hm : m ≤ 1073741824) :
    Calls Tryz.prog 63 #[.pointer (some ⟨bR, 0, none⟩)] w fun e w' => e = .returned (.string (strOf (Sc.rText l (at_, er)).1)) ∧ w'.heap[bR]? = some (.cells #[.slice A m c, .int .i64 (Sc.rText l (at_, er)).2.1, .int .i64 (Sc.rText l (at_, er)).2.2] 96) ∧ w.grownBy w' (some bR) := by
  go_enter Tryz.func63, Tryz.ntmps63
  go_wp2_with fail
  refine (takeS_any bR A m c l at_ er w b h ha hm).mono ?_
  rintro e w2 ⟨rfl, hb, hg⟩
  go_wp2_with fail
  go_ret
  exact ⟨rfl, hb, hg⟩

set_option maxRecDepth 100000 in
set_option maxHeartbeats 4000000 in
theorem rdList_any (bR : Nat) (A : Option Addr) (m c : Nat) (l : List UInt8) (at_ er : Int) (w : World) (b : w.heap[bR]? = some (.cells #[.slice A m c, .int .i64 at_, .int .i64 er] 96)) (h : RdB w w.heap.size A m c l) (ha : okI at_) (hm : m ≤ 1073741824) :
    Calls Tryz.prog 67 #[.pointer (some ⟨bR, 0, none⟩)] w fun e w' => ∃ v, e = .returned v ∧ w'.ownsRow w.heap.size 3 1 v (Sc.rList l (at_, er)).1.length (iv (Sc.rList l (at_, er)).1) ∧ w'.heap[bR]? = some (.cells #[.slice A m c, .int .i64 (Sc.rList l (at_, er)).2.1, .int .i64 (Sc.rList l (at_, er)).2.2] 96) ∧ w.grownBy w' (some bR) := by
  go_enter Tryz.func67, Tryz.ntmps67
  go_wp2_with fail
  refine (takeL_any bR A m c l at_ er w b h ha hm).mono ?_
  rintro e w2 ⟨v, rfl, ho, hb, hg⟩
  go_wp2_with fail
  go_ret
  exact ⟨_, rfl, ho, hb, hg⟩

end Go.Proofs.YtfockoihmoljfaaGreatDoor
