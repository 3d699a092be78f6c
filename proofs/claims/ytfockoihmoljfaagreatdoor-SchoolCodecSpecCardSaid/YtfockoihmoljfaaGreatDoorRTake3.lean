/-
  The walks of the reference's reader: num, text, nums, many.
-/
import Derived.Test.YtfockoihmoljfaaGreatDoorTake3
import Derived.Test.YtfockoihmoljfaaGreatDoorLotC
namespace Go.Proofs.YtfockoihmoljfaaGreatDoor
open Go.RowKit Go.Shelf
set_option linter.unusedVariables false
set_option linter.unusedSimpArgs false

set_option maxRecDepth 100000 in
set_option maxHeartbeats 4000000 in
theorem rrNum_any (bR : Nat) (A : Option Addr) (m c : Nat) (l : List UInt8) (at_ er : Int) (w : World) (b : w.heap[bR]? = some (.cells #[.slice A m c, .int .i64 at_, .int .i64 er] 112)) (h : RdB w w.heap.size A m c l) (ha : okI at_) (hm : m ≤ 1073741824) :
    Calls Tryz.prog 124 #[.pointer (some ⟨bR, 0, none⟩)] w fun e w' => e = .returned (.int .i64 (Sc.rNum l (at_, er)).1) ∧ w'.heap[bR]? = some (.cells #[.slice A m c, .int .i64 (Sc.rNum l (at_, er)).2.1, .int .i64 (Sc.rNum l (at_, er)).2.2] 112) ∧ w.grownBy w' (some bR) := by
  unfold okI at ha
  have hbR := blk_lt b
  have c0 := blk_cell (j := 0) b
  simp only [List.getElem?_toArray, List.getElem?_cons_zero, List.getElem?_cons_succ] at c0
  have c1 := blk_cell (j := 1) b
  simp only [List.getElem?_toArray, List.getElem?_cons_zero, List.getElem?_cons_succ] at c1
  have c2 := blk_cell (j := 2) b
  simp only [List.getElem?_toArray, List.getElem?_cons_zero, List.getElem?_cons_succ] at c2
  by_cases he : er = 0
  · subst he
    have HN : Hid (Sc.rNum l (at_, 0) = Vi.getI l at_) := Sc.take_ok
    rw [HN.out]
    clear HN
    obtain ⟨G, hG⟩ : ∃ G, Vi.getI l at_ = G := ⟨_, rfl⟩
    rw [hG]
    have HG := Lib.hid hG
    clear hG
    obtain ⟨n, nx, e⟩ := G
    dsimp only
    go_enter Tryz.func124, Tryz.ntmps124
    have hbt := Below.refl w.heap.size w
    go_wp2_with fail
    clear c0 c1 c2
    refine wp_region_stage 15 [([0, 1, 2, 3, 4, 5, 6, 7], some 8), ([9, 10, 11, 12, 13, 14], none)] [([], some 15)] (by kernel_rfl) (by kernel_rfl) ?_
    intro wd hsz hb
    clear hsz
    replace h := (h.below hb).more hb.size
    replace b := blk_below b hb
    replace hbt := hbt.trans (hb.mono hbt.size)
    clear hb
    simp only [pickP, pick, List.map_cons, List.map_nil, Option.map_some, Option.map_none, List.getD_cons_zero, List.getD_cons_succ]
    have c0 : ∀ x : Ext wd.heap.size wd, x.val.cell? ⟨bR, 0, none⟩ = some (.slice A m c) := fun x => (x.cell (blk_lt b)).trans (blk_cell b)
    have c1 : ∀ x : Ext wd.heap.size wd, x.val.cell? ⟨bR, 1, none⟩ = some (.int .i64 at_) := fun x => (x.cell (blk_lt b)).trans (blk_cell b)
    have c2 : ∀ x : Ext wd.heap.size wd, x.val.cell? ⟨bR, 2, none⟩ = some (.int .i64 0) := fun x => (x.cell (blk_lt b)).trans (blk_cell b)
    refine stage_cons ?_
    (repeat (go_big_quiet_step (fail)))
    refine plan_nil ?_
    clear c0 c1 c2
    refine plan_call (by kernel_rfl) (fun K hK => ?_)
    go_simp
    refine (rgetInt_any A m c l at_ wd h ha (by omega)).mono ?_
    rintro e' w3 ⟨rfl, rfl⟩
    have hb := Below.refl wd.heap.size wd
    rw [HG.out]
    dsimp only
    refine hK.out _ _ hb ?_
    clear hK K
    (try simp only [Act.put, List.setIfInBounds_toArray, List.set_cons_zero, List.set_cons_succ])
    replace h := (h.below hb).more hb.size
    replace b := blk_below b hb
    replace hbt := hbt.trans (hb.mono hbt.size)
    clear hb
    refine stage_cons ?_
    (repeat (go_big_quiet_step (fail)))
    refine plan_nil ?_
    refine plan_none (stage_late ?_)
    refine late_cons ?_
    (repeat (go_big_quiet_step (fail)))
    refine late_nil ?_
    refine late_call (by kernel_rfl) (fun K hK => ?_)
    go_simp
    refine hK.out _ _ ?_
    clear hK K
    (try simp only [Act.put, List.setIfInBounds_toArray, List.set_cons_zero, List.set_cons_succ])
    refine late_end ?_
    have c1 := blk_cell (j := 1) b
    simp only [List.getElem?_toArray, List.getElem?_cons_zero, List.getElem?_cons_succ] at c1
    have f1 := blk_frozen 1 b
    have c2 := blk_cell (j := 2) b
    simp only [List.getElem?_toArray, List.getElem?_cons_zero, List.getElem?_cons_succ] at c2
    have f2 := blk_frozen 2 b
    go_wp2_with fail
    go_ret
    have b1 := blk_set (k := 1) (.int .i64 nx) b
    simp only [List.setIfInBounds_toArray, List.set_cons_zero, List.set_cons_succ] at b1
    have b2 := blk_set (k := 2) (.int .i64 e) b1
    simp only [List.setIfInBounds_toArray, List.set_cons_zero, List.set_cons_succ] at b2
    exact ⟨rfl, b2, grown_set (grown_set (grown_of_below hbt))⟩
  · have HN : Hid (Sc.rNum l (at_, er) = (0, (at_, er))) := Sc.take_err he
    rw [HN.out]
    clear HN
    have d1 : (er != 0) = true := by simp; omega
    go_enter Tryz.func124, Tryz.ntmps124
    go_wp2_with fail
    go_ret
    exact ⟨rfl, b, World.grownBy.refl _ _⟩

set_option maxRecDepth 100000 in
set_option maxHeartbeats 4000000 in
theorem rrText_any (bR : Nat) (A : Option Addr) (m c : Nat) (l : List UInt8) (at_ er : Int) (w : World) (b : w.heap[bR]? = some (.cells #[.slice A m c, .int .i64 at_, .int .i64 er] 112)) (h : RdB w w.heap.size A m c l) (ha : okI at_) (hm : m ≤ 1073741824) :
    Calls Tryz.prog 123 #[.pointer (some ⟨bR, 0, none⟩)] w fun e w' => e = .returned (.string (strOf (Sc.rText l (at_, er)).1)) ∧ w'.heap[bR]? = some (.cells #[.slice A m c, .int .i64 (Sc.rText l (at_, er)).2.1, .int .i64 (Sc.rText l (at_, er)).2.2] 112) ∧ w.grownBy w' (some bR) := by
  unfold okI at ha
  have hbR := blk_lt b
  have c0 := blk_cell (j := 0) b
  simp only [List.getElem?_toArray, List.getElem?_cons_zero, List.getElem?_cons_succ] at c0
  have c1 := blk_cell (j := 1) b
  simp only [List.getElem?_toArray, List.getElem?_cons_zero, List.getElem?_cons_succ] at c1
  have c2 := blk_cell (j := 2) b
  simp only [List.getElem?_toArray, List.getElem?_cons_zero, List.getElem?_cons_succ] at c2
  by_cases he : er = 0
  · subst he
    have HN : Hid (Sc.rText l (at_, 0) = Vi.getS l at_ 64) := Sc.take_ok
    rw [HN.out]
    clear HN
    obtain ⟨G, hG⟩ : ∃ G, Vi.getS l at_ 64 = G := ⟨_, rfl⟩
    rw [hG]
    have HG := Lib.hid hG
    clear hG
    obtain ⟨n, nx, e⟩ := G
    dsimp only
    go_enter Tryz.func123, Tryz.ntmps123
    have hbt := Below.refl w.heap.size w
    go_wp2_with fail
    clear c0 c1 c2
    refine wp_region_stage 15 [([0, 1, 2, 3, 4, 5, 6, 7], some 8), ([9, 10, 11, 12, 13, 14], none)] [([], some 15)] (by kernel_rfl) (by kernel_rfl) ?_
    intro wd hsz hb
    clear hsz
    replace h := (h.below hb).more hb.size
    replace b := blk_below b hb
    replace hbt := hbt.trans (hb.mono hbt.size)
    clear hb
    simp only [pickP, pick, List.map_cons, List.map_nil, Option.map_some, Option.map_none, List.getD_cons_zero, List.getD_cons_succ]
    have c0 : ∀ x : Ext wd.heap.size wd, x.val.cell? ⟨bR, 0, none⟩ = some (.slice A m c) := fun x => (x.cell (blk_lt b)).trans (blk_cell b)
    have c1 : ∀ x : Ext wd.heap.size wd, x.val.cell? ⟨bR, 1, none⟩ = some (.int .i64 at_) := fun x => (x.cell (blk_lt b)).trans (blk_cell b)
    have c2 : ∀ x : Ext wd.heap.size wd, x.val.cell? ⟨bR, 2, none⟩ = some (.int .i64 0) := fun x => (x.cell (blk_lt b)).trans (blk_cell b)
    refine stage_cons ?_
    (repeat (go_big_quiet_step (fail)))
    refine plan_nil ?_
    clear c0 c1 c2
    refine plan_call (by kernel_rfl) (fun K hK => ?_)
    go_simp
    refine (rgetText_any A m c l at_ 64 wd h ha (by omega)).mono ?_
    rintro e' w3 ⟨rfl, rfl⟩
    have hb := Below.refl wd.heap.size wd
    rw [HG.out]
    dsimp only
    refine hK.out _ _ hb ?_
    clear hK K
    (try simp only [Act.put, List.setIfInBounds_toArray, List.set_cons_zero, List.set_cons_succ])
    replace h := (h.below hb).more hb.size
    replace b := blk_below b hb
    replace hbt := hbt.trans (hb.mono hbt.size)
    clear hb
    refine stage_cons ?_
    (repeat (go_big_quiet_step (fail)))
    refine plan_nil ?_
    refine plan_none (stage_late ?_)
    refine late_cons ?_
    (repeat (go_big_quiet_step (fail)))
    refine late_nil ?_
    refine late_call (by kernel_rfl) (fun K hK => ?_)
    go_simp
    refine hK.out _ _ ?_
    clear hK K
    (try simp only [Act.put, List.setIfInBounds_toArray, List.set_cons_zero, List.set_cons_succ])
    refine late_end ?_
    have c1 := blk_cell (j := 1) b
    simp only [List.getElem?_toArray, List.getElem?_cons_zero, List.getElem?_cons_succ] at c1
    have f1 := blk_frozen 1 b
    have c2 := blk_cell (j := 2) b
    simp only [List.getElem?_toArray, List.getElem?_cons_zero, List.getElem?_cons_succ] at c2
    have f2 := blk_frozen 2 b
    go_wp2_with fail
    go_ret
    have b1 := blk_set (k := 1) (.int .i64 nx) b
    simp only [List.setIfInBounds_toArray, List.set_cons_zero, List.set_cons_succ] at b1
    have b2 := blk_set (k := 2) (.int .i64 e) b1
    simp only [List.setIfInBounds_toArray, List.set_cons_zero, List.set_cons_succ] at b2
    exact ⟨rfl, b2, grown_set (grown_set (grown_of_below hbt))⟩
  · have HN : Hid (Sc.rText l (at_, er) = ([], (at_, er))) := Sc.take_err he
    rw [HN.out]
    clear HN
    have d1 : (er != 0) = true := by simp; omega
    go_enter Tryz.func123, Tryz.ntmps123
    go_wp2_with fail
    go_ret
    exact ⟨rfl, b, World.grownBy.refl _ _⟩

set_option maxRecDepth 100000 in
set_option maxHeartbeats 4000000 in
theorem rrNums_any (bR : Nat) (A : Option Addr) (m c : Nat) (l : List UInt8) (at_ er : Int) (w : World) (b : w.heap[bR]? = some (.cells #[.slice A m c, .int .i64 at_, .int .i64 er] 112)) (h : RdB w w.heap.size A m c l) (ha : okI at_) (hm : m ≤ 1073741824) :
    Calls Tryz.prog 125 #[.pointer (some ⟨bR, 0, none⟩)] w fun e w' => ∃ v, e = .returned v ∧ w'.ownsRow w.heap.size 3 1 v (Sc.rList l (at_, er)).1.length (iv (Sc.rList l (at_, er)).1) ∧ w'.heap[bR]? = some (.cells #[.slice A m c, .int .i64 (Sc.rList l (at_, er)).2.1, .int .i64 (Sc.rList l (at_, er)).2.2] 112) ∧ w.grownBy w' (some bR) := by
  unfold okI at ha
  have hbR := blk_lt b
  have c0 := blk_cell (j := 0) b
  simp only [List.getElem?_toArray, List.getElem?_cons_zero, List.getElem?_cons_succ] at c0
  have c1 := blk_cell (j := 1) b
  simp only [List.getElem?_toArray, List.getElem?_cons_zero, List.getElem?_cons_succ] at c1
  have c2 := blk_cell (j := 2) b
  simp only [List.getElem?_toArray, List.getElem?_cons_zero, List.getElem?_cons_succ] at c2
  by_cases he : er = 0
  · subst he
    have HN : Hid (Sc.rList l (at_, 0) = Vi.getL l at_ 64) := Sc.take_ok
    rw [HN.out]
    clear HN
    obtain ⟨G, hG⟩ : ∃ G, Vi.getL l at_ 64 = G := ⟨_, rfl⟩
    rw [hG]
    have HG := Lib.hid hG
    clear hG
    obtain ⟨n, nx, e⟩ := G
    dsimp only
    go_enter Tryz.func125, Tryz.ntmps125
    have hbt := Below.refl w.heap.size w
    go_wp2_with fail
    clear c0 c1 c2
    refine wp_region_stage 15 [([0, 1, 2, 3, 4, 5, 6, 7], some 8), ([9, 10, 11, 12, 13, 14], none)] [([], some 15)] (by kernel_rfl) (by kernel_rfl) ?_
    intro wd hsz hb
    clear hsz
    replace h := (h.below hb).more hb.size
    replace b := blk_below b hb
    replace hbt := hbt.trans (hb.mono hbt.size)
    clear hb
    simp only [pickP, pick, List.map_cons, List.map_nil, Option.map_some, Option.map_none, List.getD_cons_zero, List.getD_cons_succ]
    have c0 : ∀ x : Ext wd.heap.size wd, x.val.cell? ⟨bR, 0, none⟩ = some (.slice A m c) := fun x => (x.cell (blk_lt b)).trans (blk_cell b)
    have c1 : ∀ x : Ext wd.heap.size wd, x.val.cell? ⟨bR, 1, none⟩ = some (.int .i64 at_) := fun x => (x.cell (blk_lt b)).trans (blk_cell b)
    have c2 : ∀ x : Ext wd.heap.size wd, x.val.cell? ⟨bR, 2, none⟩ = some (.int .i64 0) := fun x => (x.cell (blk_lt b)).trans (blk_cell b)
    refine stage_cons ?_
    (repeat (go_big_quiet_step (fail)))
    refine plan_nil ?_
    clear c0 c1 c2
    refine plan_call (by kernel_rfl) (fun K hK => ?_)
    go_simp
    refine (rgetInts_any A m c l at_ 64 wd h ha hm).mono ?_
    rintro e' w3 ⟨v, rfl, ho, hb⟩
    rw [HG.out] at ho ⊢
    dsimp only at ho ⊢
    obtain ⟨Av, cv, rfl, _⟩ := own_rd ho
    replace ho := own_mono ho hbt.size
    refine hK.out _ _ hb ?_
    clear hK K
    (try simp only [Act.put, List.setIfInBounds_toArray, List.set_cons_zero, List.set_cons_succ])
    replace h := (h.below hb).more hb.size
    replace b := blk_below b hb
    replace hbt := hbt.trans (hb.mono hbt.size)
    clear hb
    refine stage_cons ?_
    (repeat (go_big_quiet_step (fail)))
    refine plan_nil ?_
    refine plan_none (stage_late ?_)
    refine late_cons ?_
    (repeat (go_big_quiet_step (fail)))
    refine late_nil ?_
    refine late_call (by kernel_rfl) (fun K hK => ?_)
    go_simp
    refine hK.out _ _ ?_
    clear hK K
    (try simp only [Act.put, List.setIfInBounds_toArray, List.set_cons_zero, List.set_cons_succ])
    refine late_end ?_
    have c1 := blk_cell (j := 1) b
    simp only [List.getElem?_toArray, List.getElem?_cons_zero, List.getElem?_cons_succ] at c1
    have f1 := blk_frozen 1 b
    have c2 := blk_cell (j := 2) b
    simp only [List.getElem?_toArray, List.getElem?_cons_zero, List.getElem?_cons_succ] at c2
    have f2 := blk_frozen 2 b
    go_wp2_with fail
    go_ret
    have b1 := blk_set (k := 1) (.int .i64 nx) b
    simp only [List.setIfInBounds_toArray, List.set_cons_zero, List.set_cons_succ] at b1
    have b2 := blk_set (k := 2) (.int .i64 e) b1
    simp only [List.setIfInBounds_toArray, List.set_cons_zero, List.set_cons_succ] at b2
    exact ⟨_, rfl, own_set (p := ⟨bR, 2, none⟩) (u := .int .i64 e) (own_set (p := ⟨bR, 1, none⟩) (u := .int .i64 nx) ho (own_blk_ne ho b (by decide))) (own_blk_ne ho b (by decide)), b2, grown_set (grown_set (grown_of_below hbt))⟩
  · have HN : Hid (Sc.rList l (at_, er) = ([], (at_, er))) := Sc.take_err he
    rw [HN.out]
    clear HN
    have d1 : (er != 0) = true := by simp; omega
    go_enter Tryz.func125, Tryz.ntmps125
    go_wp2_with fail
    go_ret
    exact ⟨_, rfl, World.ownsRow_nil _ _ _ _, b, World.grownBy.refl _ _⟩

set_option maxRecDepth 100000 in
set_option maxHeartbeats 4000000 in
theorem rrMany_any (bR : Nat) (A : Option Addr) (m c : Nat) (l : List UInt8) (at_ er most : Int) (w : World) (b : w.heap[bR]? = some (.cells #[.slice A m c, .int .i64 at_, .int .i64 er] 112)) (h : RdB w w.heap.size A m c l) (ha : okI at_) (hm : m ≤ 1073741824) :
    Calls Tryz.prog 122 #[.pointer (some ⟨bR, 0, none⟩), .int .i64 most] w fun e w' => e = .returned (.int .i64 (if (Sc.rCount l most (at_, er)).2.2 = 0 then (Sc.rCount l most (at_, er)).1 else 0)) ∧ w'.heap[bR]? = some (.cells #[.slice A m c, .int .i64 (Sc.rCount l most (at_, er)).2.1, .int .i64 (Sc.rCount l most (at_, er)).2.2] 112) ∧ w.grownBy w' (some bR) := by
  obtain ⟨RR, hRR⟩ : ∃ RR, RR = Sc.rCount l most (at_, er) := ⟨_, rfl⟩
  rw [← hRR]
  obtain ⟨V, hV⟩ : ∃ V : Int, V = (if RR.2.2 = 0 then RR.1 else 0) := ⟨_, rfl⟩
  rw [← hV]
  have HVV := Lib.hid hV
  clear hV
  unfold Sc.rCount at hRR
  have hlen : l.length ≤ 1073741824 := by rw [h.len]; exact hm
  go_enter Tryz.func122, Tryz.ntmps122
  go_wp2_with fail
  refine (rrNum_any bR A m c l at_ er w b h ha hm).mono ?_
  rintro e w1 ⟨rfl, b', hg⟩
  clear b h
  have ok0 := Sc.rNum_ok (l := l) (s := (at_, er)) hlen ha
  obtain ⟨Q, hQ⟩ : ∃ Q, Q = Sc.rNum l (at_, er) := ⟨_, rfl⟩
  rw [← hQ] at hRR ok0 b' ⊢
  clear hQ
  obtain ⟨n, a1, e1⟩ := Q
  dsimp only at hRR ok0 b' ⊢
  have b := b'
  clear b'
  have hn := ok0.1
  unfold okI at hn
  clear ok0
  have HRR := Lib.hid hRR
  clear hRR
  have c2 := blk_cell (j := 2) b
  simp only [List.getElem?_toArray, List.getElem?_cons_zero, List.getElem?_cons_succ] at c2
  have f2 := blk_frozen 2 b
  by_cases he : e1 ≠ 0
  · have HC : Hid (RR = (n, (a1, e1))) := by show _ = _; rw [HRR.out, if_neg he]
    have HV : Hid (V = 0) := by show _ = _; rw [HVV.out, HC.out]; exact if_neg he
    clear HRR
    have t1 : (e1 == 0) = false := by simp; omega
    have t2 : (e1 != 0) = true := by simp; omega
    go_wp2_with fail
    go_ret
    exact ⟨by rw [HV.out]; rfl, by rw [HC.out]; exact b, hg⟩
  · have he : e1 = 0 := Classical.not_not.1 he
    subst he
    by_cases hneg : n < 0
    · have t1 : decide (n < 0) = true := by simp; omega
      have HC : Hid (RR = (n, (a1, 11))) := by show _ = _; rw [HRR.out, if_pos rfl, if_pos hneg]
      have HV : Hid (V = 0) := by show _ = _; rw [HVV.out, HC.out]; exact if_neg (by simp)
      clear HRR
      have b2 := blk_set (k := 2) (.int .i64 11) b
      simp only [List.setIfInBounds_toArray, List.set_cons_zero, List.set_cons_succ] at b2
      go_wp2_with fail
      go_ret
      exact ⟨by rw [HV.out]; rfl, by rw [HC.out]; exact b2, grown_set hg⟩
    · have t1 : decide (n < 0) = false := by simp; omega
      by_cases hbig : most < n
      · have t3 : decide (most < n) = true := by simp; omega
        have HC : Hid (RR = (n, (a1, 2))) := by show _ = _; rw [HRR.out, if_pos rfl, if_neg hneg, if_pos hbig]
        have HV : Hid (V = 0) := by show _ = _; rw [HVV.out, HC.out]; exact if_neg (by simp)
        clear HRR
        have b2 := blk_set (k := 2) (.int .i64 2) b
        simp only [List.setIfInBounds_toArray, List.set_cons_zero, List.set_cons_succ] at b2
        go_wp2_with fail
        go_ret
        exact ⟨by rw [HV.out]; rfl, by rw [HC.out]; exact b2, grown_set hg⟩
      · have t3 : decide (most < n) = false := by simp; omega
        have HC : Hid (RR = (n, (a1, 0))) := by show _ = _; rw [HRR.out, if_pos rfl, if_neg hneg, if_neg hbig]
        have HV : Hid (V = n) := by show _ = _; rw [HVV.out, HC.out]; exact if_pos rfl
        clear HRR
        go_wp2_with fail
        go_ret
        exact ⟨by rw [HV.out]; rfl, by rw [HC.out]; exact b, hg⟩

end Go.Proofs.YtfockoihmoljfaaGreatDoor
