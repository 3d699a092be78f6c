/-
  The law's shows.
-/
import Derived.Test.YtmighpfjjaaknaaMonInv
namespace Go.Proofs.Ytmighpfjjaaknaa
open Go.RowKit
set_option linter.unusedVariables false
set_option linter.unusedSimpArgs false

theorem same4_true (A A' : Option Addr) (n c n' c' : Nat) (l r : List Pl) (w : World) (h : RdP w w.heap.size A n c l) (h' : RdP w w.heap.size A' n' c' r) (he : l = r) :
    Calls Try.prog 27 #[.agg #[.slice A n c], .agg #[.slice A' n' c']] w fun e w' => e = .returned (.bool true) ∧ Below w.heap.size w w' :=
  (same4_any A A' n c n' c' l r w h h').mono fun e w' hh => ⟨by rw [hh.1, decide_eq_true he], hh.2⟩
set_option maxRecDepth 20000 in
set_option maxHeartbeats 1000000 in
theorem shows_any (A : Option Addr) (n c : Nat) (us : List Ver) (no : Int) (Ac : Option Addr) (nc kc : Nat) (l : List Pl) (w : World) (h : RdV w w.heap.size A n c us) (hc : RdP w w.heap.size Ac nc kc l) (hn : n ≤ 1073741824)
    (hs : (no = 0 ∧ l = []) ∨ (1 ≤ no ∧ no ≤ n ∧ l = (us.getD (no.toNat - 1) zeroV).week)) :
    Calls Try.prog 24 #[.slice A n c, .agg #[.int .i64 no, .slice Ac nc kc]] w fun e w' => e = .returned (.bool true) ∧ Below w.heap.size w w' := by
  have n1 := h.max
  have n2 := h.le
  have n3 := hc.max
  have n4 := hc.le
  have hl := Lib.hid h.len
  have hlc := Lib.hid hc.len
  obtain ⟨V1, hV⟩ : ∃ V1, V1 = w.alloc (.cells #[.int .i64 no, .slice Ac nc kc] 27) := ⟨_, rfl⟩
  have bc := blk_new hV
  have hb := below_new hV
  have hbt := hb
  clear hb
  have HSV1 : Hid (V1.heap.size = w.heap.size + 1) := by show V1.heap.size = _; rw [hV, World.size_alloc]
  have HVV1 := Lib.hid hV.symm
  clear hV
  replace h := (h.below hbt).more hbt.size
  replace hc := (hc.below hbt).more hbt.size
  rcases hs with ⟨rfl, hl0⟩ | ⟨h1, h2, hw⟩
  · rw [hl0] at hlc
    obtain rfl : nc = 0 := hlc.out.symm
    clear hl0 hlc
    go_enter Try.func24, Try.ntmps24
    have cbc0 := cell_of_row V1 w.heap.size 0 _ _ _ bc
    simp only [List.getElem?_toArray, List.getElem?_cons_zero, List.getElem?_cons_succ] at cbc0
    have cbc1 := cell_of_row V1 w.heap.size 1 _ _ _ bc
    simp only [List.getElem?_toArray, List.getElem?_cons_zero, List.getElem?_cons_succ] at cbc1
    rw [← HVV1.out] at cbc0 cbc1
    go_wp2_with fail
    rw [HVV1.out]
    clear HVV1
    clear cbc0 cbc1
    go_ret
    exact ⟨rfl, hbt⟩
  · obtain ⟨q, rfl⟩ : ∃ q : Nat, no = (q : Int) + 1 := ⟨(no - 1).toNat, by omega⟩
    have hqn : q < n := by omega
    have hql : q < us.length := by rw [hl.out]; exact hqn
    have HW : Hid (us[q].week = l) := by show us[q].week = l; rw [hw, show ((q : Int) + 1).toNat - 1 = q by omega, List.getD_eq_getElem?_getD, List.getElem?_eq_getElem hql]; rfl
    clear hw
    obtain ⟨ad, Aq, cq, rfl, hab, c1, c2, c3, c4, hpq, _, _⟩ := h.at_ hqn hql
    clear c1 c3 c4
    generalize us[q] = vq at *
    obtain ⟨qno, lq, qc, qb⟩ := vq
    dsimp only at *
    have d1 : ((q : Int) + 1 == 0) = false := by simp; omega
    have d2 : decide ((1 : Int) ≤ (q : Int) + 1) = true := decide_eq_true (by omega)
    have d3 : decide ((q : Int) + 1 ≤ (n : Int)) = true := decide_eq_true (by omega)
    have kw2 : IntKind.i64.wrap (q : Int) = (q : Int) := IntWalk.i64_in _ (by omega)
    have i0 : (0 : Int) ≤ (q : Int) := by omega
    have i1 : (q : Int) < (n : Int) := by omega
    go_enter Try.func24, Try.ntmps24
    have cbc0 := cell_of_row V1 w.heap.size 0 _ _ _ bc
    simp only [List.getElem?_toArray, List.getElem?_cons_zero, List.getElem?_cons_succ] at cbc0
    have cbc1 := cell_of_row V1 w.heap.size 1 _ _ _ bc
    simp only [List.getElem?_toArray, List.getElem?_cons_zero, List.getElem?_cons_succ] at cbc1
    rw [← HVV1.out] at cbc0 cbc1
    go_wp2_with fail
    rw [HVV1.out]
    clear HVV1
    clear cbc0 cbc1
    have x2 : ∀ x : Ext V1.heap.size V1, x.val.cell? ⟨(ad.add (q * 4)).block, (ad.add (q * 4)).off + 1, none⟩ = some (.slice Aq lq.length cq) := fun x => (x.ok.cell (p := ⟨(ad.add (q * 4)).block, (ad.add (q * 4)).off + 1, none⟩) (by dsimp only; rw [add_block]; exact hab)).trans c2
    have cb0 := cell_of_row V1 w.heap.size 0 _ _ _ bc
    simp only [List.getElem?_toArray, List.getElem?_cons_zero, List.getElem?_cons_succ] at cb0
    have yb0 := fun x : Ext V1.heap.size V1 => (x.ok.cell (p := ⟨w.heap.size, 0, none⟩) (Array.getElem?_eq_some_iff.1 bc).1).trans cb0
    clear cb0
    have cb1 := cell_of_row V1 w.heap.size 1 _ _ _ bc
    simp only [List.getElem?_toArray, List.getElem?_cons_zero, List.getElem?_cons_succ] at cb1
    have yb1 := fun x : Ext V1.heap.size V1 => (x.ok.cell (p := ⟨w.heap.size, 1, none⟩) (Array.getElem?_eq_some_iff.1 bc).1).trans cb1
    clear cb1
    clear c2
    refine wp_region_ext V1.heap.size (by kernel_rfl) (by kernel_rfl) ?_
    repeat (go_big_quiet_step (first | (go_at_call 27; (with_reducible refine ext_call (Nat.le_refl _) (same4_true _ _ _ _ _ _ lq l _ (hpq.ext _) (hc.ext _) HW.out)))))
    refine wpQuiet_nil ?_
    rintro _ ⟨⟨W, hW⟩, rfl⟩
    have hBB := hbt.trans (hW.mono hbt.size)
    clear x2 yb0 yb1
    go_wp2
    go_ret
    exact ⟨rfl, hBB⟩
end Go.Proofs.Ytmighpfjjaaknaa
