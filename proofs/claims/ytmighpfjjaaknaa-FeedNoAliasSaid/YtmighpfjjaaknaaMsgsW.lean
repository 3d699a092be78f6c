/-
  The reference's Msgs, Clients, Few, Wish; the law's fewMsg.
-/
import Derived.Test.YtmighpfjjaaknaaReplyW
namespace Go.Proofs.Ytmighpfjjaaknaa
open Go.RowKit
set_option linter.unusedVariables false
set_option linter.unusedSimpArgs false

theorem rwish_any (no : Int) (v : Value) (to : Int) (w : World) :
    Calls Try.prog 19 #[.agg #[.int .i64 no, v], .int .i64 to] w fun e w' => e = .returned (.agg #[.int .i64 3, .int .i64 to, .int .i64 0, .int .i64 no, .slice none 0 0, .slice none 0 0]) ∧ Below w.heap.size w w' := by
  go_enter Try.func19, Try.ntmps19
  have x2 : ((w.alloc (.cells #[.int .i64 no, v] 27)).alloc (.cells #[.int .i64 3, .int .i64 to, .int .i64 0, .int .i64 no, .slice none 0 0, .slice none 0 0] 32)).heap[w.heap.size + 1]? = some (.cells #[.int .i64 3, .int .i64 to, .int .i64 0, .int .i64 no, .slice none 0 0, .slice none 0 0] 32) := by
    have := heap_alloc_new (w.alloc (.cells #[.int .i64 no, v] 27)) (.cells #[.int .i64 3, .int .i64 to, .int .i64 0, .int .i64 no, .slice none 0 0, .slice none 0 0] 32)
    rwa [World.size_alloc] at this
  have hb2 : Below w.heap.size w ((w.alloc (.cells #[.int .i64 no, v] 27)).alloc (.cells #[.int .i64 3, .int .i64 to, .int .i64 0, .int .i64 no, .slice none 0 0, .slice none 0 0] 32)) :=
    ((Below.refl _ w).alloc (Nat.le_refl _) _).alloc (by simp) _
  go_wp2_with fail
  exact bodyPost_ret (results_cell_row rfl _ _ (w.heap.size + 1) 32 _ (0, 0) _ rfl x2 Try.underlying32 rfl infoMsg) rfl ⟨rfl, hb2⟩

theorem clients_any (a b : Int) (A A' : Option Addr) (n c n' c' : Nat) (l r : List Pl) (w : World) (h : RdP w w.heap.size A n c l) (h' : RdP w w.heap.size A' n' c' r) :
    Calls Try.prog 23 #[.agg #[.int .i64 a, .slice A n c], .agg #[.int .i64 b, .slice A' n' c']] w fun e w' => e = .returned (.bool (decide (a = b ∧ l = r))) ∧ Below w.heap.size w w' := by
  have hb2 := ((Below.refl w.heap.size w).alloc (Nat.le_refl _) (.cells #[.int .i64 a, .slice A n c] 27)).alloc (show w.heap.size ≤ (w.alloc (.cells #[.int .i64 a, .slice A n c] 27)).heap.size by simp) (.cells #[.int .i64 b, .slice A' n' c'] 27)
  obtain ⟨res, hres⟩ : ∃ res, res = decide (a = b ∧ l = r) := ⟨_, rfl⟩
  rw [← hres]
  have HR := Lib.hid hres
  clear hres
  go_enter Try.func23, Try.ntmps23
  by_cases he : a = b
  · have d1 : (a == b) = true := by simpa using he
    go_wp2_with fail
    refine (same4_any A A' n c n' c' l r _ (by first | exact (h.below hb2).more hb2.size | (subst he; exact (h.below hb2).more hb2.size)) (by first | exact (h'.below hb2).more hb2.size | (subst he; exact (h'.below hb2).more hb2.size))).mono ?_
    rintro e w3 ⟨rfl, hb3⟩
    have hbw : Below w.heap.size w w3 := by
      first | exact hb2.trans (hb3.mono hb2.size) | (subst he; exact hb2.trans (hb3.mono hb2.size))
    go_wp2_with fail
    go_ret
    refine ⟨ret_bool ?_, hbw⟩
    rw [HR.out]
    simp [he]
  · have d1 : (a == b) = false := by simpa using he
    go_wp2_with fail
    go_ret
    refine ⟨ret_bool ?_, hb2⟩
    rw [HR.out]
    simp [he]

/-- fewMsg -/
theorem fewMsg_any (x0 x1 x2 x3 : Value) (A A' : Option Addr) (n c m c' : Nat) (w : World) (hn : n ≤ 9223372036854775807) (hm : m ≤ 9223372036854775807) :
    Calls Try.prog 20 #[.agg #[x0, x1, x2, x3, .slice A n c, .slice A' m c']] w fun e w' => e = .returned (.bool (decide (n ≤ 70 ∧ m ≤ 70))) ∧ Below w.heap.size w w' := by
  have hb1 := fun o => (Below.refl w.heap.size w).alloc (Nat.le_refl _) o
  obtain ⟨res, hres⟩ : ∃ res, res = decide (n ≤ 70 ∧ m ≤ 70) := ⟨_, rfl⟩
  rw [← hres]
  have HR := Lib.hid hres
  clear hres
  go_enter Try.func20, Try.ntmps20
  by_cases h1 : n ≤ 70
  · have d1 : decide ((n : Int) ≤ 70) = true := by simp; omega
    go_wp2_with fail
    go_ret
    refine ⟨ret_bool ?_, hb1 _⟩
    rw [HR.out, Bool.eq_iff_iff]
    simp
    omega
  · have d1 : decide ((n : Int) ≤ 70) = false := by simp; omega
    go_wp2_with fail
    go_ret
    refine ⟨ret_bool ?_, hb1 _⟩
    rw [HR.out, Bool.eq_iff_iff]
    simp
    omega

set_option maxHeartbeats 2000000 in
theorem msgs_any (a0 a1 a2 a3 b0 b1 b2 b3 : Int) (A A' P P' : Option Addr) (n c n' c' m d m' d' : Nat) (l r : List Pl) (x y : List Mv) (w : World) (h : RdP w w.heap.size A n c l) (h' : RdP w w.heap.size A' n' c' r) (g : RdM w w.heap.size P m d x) (g' : RdM w w.heap.size P' m' d' y) :
    Calls Try.prog 15 #[.agg #[.int .i64 a0, .int .i64 a1, .int .i64 a2, .int .i64 a3, .slice A n c, .slice P m d], .agg #[.int .i64 b0, .int .i64 b1, .int .i64 b2, .int .i64 b3, .slice A' n' c', .slice P' m' d']] w fun e w' =>
      e = .returned (.bool (decide (a0 = b0 ∧ a1 = b1 ∧ a2 = b2 ∧ a3 = b3 ∧ l = r ∧ x = y))) ∧ Below w.heap.size w w' := by
  obtain ⟨W2, hW2⟩ : ∃ W2, W2 = (w.alloc (.cells #[.int .i64 a0, .int .i64 a1, .int .i64 a2, .int .i64 a3, .slice A n c, .slice P m d] 32)).alloc (.cells #[.int .i64 b0, .int .i64 b1, .int .i64 b2, .int .i64 b3, .slice A' n' c', .slice P' m' d'] 32) := ⟨_, rfl⟩
  have hb2 : Below w.heap.size w W2 := by rw [hW2]; exact ((Below.refl w.heap.size w).alloc (Nat.le_refl _) _).alloc (by simp) _
  have u1 : W2.heap[w.heap.size]? = some (.cells #[.int .i64 a0, .int .i64 a1, .int .i64 a2, .int .i64 a3, .slice A n c, .slice P m d] 32) := by rw [hW2]; exact (Below.heap_alloc _ _ _ (by simp)).trans (heap_alloc_new _ _)
  have u2 : W2.heap[w.heap.size + 1]? = some (.cells #[.int .i64 b0, .int .i64 b1, .int .i64 b2, .int .i64 b3, .slice A' n' c', .slice P' m' d'] 32) := by
    rw [hW2]; have := heap_alloc_new (w.alloc (.cells #[.int .i64 a0, .int .i64 a1, .int .i64 a2, .int .i64 a3, .slice A n c, .slice P m d] 32)) (.cells #[.int .i64 b0, .int .i64 b1, .int .i64 b2, .int .i64 b3, .slice A' n' c', .slice P' m' d'] 32); rwa [World.size_alloc] at this
  obtain ⟨res, hres⟩ : ∃ res, res = decide (a0 = b0 ∧ a1 = b1 ∧ a2 = b2 ∧ a3 = b3 ∧ l = r ∧ x = y) := ⟨_, rfl⟩
  rw [← hres]
  have HR := Lib.hid hres
  clear hres
  by_cases hall : a0 = b0 ∧ a1 = b1 ∧ a2 = b2 ∧ a3 = b3
  · obtain ⟨rfl, rfl, rfl, rfl⟩ := hall
    have t0 : (a0 == a0) = true := by simp
    go_enter Try.func15, Try.ntmps15
    go_wp2_with fail
    rw [← hW2]
    clear hW2
    refine (same4_any A A' n c n' c' l r W2 ((h.below hb2).more hb2.size) ((h'.below hb2).more hb2.size)).mono ?_
    rintro e w3 ⟨rfl, hb3⟩
    have hbw : Below w.heap.size w w3 := hb2.trans (hb3.mono hb2.size)
    have k1 : w3.cell? ⟨w.heap.size, 5, none⟩ = some (.slice P m d) := cell_of_row w3 _ 5 _ _ _ ((hb3.block _ (Array.getElem?_eq_some_iff.1 u1).1).trans u1)
    have k2 : w3.cell? ⟨w.heap.size + 1, 5, none⟩ = some (.slice P' m' d') := cell_of_row w3 _ 5 _ _ _ ((hb3.block _ (Array.getElem?_eq_some_iff.1 u2).1).trans u2)
    by_cases hl : l = r
    · have dl : decide (l = r) = true := decide_eq_true hl
      rw [dl]
      go_wp2_with fail
      refine (moves_any P P' m d m' d' x y w3 ((g.below hbw).more hbw.size) ((g'.below hbw).more hbw.size)).mono ?_
      rintro e w4 ⟨rfl, q, rfl⟩
      go_wp2_with fail
      go_ret
      refine ⟨ret_bool ?_, below_drewN' hbw _⟩
      rw [HR.out]
      simp [hl]
    · have dl : decide (l = r) = false := decide_eq_false hl
      rw [dl]
      go_wp2_with fail
      go_ret
      refine ⟨ret_bool ?_, hbw⟩
      rw [HR.out]
      simp [hl]
  · have hf : res = false := by rw [HR.out]; exact decide_eq_false (fun h => hall ⟨h.1, h.2.1, h.2.2.1, h.2.2.2.1⟩)
    subst hf
    rw [hW2] at hb2
    clear HR u1 u2 hW2
    by_cases e0 : a0 = b0
    · by_cases e1 : a1 = b1
      · by_cases e2 : a2 = b2
        · have e3 : ¬ a3 = b3 := fun e3 => hall ⟨e0, e1, e2, e3⟩
          have d3 : (a3 == b3) = false := by simpa using e3
          clear hall
          subst e0 e1 e2
          go_enter Try.func15, Try.ntmps15
          go_wp2_with fail
          go_ret
          exact ⟨rfl, hb2⟩
        · have d2 : (a2 == b2) = false := by simpa using e2
          clear hall
          subst e0 e1
          go_enter Try.func15, Try.ntmps15
          go_wp2_with fail
          go_ret
          exact ⟨rfl, hb2⟩
      · have d1 : (a1 == b1) = false := by simpa using e1
        clear hall
        subst e0
        go_enter Try.func15, Try.ntmps15
        go_wp2_with fail
        go_ret
        exact ⟨rfl, hb2⟩
    · have d0 : (a0 == b0) = false := by simpa using e0
      clear hall
      go_enter Try.func15, Try.ntmps15
      go_wp2_with fail
      go_ret
      exact ⟨rfl, hb2⟩
end Go.Proofs.Ytmighpfjjaaknaa
