/-
  SealJoins: for every two byte slices the law returns true and the slices read as before. No condition.
-/
import Derived.Test.YtoagegphhefboaaBackP
namespace Go.Proofs.Ytoagegphhefboaa
open Go.RowKit
set_option linter.unusedVariables false

theorem noFrame_of_open {l : List UInt8} {p : Nat} (h : (openI l p).err ≠ 0) : NoFrame (l.drop p) := by
  intro x s hx he
  rw [open_of_frame l p x s he hx] at h
  exact h rfl

/-- What a scan found is a row of frames, and behind them none opens. -/
theorem scan_is_frames (l : List UInt8) : ∀ (sc : List (List UInt8 × Nat)) (p : Nat), p ≤ l.length → ScanOK l p sc →
    sc = scFrom p (sc.map (·.1)) ∧ (∀ x ∈ sc.map (·.1), x.length ≤ 65536) ∧ ∃ t, l.drop p = framesB (sc.map (·.1)) ++ t ∧ NoFrame t
  | [], p, hp, h => ⟨rfl, by simp, l.drop p, by simp [framesB], noFrame_of_open h⟩
  | (b, q) :: r, p, hp, h => by
    obtain ⟨h1, h2⟩ : openI l p = ⟨0, b, q⟩ ∧ ScanOK l q r := h
    obtain ⟨f1, f2, f3, f4, f5⟩ := frame_of_open l p b q h1
    obtain ⟨i1, i2, t, i3, i4⟩ := scan_is_frames l r q f4 h2
    refine ⟨?_, ?_, t, ?_, i4⟩
    · simp only [List.map_cons, scFrom]
      rw [← f2, ← i1]
    · intro x hx
      simp only [List.map_cons, List.mem_cons] at hx
      rcases hx with rfl | hx
      · exact f1
      · exact i2 x hx
    · simp only [List.map_cons]
      rw [framesB_cons, List.append_assoc, ← i3]
      exact f5

theorem rdBB_cells {w : World} {B : Nat} {A : Option Addr} {n c : Nat} {ls : List (List UInt8)} (h : RdBB w B A n c ls) :
    ∃ vs, Rd w B A n c vs ∧ (∀ u ∈ vs, u.oneCell' = true) ∧ ∀ (i : Nat) (l : List UInt8), ls[i]? = some l → ∃ A' c', vs[i]? = some (.slice A' l.length c') ∧ RdB w B A' l.length c' l := by
  obtain ⟨hl, vs, h1, h2⟩ := h
  refine ⟨vs, h1, fun u hu => ?_, h2⟩
  obtain ⟨i, hi, rfl⟩ := List.mem_iff_getElem.1 hu
  have hil : i < ls.length := by have := h1.1; omega
  obtain ⟨A', c', hv, _⟩ := h2 i ls[i] (List.getElem?_eq_getElem hil)
  rw [List.getElem?_eq_getElem hi] at hv
  injection hv with hv
  rw [hv]
  rfl

set_option maxHeartbeats 2000000 in
theorem sealJoins_walk (A A' : Option Addr) (n c n' c' : Nat) (la lb : List UInt8) (w : World) (h : RdB w w.heap.size A n c la) (h' : RdB w w.heap.size A' n' c' lb) :
    Calls Try.prog 11 #[.slice A n c, .slice A' n' c'] w fun e w' => e = .returned (.bool true) ∧ Below w.heap.size w w' := by
  have hm := h.max
  have hle := h.le
  have hm' := h'.max
  have hle' := h'.le
  have hlen := Lib.hid h.len
  have hlen' := Lib.hid h'.len
  go_enter Try.func11, Try.ntmps11
  go_wp2_with fail
  refine (live2_any w).mono ?_
  rintro e w1 ⟨rfl, hb1⟩
  have h1 := (h.below hb1).more hb1.size
  have h1' := (h'.below hb1).more hb1.size
  by_cases hout : 2000 < n ∨ 2000 < n'
  · have hgo : decide ((2000 : Int) < (n : Int)) = true ∨ (decide ((2000 : Int) < (n : Int)) = false ∧ decide ((2000 : Int) < (n' : Int)) = true) := by
      by_cases x : 2000 < n
      · left; simp; omega
      · right; simp; omega
    rcases hgo with d1 | ⟨d1, d2⟩
    all_goals
      go_wp2_with fail
      go_ret
      exact ⟨rfl, hb1⟩
  · have d1 : decide ((2000 : Int) < (n : Int)) = false := by simp; omega
    have d2 : decide ((2000 : Int) < (n' : Int)) = false := by simp; omega
    obtain ⟨sc, hsc, hsl⟩ := scan_of la
    obtain ⟨sc', hsc', hsl'⟩ := scan_of lb
    obtain ⟨i1, i2, t, i3, i4⟩ := scan_is_frames la sc 0 (by omega) hsc
    obtain ⟨j1, j2, t', j3, j4⟩ := scan_is_frames lb sc' 0 (by omega) hsc'
    rw [List.drop_zero] at i3 j3
    have q1 : ((sc.getLast?.map (·.2)).getD 0) = (framesB (sc.map (·.1))).length := by rw [i1, scFrom_last0, scFrom_fst]
    have q2 : ((sc'.getLast?.map (·.2)).getD 0) = (framesB (sc'.map (·.1))).length := by rw [j1, scFrom_last0, scFrom_fst]
    have z1 : sc.length = (sc.map (·.1)).length := by simp
    have z2 : sc'.length = (sc'.map (·.1)).length := by simp
    have Q1 := Lib.hid q1
    have Q2 := Lib.hid q2
    have Z1 := Lib.hid z1
    have Z2 := Lib.hid z2
    have I3 := Lib.hid i3
    have J3 := Lib.hid j3
    rw [hlen.out, z1] at hsl
    rw [hlen'.out, z2] at hsl'
    clear q1 q2 z1 z2 i3 j3 i1 j1
    go_wp2_with fail
    refine (scan_any A n c la sc w1 h1 (by omega) hsc (by rw [Z1.out]; omega)).mono ?_
    intro e w2 hp
    obtain ⟨A2, c2, rfl, r2, hb2⟩ := hp.read
    clear hp
    rw [Q1.out, Z1.out]
    rw [Z1.out] at r2
    have h2 := (h1.below hb2).more hb2.size
    have h2' := (h1'.below hb2).more hb2.size
    have hB2 := hb1.trans (hb2.mono hb1.size)
    generalize sc.map (·.1) = ls at *
    generalize hms : sc'.map (·.1) = ms at *
    have HMS := Lib.hid hms
    clear hms
    have hfl : (framesB ls).length ≤ n := by rw [← hlen.out, I3.out, List.length_append]; omega
    have hfm : (framesB ms).length ≤ n' := by rw [← hlen'.out, J3.out, List.length_append]; omega
    by_cases heq : (framesB ls).length = n
    · have ht : t = [] := by
        have e1 := congrArg List.length I3.out
        rw [hlen.out, List.length_append, heq] at e1
        exact List.eq_nil_of_length_eq_zero (by omega)
      subst ht
      have hjoin : ScanOK (la ++ lb) 0 (scFrom 0 (ls ++ ms)) := by
        refine scan_frames _ ?_ _ 0 t' ?_ j4
        · intro x hx
          rcases List.mem_append.1 hx with hx | hx
          · exact i2 x hx
          · exact j2 x hx
        · rw [List.drop_zero, framesB_append, J3.out, I3.out]
          simp [List.append_assoc]
      have y1 := Lib.hid (scFrom_fst 0 (ls ++ ms))
      have y2 : Hid (((scFrom 0 (ls ++ ms)).getLast?.map (·.2)).getD 0 = n + (framesB ms).length) := by
        show _ = _
        rw [scFrom_last0, framesB_append, List.length_append, heq]
      have y3 := Lib.hid (scFrom_length 0 (ls ++ ms))
      have HE := Lib.hid heq
      rw [heq]
      clear heq hfl
      have d3 : (((n : Nat) : Int) != (n : Int)) = false := by simp
      go_wp2_with fail
      refine (scan_any A' n' c' lb sc' w2 h2' (by omega) hsc' (by rw [Z2.out]; omega)).mono ?_
      intro e w3 hp
      obtain ⟨A3, c3, rfl, r3, hb3⟩ := hp.read
      clear hp
      rw [Q2.out, Z2.out]
      rw [Z2.out, HMS.out] at r3
      have h3 := (h2.below hb3).more hb3.size
      have h3' := (h2'.below hb3).more hb3.size
      have r2' := (r2.below hb3).more hb3.size
      have hB3 := hB2.trans (hb3.mono hB2.size)
      clear r2 h2 h2'
      go_wp2_with fail
      refine (rcopy_any A n c la w3 h3 (by omega)).mono ?_
      rintro e w4 ⟨v4, rfl, o4, hb4⟩
      have h4' := (h3'.below hb4).more hb4.size
      have r2 := (r2'.below hb4).more hb4.size
      have r3' := (r3.below hb4).more hb4.size
      have hB4 := hB3.trans (hb4.mono hB3.size)
      have hs34 := hb4.size
      go_wp2_with (at_builtin; refine wpList_app (.tmp 45) (.tmp 46) elB o4 h4' (bv_one _) (by omega) (by omega) hb4.size rfl rfl rfl rfl ?_; intro v5 w5 o5 g5 t5)
      have hb5 : Below w3.heap.size w3 w5 := hb4.grown g5 hb4.size (own_lt o4)
      have r2'' := (r2'.below hb5).more hb5.size
      have r3'' := (r3.below hb5).more hb5.size
      have hB5 := hB3.trans (hb5.mono hB3.size)
      rw [← bv_append] at o5
      obtain ⟨A5, c5, rfl, r5⟩ := own_rdB o5
      clear o5 g5 t5 o4 r2 r3' r2' r3
      refine (scan_any A5 _ c5 _ _ w5 r5 (by omega) hjoin (by rw [y3.out, List.length_append]; omega)).mono ?_
      intro e w6 hp
      obtain ⟨A6, c6, rfl, r6, hb6⟩ := hp.read
      clear hp
      rw [y1.out, y3.out] at r6
      rw [y2.out, y3.out]
      have r2 := (r2''.below hb6).more hb6.size
      have r3 := (r3''.below hb6).more hb6.size
      have hB6 := hB5.trans (hb6.mono hB5.size)
      clear r2'' r3'' r5
      obtain ⟨vs2, x1, x2, x3⟩ := rdBB_cells r2
      obtain ⟨vs3, x4, x5, x6⟩ := rdBB_cells r3
      have o6 : w6.ownsRow w6.heap.size 22 1 (.slice none 0 0) 0 [] := World.ownsRow_nil _ _ _ _
      go_wp2_with (first
        | (at_builtin; refine wpList_app (.const (.slice none 0 0)) (.tmp 52) elBs o6 x1 x2 (by omega) (by omega) (Nat.le_refl _) rfl rfl rfl rfl ?_; intro v7 w7 o7 g7 t7)
        | (at_builtin; refine wpList_app (.tmp 53) (.tmp 54) elBs o7 (x4.grown g7 (Nat.le_refl _) (fun g hg => by cases hg)) x5 (by omega) (by omega) g7.size rfl rfl rfl rfl ?_; intro v8 w8 o8 g8 t8))
      have hb8 : Below w6.heap.size w6 w8 := (below_of_grown g7 (Nat.le_refl _) (fun g hg => by cases hg)).grown g8 g7.size (own_lt o7)
      obtain ⟨A8, c8, rfl, r8⟩ := own_rd o8
      have r6' := (r6.below hb8).more hb8.size
      have hB8 := hB6.trans (hb8.mono hB6.size)
      have hbb : RdBB w8 w8.heap.size A8 (0 + ls.length + ms.length) c8 (ls ++ ms) := by
        refine ⟨by rw [List.length_append]; omega, _, r8, fun i l hi => ?_⟩
        have hv2 : vs2.length = ls.length := x1.1
        rw [List.nil_append]
        by_cases hil : i < ls.length
        · rw [List.getElem?_append_left hil] at hi
          obtain ⟨B1, k1, e1, e2⟩ := x3 i l hi
          exact ⟨B1, k1, by rw [List.getElem?_append_left (by omega)]; exact e1, (e2.below hb8).more hb8.size⟩
        · rw [List.getElem?_append_right (by omega)] at hi
          obtain ⟨B1, k1, e1, e2⟩ := x6 _ l hi
          exact ⟨B1, k1, by rw [List.getElem?_append_right (by omega), hv2]; exact e1, (e2.below hb8).more hb8.size⟩
      clear o8 g8 t8 o7 g7 t7 r8 x3 x6
      rw [List.length_append] at r6'
      refine (sameAll_any A6 A8 _ _ _ _ _ _ w8 r6' hbb).mono ?_
      rintro e w9 ⟨rfl, hb9⟩
      have t9 : ((ls ++ ms) == (ls ++ ms)) = true := by simp
      have hB9 := hB8.trans (hb9.mono hB8.size)
      generalize ls ++ ms = lm at *
      generalize (framesB ms).length = fm at *
      go_wp2_with fail
      go_ret
      exact ⟨ret_bool (by simp), hB9⟩
    · have d3 : ((((framesB ls).length : Nat) : Int) != (n : Int)) = true := by rw [bne_iff_ne]; omega
      have d4 : decide ((0 : Int) ≤ (((framesB ls).length : Nat) : Int)) = true := by simp
      have d5 : decide ((((framesB ls).length : Nat) : Int) < (n : Int)) = true := by simp; omega
      generalize (framesB ls).length = fl at *
      go_wp2_with fail
      go_ret
      exact ⟨ret_bool (by simp; omega), hB2⟩
end Go.Proofs.Ytoagegphhefboaa
