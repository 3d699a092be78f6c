/-
  The walk of the laws' ahead.
-/
import Derived.Test.YtcnldbhkppfmmaaDoorEnP
namespace Go.Proofs.YtcnldbhkppfmmaaDoor
open Go.RowKit Go.Shelf
set_option linter.unusedVariables false
set_option linter.unusedSimpArgs false

set_option maxRecDepth 100000 in
set_option maxHeartbeats 3000000 in
theorem ahead4_any (A B : Option Addr) (n c n' c' : Nat) (l r : List Pl) (w : World) (hl : RdP w w.heap.size A n c l) (hr : RdP w w.heap.size B n' c' r) :
    Calls Tryd.prog 28 #[.agg #[.slice A n c], .agg #[.slice B n' c']] w fun e w' => e = .returned (.bool (Wk.lexB l r)) ∧ Below w.heap.size w w' := by
  have hbt := Below.refl w.heap.size w
  have hl1 := hl.max
  have hl2 := hl.le
  have hlL := Lib.hid hl.len
  have hr1 := hr.max
  have hr2 := hr.le
  have hrL := Lib.hid hr.len
  obtain ⟨V1, hV⟩ : ∃ V1, V1 = w.alloc (.cells #[.slice A n c] 24) := ⟨_, rfl⟩
  have b1 := blk_new hV
  have hb := below_new hV
  replace hl := (hl.below hb).more hb.size
  replace hr := (hr.below hb).more hb.size
  replace hbt := hbt.trans (hb.mono hbt.size)
  clear hb
  have HSV1 : Hid (V1.heap.size = w.heap.size + 1) := by show V1.heap.size = _; rw [hV, World.size_alloc]
  have HVV1 := Lib.hid hV.symm
  clear hV
  obtain ⟨V2, hV⟩ : ∃ V2, V2 = V1.alloc (.cells #[.slice B n' c'] 24) := ⟨_, rfl⟩
  have b2 := blk_new hV
  have hb := below_new hV
  replace hl := (hl.below hb).more hb.size
  replace hr := (hr.below hb).more hb.size
  replace b1 := blk_below b1 hb
  replace hbt := hbt.trans (hb.mono hbt.size)
  clear hb
  have HSV2 : Hid (V2.heap.size = V1.heap.size + 1) := by show V2.heap.size = _; rw [hV, World.size_alloc]
  have HVV2 := Lib.hid hV.symm
  clear hV
  rw [HSV1.out] at b2
  rw [← HVV1.out] at HVV2
  clear HSV1 HSV2
  obtain ⟨Z, hZ⟩ : ∃ Z, Z = Wk.lexB l r := ⟨_, rfl⟩
  rw [← hZ]
  have HZ := Lib.hid hZ
  clear hZ
  go_enter Tryd.func28, Tryd.ntmps28
  go_wp2_with fail
  rw [HVV2.out]
  clear HVV1 HVV2
  go_loopw [5] (fun iv wr => ∃ (i nq : Nat), i ≤ n ∧ i ≤ n' ∧ iv = .int .i64 i ∧ Z = Wk.lexB (l.drop i) (r.drop i) ∧ wr = V2.drewN nq) (fun iv _ => n - (intOf iv).toNat)
  case atStart => exact ⟨0, 0, by omega, by omega, rfl, by rw [HZ.out]; rfl, rfl⟩
  case round =>
    obtain ⟨i, nq0, hi, hi', rfl, hz, rfl⟩ := hrel
    have HZ2 := Lib.hid hz
    clear hz
    have hb : Below V2.heap.size V2 (V2.drewN nq0) := below_drewN' (Below.refl _ _) _
    replace hl := (hl.below hb).more hb.size
    replace hr := (hr.below hb).more hb.size
    replace b1 := blk_below b1 hb
    replace b2 := blk_below b2 hb
    replace hbt := hbt.trans (hb.mono hbt.size)
    clear hb
    generalize hwr : V2.drewN nq0 = wr at *
    have HWR := Lib.hid hwr.symm
    clear hwr
    have c0 := blk_cell (j := 0) b1
    simp only [List.getElem?_toArray, List.getElem?_cons_zero, List.getElem?_cons_succ] at c0
    have d0 := blk_cell (j := 0) b2
    simp only [List.getElem?_toArray, List.getElem?_cons_zero, List.getElem?_cons_succ] at d0
    by_cases hin : i < n
    · have t1 : decide ((i : Int) < (n : Int)) = true := by simp; omega
      have u1 : decide (i < n) = true := by simp; omega
      by_cases hin' : i < n'
      · have t2 : decide ((i : Int) < (n' : Int)) = true := by simp; omega
        have u2 : decide (i < n') = true := by simp; omega
        have hil : i < l.length := by rw [hlL.out]; exact hin
        have hir : i < r.length := by rw [hrL.out]; exact hin'
        obtain ⟨ad, hA, _, x0, x1, _⟩ := hl.at_ hin hil
        obtain ⟨ad', hB, _, y0, y1, _⟩ := hr.at_ hin' hir
        rw [hA] at c0
        rw [hB] at d0
        clear hA hB
        have HC : Hid (Z = if l[i].1 ≠ r[i].1 then decide (l[i].1 < r[i].1) else if l[i].2 ≠ r[i].2 then decide (l[i].2 < r[i].2) else Wk.lexB (l.drop (i + 1)) (r.drop (i + 1))) := by
          show _ = _
          rw [HZ2.out, List.drop_eq_getElem_cons hil, List.drop_eq_getElem_cons hir, Wk.lexB]
        generalize l[i] = P at *
        generalize r[i] = Q at *
        obtain ⟨p1, p2⟩ := P
        obtain ⟨q1, q2⟩ := Q
        dsimp only at *
        by_cases hp : p1 ≠ q1
        · have t3 : (p1 != q1) = true := by simp; exact hp
          have HD : Hid (Z = decide (p1 < q1)) := by show _ = _; rw [HC.out, if_pos hp]
          go_wp2_with fail
          go_quiet (fail)
          go_wp2_with fail
          go_quiet (fail)
          go_wp2_with fail
          go_ret
          exact ⟨ret_bool HD.out.symm, (below_drewN' (below_drewN' hbt _) _)⟩
        · have hp : p1 = q1 := Classical.not_not.1 hp
          subst hp
          have t3 : (p1 != p1) = false := by simp
          by_cases hp2 : p2 ≠ q2
          · have t4 : (p2 != q2) = true := by simp; exact hp2
            have HD : Hid (Z = decide (p2 < q2)) := by show _ = _; rw [HC.out, if_neg (by simp), if_pos hp2]
            go_wp2_with fail
            go_quiet (fail)
            go_wp2_with fail
            go_quiet (fail)
            go_wp2_with fail
            go_quiet (fail)
            go_wp2_with fail
            go_ret
            exact ⟨ret_bool HD.out.symm, (below_drewN' (below_drewN' (below_drewN' hbt _) _) _)⟩
          · have hp2 : p2 = q2 := Classical.not_not.1 hp2
            subst hp2
            have t4 : (p2 != p2) = false := by simp
            have HD : Hid (Z = Wk.lexB (l.drop (i + 1)) (r.drop (i + 1))) := by show _ = _; rw [HC.out, if_neg (by simp), if_neg (by simp)]
            go_wp2_with fail
            go_quiet (fail)
            have hq1 := nq
            go_wp2_with fail
            go_quiet (fail)
            go_wp2_with fail
            go_roundw
            case rel => exact ⟨i + 1, _, by omega, by omega, by go_num, HD.out, by rw [HWR.out, World.drewN_drewN]⟩
            case measure => simp [intOf]; omega
      · have t2 : decide ((i : Int) < (n' : Int)) = false := by simp; omega
        have HD : Hid (Z = false) := by show _ = _; rw [HZ2.out, List.drop_of_length_le (l := r) (by rw [hrL.out]; omega), Wk.lexB_nil']
        go_wp2_with fail
        go_ret
        exact ⟨ret_bool HD.out.symm, hbt⟩
    · have t1 : decide ((i : Int) < (n : Int)) = false := by simp; omega
      have HD : Hid (Z = false) := by show _ = _; rw [HZ2.out, List.drop_of_length_le (l := l) (by rw [hlL.out]; omega)]; rfl
      go_wp2_with fail
      go_ret
      exact ⟨ret_bool HD.out.symm, hbt⟩

end Go.Proofs.YtcnldbhkppfmmaaDoor
