/-
  The walk of the reference's places.
-/
import Derived.Test.YtojbjaklngdlcaaGreatDoorRefP
import Derived.Test.YtojbjaklngdlcaaGreatDoorSchR
import Derived.Test.YtojbjaklngdlcaaGreatDoorNamedW
import Derived.BigQuiet
namespace Go.Proofs.YtojbjaklngdlcaaGreatDoor
open Go.RowKit Go.Shelf
set_option linter.unusedVariables false
set_option linter.unusedSimpArgs false


set_option maxRecDepth 100000 in
set_option maxHeartbeats 4000000 in
theorem rPlaces_any (A : Option Addr) (n c : Nat) (l : List Int) (k : Nat) (w : World) (h : RdI w w.heap.size A n c l) :
    Calls Tryz.prog 84 #[.slice A n c, .int .i64 (k : Int)] w (Tells (Sc.incr l k) w) := by
  have h1 := h.max
  have h2 := h.le
  have hl := Lib.hid h.len
  have hbt := Below.refl w.heap.size w
  have h0 := h
  clear h
  go_enter Tryz.func84, Tryz.ntmps84
  go_wp2_with fail
  go_loopw [5] (fun iv wr => ∃ j : Nat, j ≤ n ∧ iv = .int .i64 j ∧ Sc.incr (l.take j) k ∧ Below w.heap.size w wr) (fun iv _ => n - (intOf iv).toNat)
  case atStart => exact ⟨0, by omega, rfl, by simpa using Sc.incr_nil k, hbt⟩
  case round =>
    clear hbt
    obtain ⟨j, hj, rfl, hinc, hbt⟩ := hrel
    by_cases hjn : j < n
    · have hjl : j < l.length := by rw [hl.out]; exact hjn
      obtain ⟨ad, rfl, _, x0, ok1, ok2⟩ := (h0.below hbt).at_ hjn hjl
      have d1 : decide ((j : Int) < (n : Int)) = true := by simp; omega
      have d1' : decide (j < n) = true := by simp; omega
      have HS := Lib.hid (Sc.incr_stop (n := k) hjl)
      have HG := Lib.hid (Sc.incr_go hjl hinc)
      have HNg : Hid (¬ 0 ≤ l[j] → ¬ Sc.incr l k) := fun hn hh => hn (hh.2 _ (List.getElem_mem hjl)).1
      by_cases hz : j = 0
      · have HZ := Lib.hid hz
        clear hz
        have e1 : decide ((0 : Int) < (j : Int)) = false := by rw [HZ.out]; simp
        have e1' : decide (0 < j) = false := by rw [HZ.out]; simp
        have HLa : Hid ((l.take j).getLast?.getD (-1) = -1) := by show _ = _; rw [HZ.out]; rfl
        rw [HLa.out] at HS HG
        clear HLa hinc
        generalize l[j] = x at *
        by_cases h1' : 0 ≤ x
        · have e2 : decide (x < 0) = false := by simp; omega
          by_cases h2' : x < k
          · have e3 : decide ((k : Int) ≤ x) = false := by simp; omega
            go_wp2_with fail
            go_quiet (fail)
            replace hbt := below_drewN' hbt nq
            go_wp2_with fail
            go_roundw
            case rel => exact ⟨j + 1, by omega, by go_num, HG.out (by omega), hbt⟩
            case measure => simp [intOf]; omega
          · have e3 : decide ((k : Int) ≤ x) = true := by simp; omega
            go_wp2_with fail
            go_quiet (fail)
            replace hbt := below_drewN' hbt nq
            go_wp2_with fail
            go_ret
            exact ⟨_, rfl, ⟨(fun hh => by cases hh), fun hh => absurd hh (HS.out (by omega))⟩, hbt⟩
        · have e2 : decide (x < 0) = true := by simp; omega
          go_wp2_with fail
          go_quiet (fail)
          replace hbt := below_drewN' hbt nq
          go_wp2_with fail
          go_ret
          exact ⟨_, rfl, ⟨(fun hh => by cases hh), fun hh => absurd hh (HS.out (by omega))⟩, hbt⟩
      · obtain ⟨_, e0, _, y0, ok3, ok4⟩ := (h0.below hbt).at_ (k := j - 1) (by omega) (by omega)
        cases e0
        have e1 : decide ((0 : Int) < (j : Int)) = true := by simp; omega
        have e1' : decide (0 < j) = true := by simp; omega
        rw [Sc.last_at (by omega) (by omega)] at HS HG
        clear hinc
        generalize l[j] = x at *
        generalize l[j - 1]'(by omega) = y at *
        by_cases h1' : 0 ≤ x
        · have e2 : decide (x < 0) = false := by simp; omega
          by_cases h2' : x < k
          · have e3 : decide ((k : Int) ≤ x) = false := by simp; omega
            by_cases h3 : y < x
            · have e4 : decide (x ≤ y) = false := by simp; omega
              go_wp2_with fail
              go_quiet (fail)
              replace hbt := below_drewN' hbt nq
              go_wp2_with fail
              go_roundw
              case rel => exact ⟨j + 1, by omega, by go_num, HG.out (by omega), hbt⟩
              case measure => simp [intOf]; omega
            · have e4 : decide (x ≤ y) = true := by simp; omega
              go_wp2_with fail
              go_quiet (fail)
              replace hbt := below_drewN' hbt nq
              go_wp2_with fail
              go_ret
              exact ⟨_, rfl, ⟨(fun hh => by cases hh), fun hh => absurd hh (HS.out (by omega))⟩, hbt⟩
          · have e3 : decide ((k : Int) ≤ x) = true := by simp; omega
            go_wp2_with fail
            go_quiet (fail)
            replace hbt := below_drewN' hbt nq
            go_wp2_with fail
            go_ret
            exact ⟨_, rfl, ⟨(fun hh => by cases hh), fun hh => absurd hh (HS.out (by omega))⟩, hbt⟩
        · have e2 : decide (x < 0) = true := by simp; omega
          go_wp2_with fail
          go_quiet (fail)
          replace hbt := below_drewN' hbt nq
          go_wp2_with fail
          go_ret
          exact ⟨_, rfl, ⟨(fun hh => by cases hh), fun hh => absurd hh (HNg.out (by omega))⟩, hbt⟩
    · obtain rfl : j = n := by omega
      have d1 : decide ((j : Int) < (j : Int)) = false := by simp
      have d1' : decide (j < j) = false := by simp
      have HE : Hid (Sc.incr l k) := by rw [List.take_of_length_le (by rw [hl.out]; omega)] at hinc; exact hinc
      clear hinc
      go_wp2_with fail
      go_ret
      exact ⟨_, rfl, ⟨fun _ => HE.out, fun _ => rfl⟩, hbt⟩

end Go.Proofs.YtojbjaklngdlcaaGreatDoor
