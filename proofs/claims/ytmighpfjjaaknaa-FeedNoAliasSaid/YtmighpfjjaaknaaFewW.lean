/-
  The reference's Few.
-/
import Derived.Test.YtmighpfjjaaknaaMsgsW
namespace Go.Proofs.Ytmighpfjjaaknaa
open Go.RowKit
set_option linter.unusedVariables false
set_option linter.unusedSimpArgs false

/-- What a true Few says. -/
def FewIs (vs : List Ver) (r : Bool) : Prop := r = true → vs.length ≤ 20 ∧ ∀ v ∈ vs, v.week.length ≤ 70

def FewPost (vs : List Ver) (w : World) (e : Ending) (w' : World) : Prop := ∃ r, e = .returned (.bool r) ∧ FewIs vs r ∧ w = w'

set_option maxHeartbeats 1000000 in
theorem few_any (A : Option Addr) (n c : Nat) (vs : List Ver) (w : World) (h : RdV w w.heap.size A n c vs) :
    Calls Try.prog 12 #[.slice A n c] w (FewPost vs w) := by
  have hm := h.max
  have hle := h.le
  have hlen := Lib.hid h.len
  go_enter Try.func12, Try.ntmps12
  go_wp2_with fail
  go_loop [3] (fun i => ∃ k : Nat, k ≤ n ∧ k ≤ 30 ∧ i = .int .i64 k ∧ (∀ (j : Nat) (hj : j < vs.length), j < k → vs[j].week.length ≤ 70)) (fun i => n - (intOf i).toNat)
  case atStart => exact ⟨0, by omega, by omega, rfl, fun _ _ h => absurd h (by omega)⟩
  case round =>
    obtain ⟨k, hk, hk30, rfl, hal⟩ := hrel
    have HAL := Lib.hid hal
    clear hal
    by_cases hkn : k < n
    · have d1 : decide ((k : Int) < (n : Int)) = true := by simp; omega
      by_cases h30 : k < 30
      · have d2 : decide ((k : Int) < 30) = true := by simp; omega
        have hkl : k < vs.length := by rw [hlen.out]; exact hkn
        obtain ⟨ad, A', c', rfl, hab, c1, c2, c3, c4, hp, ok1, ok2⟩ := h.at_ hkn hkl
        have HV : Hid (∃ z, z = vs[k].week.length) := ⟨_, rfl⟩
        obtain ⟨z, hz⟩ := HV.out
        have hpm := hp.max
        have hpl := hp.le
        rw [← hz] at c2 hpl
        have HZ := Lib.hid hz
        clear hz hp
        by_cases hbig : 70 < z
        · have d3 : decide ((70 : Int) < (z : Int)) = true := by simp; omega
          go_wp2
          go_ret
          exact ⟨false, rfl, fun h => (by cases h), rfl⟩
        · have d3 : decide ((70 : Int) < (z : Int)) = false := by simp; omega
          go_wp2
          go_round
          case rel =>
            refine ⟨k + 1, by omega, by omega, by go_num, fun j hj hjk => ?_⟩
            rcases Nat.lt_or_ge j k with h' | h'
            · exact HAL.out j hj h'
            · obtain rfl : j = k := by omega
              rw [← HZ.out]; omega
          case measure => simp [intOf]; omega
      · have d2 : decide ((k : Int) < 30) = false := by simp; omega
        have d3 : decide ((n : Int) ≤ 20) = false := by simp; omega
        go_wp2_with fail
        go_ret
        exact ⟨false, rfl, fun h => (by cases h), rfl⟩
    · obtain rfl : k = n := by omega
      have d1 : decide ((k : Int) < (k : Int)) = false := by simp
      go_wp2_with fail
      go_ret
      refine ⟨_, rfl, fun h => ?_, rfl⟩
      have h2 : (k : Int) ≤ 20 := by simpa using h
      refine ⟨by rw [hlen.out]; omega, fun v hv => ?_⟩
      obtain ⟨j, hj, rfl⟩ := List.getElem_of_mem hv
      exact HAL.out j hj (by rw [hlen.out] at hj; exact hj)
end Go.Proofs.Ytmighpfjjaaknaa
