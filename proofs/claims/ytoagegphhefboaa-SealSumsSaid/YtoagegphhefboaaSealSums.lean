/-
  SealSums: for every byte slice the law returns true and the slice reads as before. No condition.
-/
import Derived.Test.YtoagegphhefboaaLiveW
namespace Go.Proofs.Ytoagegphhefboaa
open Go.RowKit
set_option linter.unusedVariables false

set_option maxHeartbeats 1000000 in
theorem sealSums_walk (A : Option Addr) (n c : Nat) (l : List UInt8) (w : World) (h : RdB w w.heap.size A n c l) :
    Calls Try.prog 3 #[.slice A n c] w fun e w' => e = .returned (.bool true) ∧ Below w.heap.size w w' := by
  have hm := h.max
  have hle := h.le
  go_enter Try.func3, Try.ntmps3
  go_wp2_with fail
  refine (live2_any w).mono ?_
  rintro e w1 ⟨rfl, hb1⟩
  have h1 := (h.below hb1).more hb1.size
  by_cases hbig : 4000 < n
  · have hd : decide ((4000 : Int) < (n : Int)) = true := by simp; omega
    go_wp2_with fail
    go_ret
    exact ⟨rfl, hb1⟩
  · have hd : decide ((4000 : Int) < (n : Int)) = false := by simp; omega
    go_wp2_with fail
    refine (sum_any A n c l w1 h1).mono ?_
    rintro e w2 ⟨rfl, hb2⟩
    have h2 := (h1.below hb2).more hb2.size
    have hB := hb1.trans (hb2.mono hb1.size)
    go_wp2_with fail
    refine (rsum_any A n c l w2 h2).mono ?_
    rintro e w3 ⟨rfl, rfl⟩
    go_wp2_with fail
    go_ret
    exact ⟨rfl, hB⟩
end Go.Proofs.Ytoagegphhefboaa
