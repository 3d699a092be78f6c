/-
  SealScans: for every byte slice the law returns true and the slice reads as before. No condition.
-/
import Derived.Test.YtoagegphhefboaaListW
namespace Go.Proofs.Ytoagegphhefboaa
open Go.RowKit
set_option linter.unusedVariables false

set_option maxHeartbeats 1000000 in
theorem sealScans_walk (A : Option Addr) (n c : Nat) (l : List UInt8) (w : World) (h : RdB w w.heap.size A n c l) :
    Calls Try.prog 8 #[.slice A n c] w fun e w' => e = .returned (.bool true) ∧ Below w.heap.size w w' := by
  have hm := h.max
  have hle := h.le
  have hlen := Lib.hid h.len
  go_enter Try.func8, Try.ntmps8
  go_wp2_with fail
  refine (live2_any w).mono ?_
  rintro e w1 ⟨rfl, hb1⟩
  have h1 := (h.below hb1).more hb1.size
  by_cases hbig : 4000 < n
  · go_wp2_with fail
    go_ret
    exact ⟨rfl, hb1⟩
  · obtain ⟨sc, hsc, hsl⟩ := scan_of l
    rw [hlen.out] at hsl
    go_wp2_with fail
    refine (scan_any A n c l sc w1 h1 (by omega) hsc (by omega)).mono ?_
    intro e w2 hp
    obtain ⟨A2, c2, rfl, hr2, hb2⟩ := hp.read
    clear hp
    have h2 := (h1.below hb2).more hb2.size
    have hB2 := hb1.trans (hb2.mono hb1.size)
    go_wp2_with fail
    refine (rscan_any A n c l sc w2 h2 (by omega) hsc (by omega)).mono ?_
    intro e w3 hp
    obtain ⟨A3, c3, rfl, hr3, hb3⟩ := hp.read
    clear hp
    have hr2' := (hr2.below hb3).more hb3.size
    have hB3 := hB2.trans (hb3.mono hB2.size)
    go_wp2_with fail
    refine (sameAll_any A2 A3 _ _ _ _ _ _ w3 hr2' hr3).mono ?_
    rintro e w4 ⟨rfl, hb4⟩
    have hB4 := hB3.trans (hb4.mono hB3.size)
    have e1 : (sc.map (·.1) == sc.map (·.1)) = true := by simp
    generalize sc.map (·.1) = ls at *
    generalize (sc.getLast?.map (·.2)).getD 0 = q at *
    go_wp2_with fail
    go_ret
    exact ⟨rfl, hB4⟩
end Go.Proofs.Ytoagegphhefboaa
