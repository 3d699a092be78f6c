/-
  OctetInts, walked.
-/
import Derived.Test.YtgklnkholflabaaArgs
import Derived.Deep.RegionHeld3
namespace Go.Proofs.Ytgklnkholflabaa
open Go.RowKit
set_option linter.unusedVariables false
set_option linter.unusedSimpArgs false

set_option maxRecDepth 100000 in
set_option maxHeartbeats 4000000 in
theorem octetInts_any (A : Option Addr) (n c : Nat) (l : List UInt8) (z at_ : Int) (w : World) (h : RdB w w.heap.size A n c l) (hz : -9223372036854775808 ≤ z ∧ z ≤ 9223372036854775807) (ha : -9223372036854775808 ≤ at_ ∧ at_ ≤ 9223372036854775807) :
    Calls Try.prog 3 #[.slice A n c, .int .i64 z, .int .i64 at_] w fun e w' => e = .returned (.bool true) ∧ Below w.heap.size w w' := by
  have h1 := h.max
  have h2 := h.le
  have hbt := Below.refl w.heap.size w
  go_enter Try.func3, Try.ntmps3
  go_wp2_with fail
  refine (live_any w).mono ?_
  rintro e w1 ⟨rfl, hb⟩
  replace h := (h.below hb).more hb.size
  replace hbt := hbt.trans (hb.mono hbt.size)
  clear hb
  go_wp2_with fail
  refine (few_any A n c w1 (by omega)).mono ?_
  rintro e w' ⟨rfl, rfl⟩
  by_cases hfew : n ≤ 3000
  · rw [decide_eq_true hfew]
    go_wp2_with fail
    refine (getInt_any A n c l at_ w1 h ha).mono ?_
    rintro e w' ⟨rfl, rfl⟩
    go_wp2_with fail
    refine (rgetInt_any A n c l at_ w1 h ha (by omega)).mono ?_
    rintro e w' ⟨rfl, rfl⟩
    generalize Vi.getI l at_ = R
    obtain ⟨r1, r2, r3⟩ := R
    dsimp only
    have hL : (Vi.putI z).length ≤ 10 := putI_len hz
    generalize hp : Vi.putI z = pz at hL
    have HP := Lib.hid hp
    clear hp
    obtain ⟨k, hk⟩ : ∃ k, k = pz.length := ⟨_, rfl⟩
    rw [← hk] at hL
    have HK := Lib.hid hk
    clear hk
    go_wp2_with fail
    have HR : Hid (∀ w' : World, Below w1.heap.size w1 w' → RdB w' w'.heap.size A n c l) := fun w' hb => (h.below hb).more hb.size
    have HU : Hid (∀ w' : World, Below w1.drew.heap.size w1.drew w' → Below w1.heap.size w1 w') := fun w' hb => ((Below.refl _ w1).drew).trans hb
    go_region_held3 (fun w' : World => True)
      (exact trivial)
      (first
        | (go_at_call 15; refine (putInt_any A n c l z _ (by exact h) (by omega) hz).mono ?_; rintro e w2 ⟨v2, rfl, ho, hb2⟩; rw [HP.out, ← HK.out] at ho; obtain ⟨A2, c2, rfl, q2⟩ := own_rdB (n := n + k) (l := l ++ pz) ho; have hs2 := run_str q2; clear ho)
        | (go_at_call 16; refine (rputInt_any A n c l z _ (by exact HR.out _ (HU.out _ hb2)) (by omega) hz).mono ?_; rintro e w3 ⟨v3, rfl, ho, hb3⟩; rw [HP.out, ← HK.out] at ho; obtain ⟨A3, c3, rfl, q3⟩ := own_rdB (n := n + k) (l := l ++ pz) ho; have hs3 := run_str q3; clear ho; have hs4 := run_str (q2.below hb3)))
    all_goals (go_wp2_with fail)
    all_goals (go_ret; exact ⟨ret_bool rfl, hbt.trans ((HU.out _ (hb2.trans (hb3.mono hb2.size))).mono hbt.size)⟩)
  · rw [decide_eq_false hfew]
    go_wp2_with fail
    go_ret
    exact ⟨ret_bool rfl, hbt⟩
end Go.Proofs.Ytgklnkholflabaa
