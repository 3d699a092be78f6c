/-
  OctetLists, walked.
-/
import Derived.Test.YtgklnkholflabaaArgs
import Derived.Test.YtgklnkholflabaaGrow
import Derived.Test.YtgklnkholflabaaCodec
namespace Go.Proofs.Ytgklnkholflabaa
open Go.RowKit
set_option linter.unusedVariables false
set_option linter.unusedSimpArgs false

set_option maxRecDepth 100000 in
set_option maxHeartbeats 4000000 in
theorem octetLists_any (A : Option Addr) (n c : Nat) (l : List UInt8) (B : Option Addr) (m d : Nat) (xs : List Int) (at_ most : Int) (w : World) (h : RdB w w.heap.size A n c l) (hx : RdI w w.heap.size B m d xs) (ha : -9223372036854775808 ≤ at_ ∧ at_ ≤ 9223372036854775807) (hm : -9223372036854775808 ≤ most ∧ most ≤ 9223372036854775807) :
    Calls Try.prog 5 #[.slice A n c, .slice B m d, .int .i64 at_, .int .i64 most] w fun e w' => e = .returned (.bool true) ∧ Below w.heap.size w w' := by
  have h1 := h.max
  have h2 := h.le
  have h3 := hx.max
  have h4 := hx.le
  have hbt := Below.refl w.heap.size w
  go_enter Try.func5, Try.ntmps5
  go_wp2_with fail
  refine (live_any w).mono ?_
  rintro e w1 ⟨rfl, hb⟩
  replace h := (h.below hb).more hb.size
  replace hx := (hx.below hb).more hb.size
  replace hbt := hbt.trans (hb.mono hbt.size)
  clear hb
  go_wp2_with fail
  refine (few_any A n c w1 (by omega)).mono ?_
  rintro e w' ⟨rfl, rfl⟩
  by_cases hfew : n ≤ 3000
  · rw [decide_eq_true hfew]
    by_cases hmore : m ≤ 300
    · have hd : decide (300 < m) = false := by simp; omega
      go_wp2_with fail
      clear hd
      refine (getInts_any A n c l at_ most w1 h ha (by omega)).mono ?_
      rintro e w2 ⟨v5, rfl, ho, hb⟩
      obtain ⟨A5, c5, rfl, q5⟩ := own_rdI ho (Vi.getL_okIs l at_ most)
      clear ho
      replace h := (h.below hb).more hb.size
      replace hx := (hx.below hb).more hb.size
      replace hbt := hbt.trans (hb.mono hbt.size)
      clear hb
      go_wp2_with fail
      refine (rgetInts_any A n c l at_ most w2 h ha (by omega)).mono ?_
      rintro e w3 ⟨v6, rfl, ho, hb⟩
      obtain ⟨A6, c6, rfl, q6⟩ := own_rdI ho (Vi.getL_okIs l at_ most)
      clear ho
      replace h := (h.below hb).more hb.size
      replace hx := (hx.below hb).more hb.size
      replace q5 := (q5.below hb).more hb.size
      replace hbt := hbt.trans (hb.mono hbt.size)
      clear hb
      generalize Vi.getL l at_ most = R at q5 q6
      obtain ⟨r1, r2, r3⟩ := R
      dsimp only at q5 q6 ⊢
      generalize r1.length = n5 at q5 q6 ⊢
      have hL : (Vi.putL xs).length ≤ 3010 := by have := Vi.putL_len hx.2 (by rw [hx.len]; omega); rw [hx.len] at this; omega
      generalize hp : Vi.putL xs = pz at hL
      have HP := Lib.hid hp
      clear hp
      obtain ⟨k, hk⟩ : ∃ k, k = pz.length := ⟨_, rfl⟩
      rw [← hk] at hL
      have HK := Lib.hid hk
      clear hk
      go_wp2_with fail
      refine wp_region_plan [([0, 1, 4, 5], some 2), ([3], some 6), ([7, 8, 9, 10, 11], some 12), ([13, 14, 15, 16, 17, 18, 19, 20, 21, 22, 23, 24], none)] (by kernel_rfl) (by kernel_rfl) (fun _ _ d _ _ h => by cases d <;> exact h) ?_
      intro wd hsz hb
      clear hsz
      replace h := (h.below hb).more hb.size
      replace hx := (hx.below hb).more hb.size
      replace q5 := (q5.below hb).more hb.size
      replace q6 := (q6.below hb).more hb.size
      replace hbt := hbt.trans (hb.mono hbt.size)
      clear hb
      simp only [pickP, pick, List.map_cons, List.map_nil, Option.map_some, Option.map_none, List.getD_cons_zero, List.getD_cons_succ]
      refine plan_cons ?_
      (repeat (go_big_quiet_step (fail)))
      refine plan_nil ?_
      refine plan_call (by rfl) (fun K hK => ?_)
      go_simp
      refine (putInts_any A n c l B m d xs _ (by exact h) (by exact hx) (by omega) (by omega)).mono ?_
      rintro e w2 ⟨v2, rfl, ho, hb⟩
      rw [HP.out, ← HK.out] at ho
      obtain ⟨A2, c2, rfl, q2⟩ := own_rdB (n := n + k) (l := l ++ pz) ho
      clear ho
      refine hK.out _ _ hb ?_
      clear hK K
      (try simp only [Act.put, List.setIfInBounds_toArray, List.set_cons_zero, List.set_cons_succ])
      replace h := (h.below hb).more hb.size
      replace hx := (hx.below hb).more hb.size
      replace q5 := (q5.below hb).more hb.size
      replace q6 := (q6.below hb).more hb.size
      replace hbt := hbt.trans (hb.mono hbt.size)
      clear hb
      have hs2 : ∀ x : Ext w2.heap.size w2, _ := fun x => run_str (q2.below x.ok)
      refine plan_cons ?_
      (repeat (go_big_quiet_step (fail)))
      refine plan_nil ?_
      clear hs2
      clear q2
      refine plan_call (by rfl) (fun K hK => ?_)
      go_simp
      refine (rputInts_any A n c l B m d xs _ (by exact h) (by exact hx) (by omega) (by omega)).mono ?_
      rintro e w3 ⟨v3, rfl, ho, hb⟩
      rw [HP.out, ← HK.out] at ho
      obtain ⟨A3, c3, rfl, q3⟩ := own_rdB (n := n + k) (l := l ++ pz) ho
      clear ho
      refine hK.out _ _ hb ?_
      clear hK K
      (try simp only [Act.put, List.setIfInBounds_toArray, List.set_cons_zero, List.set_cons_succ])
      replace h := (h.below hb).more hb.size
      replace hx := (hx.below hb).more hb.size
      replace q5 := (q5.below hb).more hb.size
      replace q6 := (q6.below hb).more hb.size
      replace hbt := hbt.trans (hb.mono hbt.size)
      clear hb
      have hs3 : ∀ x : Ext w3.heap.size w3, _ := fun x => run_str (q3.below x.ok)
      refine plan_cons ?_
      (repeat (go_big_quiet_step (fail)))
      refine plan_nil ?_
      clear hs3
      clear q3
      refine plan_call (by rfl) (fun K hK => ?_)
      go_simp
      refine (ints_any A5 A6 n5 c5 n5 c6 r1 r1 _ q5 q6).mono ?_
      rintro e w4 ⟨rfl, mm, hw4⟩
      have hb : Below w3.heap.size w3 w4 := by rw [hw4]; exact below_drewN' (Below.refl _ _) _
      clear hw4 mm
      rw [decide_eq_true rfl]
      refine hK.out _ _ hb ?_
      clear hK K
      (try simp only [Act.put, List.setIfInBounds_toArray, List.set_cons_zero, List.set_cons_succ])
      replace h := (h.below hb).more hb.size
      replace hx := (hx.below hb).more hb.size
      replace q5 := (q5.below hb).more hb.size
      replace q6 := (q6.below hb).more hb.size
      replace hbt := hbt.trans (hb.mono hbt.size)
      clear hb
      refine plan_cons ?_
      (repeat (go_big_quiet_step (fail)))
      refine plan_nil ?_
      refine plan_end ?_
      go_wp2_with fail
      go_ret; exact ⟨ret_bool rfl, hbt⟩
    · have hd : decide (300 < m) = true := by simp; omega
      go_wp2_with fail
      go_ret
      exact ⟨ret_bool rfl, hbt⟩
  · rw [decide_eq_false hfew]
    go_wp2_with fail
    go_ret
    exact ⟨ret_bool rfl, hbt⟩
end Go.Proofs.Ytgklnkholflabaa
