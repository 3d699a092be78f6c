/-
  OctetCanonical, walked.
-/
import Derived.Test.YtgklnkholflabaaArgs
import Derived.Test.YtgklnkholflabaaGrow
import Derived.Test.YtgklnkholflabaaCodec
namespace Go.Proofs.Ytgklnkholflabaa
open Go.RowKit
set_option linter.unusedVariables false
set_option linter.unusedSimpArgs false

set_option maxRecDepth 100000 in
set_option maxHeartbeats 4000000 in
theorem octetCanonical_any (A : Option Addr) (n c : Nat) (l : List UInt8) (at_ most : Int) (w : World) (h : RdB w w.heap.size A n c l) (ha : -9223372036854775808 ≤ at_ ∧ at_ ≤ 9223372036854775807) (hmo : -9223372036854775808 ≤ most ∧ most ≤ 9223372036854775807) :
    Calls Try.prog 7 #[.slice A n c, .int .i64 at_, .int .i64 most] w fun e w' => e = .returned (.bool true) ∧ Below w.heap.size w w' := by
  have h1 := h.max
  have h2 := h.le
  have hbt := Below.refl w.heap.size w
  go_enter Try.func7, Try.ntmps7
  go_wp2_with fail
  refine (live_any w).mono ?_
  rintro e w1 ⟨rfl, hb⟩
  replace h := (h.below hb).more hb.size
  replace hbt := hbt.trans (hb.mono hbt.size)
  clear hb
  go_wp2_with fail
  refine (few_any A n c w1 (by omega)).mono ?_
  rintro e w' ⟨rfl, rfl⟩
  by_cases hfew : n ≤ 3000
  · rw [decide_eq_true hfew]
    by_cases hE : ¬ (Vi.getI l at_).2.2 = 0
    · have he : (Vi.getI l at_).2.2 ≠ 0 := hE
      have e1 := Vi.getI_err he
      have e2 := Vi.getS_bad (most := most) he
      have e3 := Vi.getL_bad (most := most) he
      have f2 := Vi.getS_err e2
      have f3 := Vi.getL_err e3
      clear he
      have E1 := Lib.hid e1
      have E2 := Lib.hid e2
      have E3 := Lib.hid e3
      have F2 := Lib.hid f2
      have F3 := Lib.hid f3
      clear e1 e2 e3 f2 f3
      go_wp2_with fail
      refine (getInt_any A n c l at_ w1 h ha).mono ?_
      rintro e w' ⟨rfl, rfl⟩
      rw [E1.out]
      dsimp only
      have hE1 : ¬ (Vi.getI l at_).2.2 = 0 := hE
      generalize (Vi.getI l at_).2.2 = r1 at hE1 ⊢
      go_wp2_with fail
      have zr1 : (r1 == 0) = false := by simp; omega
      refine wp_region_plan [([0, 1, 2, 3, 4, 5, 6, 7, 8, 9, 10, 11, 12, 13, 14, 15, 16, 17, 18, 19, 20, 21, 22, 23, 26, 27, 28, 29, 30], some 24), ([25, 31, 32, 33], none)] (by kernel_rfl) (by kernel_rfl) ?_
      intro wd hsz hb
      clear hsz
      replace h := (h.below hb).more hb.size
      replace hbt := hbt.trans (hb.mono hbt.size)
      clear hb
      simp only [pickP, pick, List.map_cons, List.map_nil, Option.map_some, Option.map_none, List.getD_cons_zero, List.getD_cons_succ]
      refine plan_cons ?_
      (repeat (go_big_quiet_step (fail)))
      refine plan_nil ?_
      refine plan_pass (by kernel_rfl) ?_
      simp only [Act.put, List.setIfInBounds_toArray, List.set_cons_zero, List.set_cons_succ]
      refine plan_cons ?_
      (repeat (go_big_quiet_step (fail)))
      refine plan_nil ?_
      refine plan_end ?_
      go_wp2_with fail
      refine (getText_any A n c l at_ most _ h ha).mono ?_
      rintro e w3 ⟨rfl, hb⟩
      replace h := (h.below hb).more hb.size
      replace hbt := hbt.trans (hb.mono hbt.size)
      clear hb
      rw [F2.out]
      dsimp only
      rw [strOf_nil]
      have hE2 : ¬ (Vi.getS l at_ most).2.2 = 0 := E2.out
      generalize (Vi.getS l at_ most).2.2 = r2 at hE2 ⊢
      go_wp2_with fail
      have zr2 : (r2 == 0) = false := by simp; omega
      refine wp_region_plan [([0, 1, 2, 3, 4, 5, 6, 7, 8, 9, 10, 11, 12, 13, 14, 15, 16, 17, 18, 19, 22, 23, 24, 25, 26], some 20), ([21, 27, 28, 29], none)] (by kernel_rfl) (by kernel_rfl) ?_
      intro we hsz hb
      clear hsz
      replace h := (h.below hb).more hb.size
      replace hbt := hbt.trans (hb.mono hbt.size)
      clear hb
      simp only [pickP, pick, List.map_cons, List.map_nil, Option.map_some, Option.map_none, List.getD_cons_zero, List.getD_cons_succ]
      refine plan_cons ?_
      (repeat (go_big_quiet_step (fail)))
      refine plan_nil ?_
      refine plan_pass (by kernel_rfl) ?_
      simp only [Act.put, List.setIfInBounds_toArray, List.set_cons_zero, List.set_cons_succ]
      refine plan_cons ?_
      (repeat (go_big_quiet_step (fail)))
      refine plan_nil ?_
      refine plan_end ?_
      go_wp2_with fail
      refine (getInts_any A n c l at_ most _ h ha (by omega)).mono ?_
      rintro e w5 ⟨v6, rfl, ho, hb⟩
      rw [F3.out] at ho ⊢
      obtain ⟨A7, c7, rfl, q7⟩ := own_rdI (l := []) ho (by simp [okIs])
      clear ho
      dsimp only
      replace h := (h.below hb).more hb.size
      replace hbt := hbt.trans (hb.mono hbt.size)
      clear hb
      have hE3 : ¬ (Vi.getL l at_ most).2.2 = 0 := E3.out
      generalize (Vi.getL l at_ most).2.2 = r3 at hE3 ⊢
      go_wp2_with fail
      have zr3 : (r3 == 0) = false := by simp; omega
      refine wp_region_plan [([0, 1, 2, 3, 4, 5, 6, 7, 8, 9, 10, 11, 12, 13, 14, 15, 16, 17, 18, 19, 22, 23, 24, 25, 26], some 20), ([21, 27, 28, 29], none)] (by kernel_rfl) (by kernel_rfl) ?_
      intro wf hsz hb
      clear hsz
      replace h := (h.below hb).more hb.size
      replace hbt := hbt.trans (hb.mono hbt.size)
      clear hb
      simp only [pickP, pick, List.map_cons, List.map_nil, Option.map_some, Option.map_none, List.getD_cons_zero, List.getD_cons_succ]
      refine plan_cons ?_
      (repeat (go_big_quiet_step (fail)))
      refine plan_nil ?_
      refine plan_pass (by kernel_rfl) ?_
      simp only [Act.put, List.setIfInBounds_toArray, List.set_cons_zero, List.set_cons_succ]
      refine plan_cons ?_
      (repeat (go_big_quiet_step (fail)))
      refine plan_nil ?_
      refine plan_end ?_
      go_wp2_with fail
      go_ret
      exact ⟨ret_bool rfl, hbt⟩
    · have hE0 : (Vi.getI l at_).2.2 = 0 := Classical.not_not.1 hE
      clear hE
      obtain ⟨i1, i2, i3, i4, i5, i6⟩ := getI_ok hE0
      obtain ⟨C1, C2⟩ := Vi.getI_canon hE0
      obtain ⟨a, rfl⟩ : ∃ a : Nat, at_ = (a : Int) := ⟨at_.toNat, by omega⟩
      rw [Int.toNat_natCast] at C1
      obtain ⟨p, hp⟩ : ∃ p : Nat, (Vi.getI l (a : Int)).2.1 = (p : Int) := ⟨(Vi.getI l (a : Int)).2.1.toNat, by omega⟩
      rw [hp] at i2 i3 i4 C1 C2
      rw [Int.toNat_natCast] at C1
      obtain ⟨x, hx⟩ : ∃ x, (Vi.getI l (a : Int)).1 = x := ⟨_, rfl⟩
      rw [hx] at i5 i6 C1 C2
      have HR : Hid (Vi.getI l (a : Int) = (x, (p : Int), 0)) := by show Vi.getI l (a : Int) = _; rw [← hx, ← hp, ← hE0]
      have HL2 : Hid ((Vi.putI x).length = p - a) := by show (Vi.putI x).length = _; omega
      have HB2 : Hid ((l.drop a).take (p - a) = Vi.putI x) := by show (l.drop a).take (p - a) = _; rw [C1, ← HL2.out, List.take_left]
      have HP := Lib.hid hp
      have hln := h.len
      have hpn : a < p ∧ p ≤ n ∧ p ≤ a + 10 := by omega
      clear hp hln
      clear C1 C2 hE0 hx i2 i3 i4 i1
      have hca : ¬ c = a := by omega
      go_wp2_with fail
      refine (getInt_any A n c l (a : Int) w1 h ha).mono ?_
      rintro e w' ⟨rfl, rfl⟩
      rw [HR.out]
      dsimp only
      go_wp2_with fail
      have d0 : (decide ((a : Int) < 0)) = false := by simp <;> omega
      have d1 : (decide (p ≤ a)) = false := by simp <;> omega
      have d2 : (decide (n < p)) = false := by simp <;> omega
      have d3 : (decide (a + 10 < p)) = false := by simp <;> omega
      have d4 : (decide ((a : Int) + 10 < (p : Int))) = false := by simp <;> omega
      refine wp_region_plan [([0, 1, 2, 3, 4, 5, 6, 7, 8, 9, 10, 11, 12, 13, 14, 15, 16, 17, 18, 19, 20, 21, 22, 23, 26, 27, 28, 29, 30], some 24), ([25, 31, 32, 33], none)] (by kernel_rfl) (by kernel_rfl) ?_
      intro wd hsz hb
      clear hsz
      replace h := (h.below hb).more hb.size
      replace hbt := hbt.trans (hb.mono hbt.size)
      clear hb
      simp only [pickP, pick, List.map_cons, List.map_nil, Option.map_some, Option.map_none, List.getD_cons_zero, List.getD_cons_succ]
      have hc := (h.upto (show p ≤ n by omega)).cut (show a ≤ p by omega)
      rw [if_neg hca, List.drop_take, HB2.out] at hc
      have hs1 : ∀ x : Ext wd.heap.size wd, _ := fun x => run_str (hc.below x.ok)
      refine plan_cons ?_
      (repeat (go_big_quiet_step (fail)))
      refine plan_nil ?_
      clear hs1 hc
      refine plan_call (by kernel_rfl) (fun K hK => ?_)
      go_simp
      refine (putInt_any none 0 0 [] x _ (RdB.nil _ _) (by omega) (by omega)).mono ?_
      rintro e w2 ⟨v2, rfl, ho, hb⟩
      rw [Nat.zero_add, List.nil_append, HL2.out] at ho
      obtain ⟨A2, c2, rfl, q2⟩ := own_rdB (n := p - a) (l := Vi.putI x) ho
      clear ho
      refine hK.out _ _ hb ?_
      clear hK K
      (try simp only [Act.put, List.setIfInBounds_toArray, List.set_cons_zero, List.set_cons_succ])
      replace h := (h.below hb).more hb.size
      replace hbt := hbt.trans (hb.mono hbt.size)
      clear hb
      have hs1 : ∀ x : Ext w2.heap.size w2, _ := fun x => run_str (q2.below x.ok)
      refine plan_cons ?_
      (repeat (go_big_quiet_step (fail)))
      refine plan_nil ?_
      clear hs1
      refine plan_end ?_
      go_wp2_with fail
      clear d0 d1 d2 d3 d4
      by_cases hF : (Vi.getS l (a : Int) most).2.2 = 0
      · obtain ⟨_, C1, C2, C3, C4, C5⟩ := Vi.getS_canon hF
        rw [Int.toNat_natCast] at C1
        obtain ⟨t, ht⟩ : ∃ t : ByteArray, (Vi.getS l (a : Int) most).1 = t.data.toList := ⟨strOf (Vi.getS l (a : Int) most).1, by simp [strOf]⟩
        rw [ht] at C1 C2 C3
        obtain ⟨q, hq⟩ : ∃ q : Nat, (Vi.getS l (a : Int) most).2.1 = (q : Int) := ⟨(Vi.getS l (a : Int) most).2.1.toNat, by omega⟩
        rw [hq] at C1 C2 C4 C5
        rw [Int.toNat_natCast] at C1
        rw [HP.out] at C5
        have HS : Hid (Vi.getS l (a : Int) most = (t.data.toList, (q : Int), 0)) := by show Vi.getS l (a : Int) most = _; rw [← ht, ← hq, ← hF]
        have HL4 : Hid ((Vi.putS t.data.toList).length = q - a) := by show (Vi.putS t.data.toList).length = _; omega
        have HB4 : Hid ((l.drop a).take (q - a) = Vi.putS t.data.toList) := by show (l.drop a).take (q - a) = _; rw [C1, ← HL4.out, List.take_left]
        have hln := h.len
        have hqn : p ≤ q ∧ q ≤ n ∧ (t.size : Int) ≤ most ∧ t.size ≤ n := by
          have e1 := congrArg List.length C1
          have e2 : (Vi.putS t.data.toList).length = (Vi.putI t.data.toList.length).length + t.size := by unfold Vi.putS; rw [List.length_append, data_len]
          rw [data_len] at C3
          rw [List.length_drop, List.length_append] at e1
          omega
        clear C1 C2 C3 C4 C5 hq ht hln hF
        refine (getText_any A n c l (a : Int) most _ h ha).mono ?_
        rintro e w3 ⟨rfl, hb⟩
        replace h := (h.below hb).more hb.size
        replace hbt := hbt.trans (hb.mono hbt.size)
        clear hb
        rw [HS.out]
        dsimp only
        rw [strOf_data]
        go_wp2_with fail
        have d0 : (decide (q < p)) = false := by simp <;> omega
        have d1 : (decide (n < q)) = false := by simp <;> omega
        have d2 : (decide (most < (t.size : Int))) = false := by simp <;> omega
        refine wp_region_plan [([0, 1, 2, 3, 4, 5, 6, 7, 8, 9, 10, 11, 12, 13, 14, 15, 16, 17, 18, 19, 22, 23, 24, 25, 26], some 20), ([21, 27, 28, 29], none)] (by kernel_rfl) (by kernel_rfl) ?_
        intro we hsz hb
        clear hsz
        replace h := (h.below hb).more hb.size
        replace hbt := hbt.trans (hb.mono hbt.size)
        clear hb
        simp only [pickP, pick, List.map_cons, List.map_nil, Option.map_some, Option.map_none, List.getD_cons_zero, List.getD_cons_succ]
        have hc := (h.upto (show q ≤ n by omega)).cut (show a ≤ q by omega)
        rw [if_neg hca, List.drop_take, HB4.out] at hc
        have hs1 : ∀ x : Ext we.heap.size we, _ := fun x => run_str (hc.below x.ok)
        refine plan_cons ?_
        (repeat (go_big_quiet_step (fail)))
        refine plan_nil ?_
        clear hs1 hc
        refine plan_call (by kernel_rfl) (fun K hK => ?_)
        go_simp
        refine (putText_any none 0 0 [] t _ (RdB.nil _ _) (by omega) (by omega)).mono ?_
        rintro e w4 ⟨v4, rfl, ho, hb⟩
        rw [Nat.zero_add, List.nil_append, HL4.out] at ho
        obtain ⟨A4, c4, rfl, q4⟩ := own_rdB (n := q - a) (l := Vi.putS t.data.toList) ho
        clear ho
        refine hK.out _ _ hb ?_
        clear hK K
        (try simp only [Act.put, List.setIfInBounds_toArray, List.set_cons_zero, List.set_cons_succ])
        replace h := (h.below hb).more hb.size
        replace hbt := hbt.trans (hb.mono hbt.size)
        clear hb
        have hs1 : ∀ x : Ext w4.heap.size w4, _ := fun x => run_str (q4.below x.ok)
        refine plan_cons ?_
        (repeat (go_big_quiet_step (fail)))
        refine plan_nil ?_
        clear hs1
        refine plan_end ?_
        go_wp2_with fail
        clear d0 d1 d2
        by_cases hG : (Vi.getL l (a : Int) most).2.2 = 0
        · obtain ⟨_, C1, C2, C3, C4, C5, C6⟩ := Vi.getL_canon hG
          rw [Int.toNat_natCast] at C1
          obtain ⟨xs, ht⟩ : ∃ xs, (Vi.getL l (a : Int) most).1 = xs := ⟨_, rfl⟩
          rw [ht] at C1 C2 C3 C6
          obtain ⟨r, hr⟩ : ∃ r : Nat, (Vi.getL l (a : Int) most).2.1 = (r : Int) := ⟨(Vi.getL l (a : Int) most).2.1.toNat, by omega⟩
          rw [hr] at C1 C2 C4 C5
          rw [Int.toNat_natCast] at C1
          rw [HP.out] at C5
          have HS : Hid (Vi.getL l (a : Int) most = (xs, (r : Int), 0)) := by show Vi.getL l (a : Int) most = _; rw [← ht, ← hr, ← hG]
          have HL6 : Hid ((Vi.putL xs).length = r - a) := by show (Vi.putL xs).length = _; omega
          have HB6 : Hid ((l.drop a).take (r - a) = Vi.putL xs) := by show (l.drop a).take (r - a) = _; rw [C1, ← HL6.out, List.take_left]
          have hln := h.len
          obtain ⟨m, hm⟩ : ∃ m, xs.length = m := ⟨_, rfl⟩
          have hrn : p ≤ r ∧ r ≤ n ∧ (m : Int) ≤ most ∧ m ≤ n := by
            have e1 := congrArg List.length C1
            have e2 := Vi.putL_len2 xs
            rw [List.length_drop, List.length_append] at e1
            omega
          have HM := Lib.hid hm
          clear C1 C2 C3 C4 C5 hr ht hln hG hm
          refine (getInts_any A n c l (a : Int) most _ h ha (by omega)).mono ?_
          rintro e w5 ⟨v6, rfl, ho, hb⟩
          rw [HS.out] at ho ⊢
          obtain ⟨A7, c7, rfl, q7⟩ := own_rdI ho C6
          clear ho
          dsimp only
          rw [HM.out] at q7
          (try rw [HM.out])
          replace h := (h.below hb).more hb.size
          replace hbt := hbt.trans (hb.mono hbt.size)
          clear hb
          go_wp2_with fail
          have d0 : (decide (r < p)) = false := by simp <;> omega
          have d1 : (decide (n < r)) = false := by simp <;> omega
          have d2 : (decide (most < (m : Int))) = false := by simp <;> omega
          refine wp_region_plan [([0, 1, 2, 3, 4, 5, 6, 7, 8, 9, 10, 11, 12, 13, 14, 15, 16, 17, 18, 19, 22, 23, 24, 25, 26], some 20), ([21, 27, 28, 29], none)] (by kernel_rfl) (by kernel_rfl) ?_
          intro wf hsz hb
          clear hsz
          replace h := (h.below hb).more hb.size
          replace q7 := (q7.below hb).more hb.size
          replace hbt := hbt.trans (hb.mono hbt.size)
          clear hb
          simp only [pickP, pick, List.map_cons, List.map_nil, Option.map_some, Option.map_none, List.getD_cons_zero, List.getD_cons_succ]
          have hc := (h.upto (show r ≤ n by omega)).cut (show a ≤ r by omega)
          rw [if_neg hca, List.drop_take, HB6.out] at hc
          have hs1 : ∀ x : Ext wf.heap.size wf, _ := fun x => run_str (hc.below x.ok)
          refine plan_cons ?_
          (repeat (go_big_quiet_step (fail)))
          refine plan_nil ?_
          clear hs1 hc
          refine plan_call (by kernel_rfl) (fun K hK => ?_)
          go_simp
          refine (putInts_any none 0 0 [] A7 m c7 xs _ (RdB.nil _ _) (by exact q7) (by omega) (by omega)).mono ?_
          rintro e w6 ⟨v6, rfl, ho, hb⟩
          rw [Nat.zero_add, List.nil_append, HL6.out] at ho
          obtain ⟨A6, c6, rfl, q6⟩ := own_rdB (n := r - a) (l := Vi.putL xs) ho
          clear ho
          refine hK.out _ _ hb ?_
          clear hK K
          (try simp only [Act.put, List.setIfInBounds_toArray, List.set_cons_zero, List.set_cons_succ])
          replace h := (h.below hb).more hb.size
          replace q7 := (q7.below hb).more hb.size
          replace hbt := hbt.trans (hb.mono hbt.size)
          clear hb
          have hs1 : ∀ x : Ext w6.heap.size w6, _ := fun x => run_str (q6.below x.ok)
          refine plan_cons ?_
          (repeat (go_big_quiet_step (fail)))
          refine plan_nil ?_
          clear hs1
          refine plan_end ?_
          go_wp2_with fail
          clear d0 d1 d2
          go_ret
          exact ⟨ret_bool rfl, hbt⟩
        · have e3 : (Vi.getL l (a : Int) most).2.2 ≠ 0 := hG
          have F3 := Lib.hid (Vi.getL_err e3)
          clear hG
          refine (getInts_any A n c l (a : Int) most _ h ha (by omega)).mono ?_
          rintro e w5 ⟨v6, rfl, ho, hb⟩
          rw [F3.out] at ho ⊢
          obtain ⟨A7, c7, rfl, q7⟩ := own_rdI (l := []) ho (by simp [okIs])
          clear ho
          dsimp only
          replace h := (h.below hb).more hb.size
          replace hbt := hbt.trans (hb.mono hbt.size)
          clear hb
          generalize (Vi.getL l (a : Int) most).2.2 = r3 at e3 ⊢
          go_wp2_with fail
          have zr3 : (r3 == 0) = false := by simp; omega
          refine wp_region_plan [([0, 1, 2, 3, 4, 5, 6, 7, 8, 9, 10, 11, 12, 13, 14, 15, 16, 17, 18, 19, 22, 23, 24, 25, 26], some 20), ([21, 27, 28, 29], none)] (by kernel_rfl) (by kernel_rfl) ?_
          intro wf hsz hb
          clear hsz
          replace h := (h.below hb).more hb.size
          replace hbt := hbt.trans (hb.mono hbt.size)
          clear hb
          simp only [pickP, pick, List.map_cons, List.map_nil, Option.map_some, Option.map_none, List.getD_cons_zero, List.getD_cons_succ]
          refine plan_cons ?_
          (repeat (go_big_quiet_step (fail)))
          refine plan_nil ?_
          refine plan_pass (by kernel_rfl) ?_
          simp only [Act.put, List.setIfInBounds_toArray, List.set_cons_zero, List.set_cons_succ]
          refine plan_cons ?_
          (repeat (go_big_quiet_step (fail)))
          refine plan_nil ?_
          refine plan_end ?_
          go_wp2_with fail
          go_ret
          exact ⟨ret_bool rfl, hbt⟩
      · have e2 : (Vi.getS l (a : Int) most).2.2 ≠ 0 := hF
        have F2 := Lib.hid (Vi.getS_err e2)
        clear hF
        refine (getText_any A n c l (a : Int) most _ h ha).mono ?_
        rintro e w3 ⟨rfl, hb⟩
        replace h := (h.below hb).more hb.size
        replace hbt := hbt.trans (hb.mono hbt.size)
        clear hb
        rw [F2.out]
        dsimp only
        rw [strOf_nil]
        generalize (Vi.getS l (a : Int) most).2.2 = r2 at e2 ⊢
        go_wp2_with fail
        have zr2 : (r2 == 0) = false := by simp; omega
        refine wp_region_plan [([0, 1, 2, 3, 4, 5, 6, 7, 8, 9, 10, 11, 12, 13, 14, 15, 16, 17, 18, 19, 22, 23, 24, 25, 26], some 20), ([21, 27, 28, 29], none)] (by kernel_rfl) (by kernel_rfl) ?_
        intro we hsz hb
        clear hsz
        replace h := (h.below hb).more hb.size
        replace hbt := hbt.trans (hb.mono hbt.size)
        clear hb
        simp only [pickP, pick, List.map_cons, List.map_nil, Option.map_some, Option.map_none, List.getD_cons_zero, List.getD_cons_succ]
        refine plan_cons ?_
        (repeat (go_big_quiet_step (fail)))
        refine plan_nil ?_
        refine plan_pass (by kernel_rfl) ?_
        simp only [Act.put, List.setIfInBounds_toArray, List.set_cons_zero, List.set_cons_succ]
        refine plan_cons ?_
        (repeat (go_big_quiet_step (fail)))
        refine plan_nil ?_
        refine plan_end ?_
        go_wp2_with fail
        by_cases hG : (Vi.getL l (a : Int) most).2.2 = 0
        · obtain ⟨_, C1, C2, C3, C4, C5, C6⟩ := Vi.getL_canon hG
          rw [Int.toNat_natCast] at C1
          obtain ⟨xs, ht⟩ : ∃ xs, (Vi.getL l (a : Int) most).1 = xs := ⟨_, rfl⟩
          rw [ht] at C1 C2 C3 C6
          obtain ⟨r, hr⟩ : ∃ r : Nat, (Vi.getL l (a : Int) most).2.1 = (r : Int) := ⟨(Vi.getL l (a : Int) most).2.1.toNat, by omega⟩
          rw [hr] at C1 C2 C4 C5
          rw [Int.toNat_natCast] at C1
          rw [HP.out] at C5
          have HS : Hid (Vi.getL l (a : Int) most = (xs, (r : Int), 0)) := by show Vi.getL l (a : Int) most = _; rw [← ht, ← hr, ← hG]
          have HL6 : Hid ((Vi.putL xs).length = r - a) := by show (Vi.putL xs).length = _; omega
          have HB6 : Hid ((l.drop a).take (r - a) = Vi.putL xs) := by show (l.drop a).take (r - a) = _; rw [C1, ← HL6.out, List.take_left]
          have hln := h.len
          obtain ⟨m, hm⟩ : ∃ m, xs.length = m := ⟨_, rfl⟩
          have hrn : p ≤ r ∧ r ≤ n ∧ (m : Int) ≤ most ∧ m ≤ n := by
            have e1 := congrArg List.length C1
            have e2 := Vi.putL_len2 xs
            rw [List.length_drop, List.length_append] at e1
            omega
          have HM := Lib.hid hm
          clear C1 C2 C3 C4 C5 hr ht hln hG hm
          refine (getInts_any A n c l (a : Int) most _ h ha (by omega)).mono ?_
          rintro e w5 ⟨v6, rfl, ho, hb⟩
          rw [HS.out] at ho ⊢
          obtain ⟨A7, c7, rfl, q7⟩ := own_rdI ho C6
          clear ho
          dsimp only
          rw [HM.out] at q7
          (try rw [HM.out])
          replace h := (h.below hb).more hb.size
          replace hbt := hbt.trans (hb.mono hbt.size)
          clear hb
          go_wp2_with fail
          have d0 : (decide (r < p)) = false := by simp <;> omega
          have d1 : (decide (n < r)) = false := by simp <;> omega
          have d2 : (decide (most < (m : Int))) = false := by simp <;> omega
          refine wp_region_plan [([0, 1, 2, 3, 4, 5, 6, 7, 8, 9, 10, 11, 12, 13, 14, 15, 16, 17, 18, 19, 22, 23, 24, 25, 26], some 20), ([21, 27, 28, 29], none)] (by kernel_rfl) (by kernel_rfl) ?_
          intro wf hsz hb
          clear hsz
          replace h := (h.below hb).more hb.size
          replace q7 := (q7.below hb).more hb.size
          replace hbt := hbt.trans (hb.mono hbt.size)
          clear hb
          simp only [pickP, pick, List.map_cons, List.map_nil, Option.map_some, Option.map_none, List.getD_cons_zero, List.getD_cons_succ]
          have hc := (h.upto (show r ≤ n by omega)).cut (show a ≤ r by omega)
          rw [if_neg hca, List.drop_take, HB6.out] at hc
          have hs1 : ∀ x : Ext wf.heap.size wf, _ := fun x => run_str (hc.below x.ok)
          refine plan_cons ?_
          (repeat (go_big_quiet_step (fail)))
          refine plan_nil ?_
          clear hs1 hc
          refine plan_call (by kernel_rfl) (fun K hK => ?_)
          go_simp
          refine (putInts_any none 0 0 [] A7 m c7 xs _ (RdB.nil _ _) (by exact q7) (by omega) (by omega)).mono ?_
          rintro e w6 ⟨v6, rfl, ho, hb⟩
          rw [Nat.zero_add, List.nil_append, HL6.out] at ho
          obtain ⟨A6, c6, rfl, q6⟩ := own_rdB (n := r - a) (l := Vi.putL xs) ho
          clear ho
          refine hK.out _ _ hb ?_
          clear hK K
          (try simp only [Act.put, List.setIfInBounds_toArray, List.set_cons_zero, List.set_cons_succ])
          replace h := (h.below hb).more hb.size
          replace q7 := (q7.below hb).more hb.size
          replace hbt := hbt.trans (hb.mono hbt.size)
          clear hb
          have hs1 : ∀ x : Ext w6.heap.size w6, _ := fun x => run_str (q6.below x.ok)
          refine plan_cons ?_
          (repeat (go_big_quiet_step (fail)))
          refine plan_nil ?_
          clear hs1
          refine plan_end ?_
          go_wp2_with fail
          clear d0 d1 d2
          go_ret
          exact ⟨ret_bool rfl, hbt⟩
        · have e3 : (Vi.getL l (a : Int) most).2.2 ≠ 0 := hG
          have F3 := Lib.hid (Vi.getL_err e3)
          clear hG
          refine (getInts_any A n c l (a : Int) most _ h ha (by omega)).mono ?_
          rintro e w5 ⟨v6, rfl, ho, hb⟩
          rw [F3.out] at ho ⊢
          obtain ⟨A7, c7, rfl, q7⟩ := own_rdI (l := []) ho (by simp [okIs])
          clear ho
          dsimp only
          replace h := (h.below hb).more hb.size
          replace hbt := hbt.trans (hb.mono hbt.size)
          clear hb
          generalize (Vi.getL l (a : Int) most).2.2 = r3 at e3 ⊢
          go_wp2_with fail
          have zr3 : (r3 == 0) = false := by simp; omega
          refine wp_region_plan [([0, 1, 2, 3, 4, 5, 6, 7, 8, 9, 10, 11, 12, 13, 14, 15, 16, 17, 18, 19, 22, 23, 24, 25, 26], some 20), ([21, 27, 28, 29], none)] (by kernel_rfl) (by kernel_rfl) ?_
          intro wf hsz hb
          clear hsz
          replace h := (h.below hb).more hb.size
          replace hbt := hbt.trans (hb.mono hbt.size)
          clear hb
          simp only [pickP, pick, List.map_cons, List.map_nil, Option.map_some, Option.map_none, List.getD_cons_zero, List.getD_cons_succ]
          refine plan_cons ?_
          (repeat (go_big_quiet_step (fail)))
          refine plan_nil ?_
          refine plan_pass (by kernel_rfl) ?_
          simp only [Act.put, List.setIfInBounds_toArray, List.set_cons_zero, List.set_cons_succ]
          refine plan_cons ?_
          (repeat (go_big_quiet_step (fail)))
          refine plan_nil ?_
          refine plan_end ?_
          go_wp2_with fail
          go_ret
          exact ⟨ret_bool rfl, hbt⟩
  · rw [decide_eq_false hfew]
    go_wp2_with fail
    go_ret
    exact ⟨ret_bool rfl, hbt⟩
end Go.Proofs.Ytgklnkholflabaa
