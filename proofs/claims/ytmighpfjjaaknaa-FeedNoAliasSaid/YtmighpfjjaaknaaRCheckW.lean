/-
  The reference's may and Check.
-/
import Derived.Test.YtmighpfjjaaknaaPlain
namespace Go.Proofs.Ytmighpfjjaaknaa
open Go.RowKit
set_option linter.unusedVariables false
set_option linter.unusedSimpArgs false

theorem okPl_iff (p : Pl) : okPl p = true ↔ (0 ≤ p.1 ∧ p.1 < 50) ∧ (0 ≤ p.2 ∧ p.2 < 32) := by
  unfold okPl
  simp
  omega
theorem okWeek_iff (l : List Pl) : okWeek l = true ↔ l.length ≤ 64 ∧ ∀ (j : Nat) (hj : j < l.length), okPl l[j] = true := by
  unfold okWeek
  rw [Bool.and_eq_true, decide_eq_true_iff]
  exact and_congr Iff.rfl (allIs_all okPl l)

set_option maxHeartbeats 1000000 in
theorem may_any (A : Option Addr) (n c : Nat) (l : List Pl) (w : World) (h : RdP w w.heap.size A n c l) :
    Calls Try.prog 35 #[.agg #[.slice A n c]] w fun e w' => e = .returned (.bool (okWeek l)) ∧ Below w.heap.size w w' := by
  have hm := h.max
  have hle := h.le
  have hlen := Lib.hid h.len
  obtain ⟨res, hres⟩ : ∃ res, res = okWeek l := ⟨_, rfl⟩
  rw [← hres]
  have HR := Lib.hid hres
  clear hres
  obtain ⟨W1, hW1⟩ : ∃ W1, W1 = w.alloc (.cells #[.slice A n c] 25) := ⟨_, rfl⟩
  have hb1 := below_new hW1
  have x1 := blk_new hW1
  go_enter Try.func35, Try.ntmps35
  go_wp2_with fail
  rw [← hW1]
  clear hW1
  go_loopw [3] (fun i wr => ∃ k : Nat, k ≤ n ∧ k ≤ 65 ∧ i = .int .i64 k ∧ (∀ (j : Nat) (hj : j < l.length), j < k → okPl l[j] = true) ∧ Below W1.heap.size W1 wr) (fun i _ => n - (intOf i).toNat)
  case atStart => exact ⟨0, by omega, by omega, rfl, fun _ _ h => absurd h (by omega), Below.refl _ _⟩
  case round =>
    obtain ⟨k, hk, hk65, rfl, hal, hb⟩ := hrel
    have HAL := Lib.hid hal
    clear hal
    have y1 := blk_below x1 hb
    have c0 : wr.cell? ⟨w.heap.size, 0, none⟩ = some (.slice A n c) := cell_of_row wr _ 0 _ _ _ y1
    have hbw : Below w.heap.size w wr := hb1.trans (hb.mono hb1.size)
    by_cases hkn : k < n
    · have d1 : decide ((k : Int) < (n : Int)) = true := by simp; omega
      by_cases h65 : k < 65
      · have d2 : decide ((k : Int) < 65) = true := by simp; omega
        have hkl : k < l.length := by rw [hlen.out]; exact hkn
        obtain ⟨ad, rfl, hab, c1, c2, _, _⟩ := (h.below hbw).at_ hkn hkl
        have HQ : Hid (okPl l[k] = true ↔ (0 ≤ l[k].1 ∧ l[k].1 < 50) ∧ (0 ≤ l[k].2 ∧ l[k].2 < 32)) := okPl_iff _
        have HF : Hid (¬ okPl l[k] = true → res = false) := fun hn => by
          rw [HR.out]
          cases hq : okWeek l with
          | false => rfl
          | true => exact absurd (((okWeek_iff l).1 hq).2 k hkl) hn
        have HS : Hid (okPl l[k] = true → ∀ (j : Nat) (hj : j < l.length), j < k + 1 → okPl l[j] = true) := fun hq j hj hjk => by
          rcases Nat.lt_or_ge j k with h' | h'
          · exact HAL.out j hj h'
          · obtain rfl : j = k := by omega
            exact hq
        generalize l[k] = p at *
        obtain ⟨a, b⟩ := p
        dsimp only at *
        have hba : ∀ o, Below w.heap.size w (wr.alloc o) := fun o => hbw.alloc hbw.size o
        by_cases q1 : a < 0
        · have e1 : decide (a < 0) = true := decide_eq_true q1
          obtain rfl : res = false := HF.out (fun hh => by have := HQ.out.1 hh; omega)
          go_wp2
          go_ret
          exact ⟨rfl, hba _⟩
        · have e1 : decide (a < 0) = false := decide_eq_false q1
          by_cases q2 : 50 ≤ a
          · have e2 : decide (50 ≤ a) = true := decide_eq_true q2
            obtain rfl : res = false := HF.out (fun hh => by have := HQ.out.1 hh; omega)
            go_wp2
            go_ret
            exact ⟨rfl, hba _⟩
          · have e2 : decide (50 ≤ a) = false := decide_eq_false q2
            by_cases q3 : b < 0
            · have e3 : decide (b < 0) = true := decide_eq_true q3
              obtain rfl : res = false := HF.out (fun hh => by have := HQ.out.1 hh; omega)
              go_wp2
              go_ret
              exact ⟨rfl, hba _⟩
            · have e3 : decide (b < 0) = false := decide_eq_false q3
              by_cases q4 : 32 ≤ b
              · have e4 : decide (32 ≤ b) = true := decide_eq_true q4
                obtain rfl : res = false := HF.out (fun hh => by have := HQ.out.1 hh; omega)
                go_wp2
                go_ret
                exact ⟨rfl, hba _⟩
              · have e4 : decide (32 ≤ b) = false := decide_eq_false q4
                go_wp2
                go_roundw
                case rel => exact ⟨k + 1, by omega, by omega, by go_num, HS.out (HQ.out.2 (by omega)), hb.alloc hb.size _⟩
                case measure => simp [intOf]; omega
      · have d2 : decide ((k : Int) < 65) = false := by simp; omega
        have d3 : decide ((n : Int) ≤ 64) = false := by simp; omega
        obtain rfl : res = false := by
          rw [HR.out]
          cases hq : okWeek l with
          | false => rfl
          | true => exact absurd ((okWeek_iff l).1 hq).1 (by rw [hlen.out]; omega)
        go_wp2_with fail
        go_ret
        exact ⟨rfl, hbw⟩
    · obtain rfl : k = n := by omega
      have d1 : decide ((k : Int) < (k : Int)) = false := by simp
      go_wp2_with fail
      go_ret
      refine ⟨ret_bool ?_, hbw⟩
      rw [HR.out, Bool.eq_iff_iff, okWeek_iff]
      have hlk := hlen.out
      constructor
      · intro hh
        have h2 : (k : Int) ≤ 64 := by simpa using hh
        exact ⟨by omega, fun j hj => HAL.out j hj (by rw [hlen.out] at hj; exact hj)⟩
      · intro hh
        simp
        omega

theorem okVer_iff (k : Nat) (v : Ver) : okVer k v = true ↔ v.no = (k : Int) + 1 ∧ (0 ≤ v.cost ∧ v.cost ≤ 1099511627776) ∧ okWeek v.week = true := by
  unfold okVer
  simp only [Bool.and_eq_true, beq_iff_eq, decide_eq_true_iff]
  exact and_assoc

set_option maxHeartbeats 1000000 in
theorem rcheck_any (A : Option Addr) (n c : Nat) (vs : List Ver) (w : World) (h : RdV w w.heap.size A n c vs) :
    Calls Try.prog 17 #[.slice A n c] w fun e w' => e = .returned (.int .i64 (errB (checkB vs))) ∧ Below w.heap.size w w' := by
  have hm := h.max
  have hle := h.le
  have hlen := Lib.hid h.len
  obtain ⟨res, hres⟩ : ∃ res, res = checkB vs := ⟨_, rfl⟩
  rw [← hres]
  have HR := Lib.hid hres
  clear hres
  go_enter Try.func17, Try.ntmps17
  go_wp2_with fail
  go_loopw [3] (fun i wr => ∃ k : Nat, k ≤ n ∧ i = .int .i64 k ∧ (∀ (j : Nat) (hj : j < vs.length), j < k → okVer j vs[j] = true) ∧ Below w.heap.size w wr) (fun i _ => n - (intOf i).toNat)
  case atStart => exact ⟨0, by omega, rfl, fun _ _ h => absurd h (by omega), Below.refl _ _⟩
  case round =>
    obtain ⟨k, hk, rfl, hal, hb⟩ := hrel
    have HAL := Lib.hid hal
    clear hal
    by_cases hkn : k < n
    · have d1 : decide ((k : Int) < (n : Int)) = true := by simp; omega
      have hkl : k < vs.length := by rw [hlen.out]; exact hkn
      obtain ⟨ad, A', c', rfl, hab, c1, c2, c3, c4, hp, _, _⟩ := (h.below hb).at_ hkn hkl
      have hp2 := hp.more hb.size
      have HQ : Hid (okVer k vs[k] = true ↔ vs[k].no = (k : Int) + 1 ∧ (0 ≤ vs[k].cost ∧ vs[k].cost ≤ 1099511627776) ∧ okWeek vs[k].week = true) := okVer_iff _ _
      have HF : Hid (¬ okVer k vs[k] = true → res = false) := fun hn => by
        rw [HR.out]
        cases hq : checkB vs with
        | false => rfl
        | true => exact absurd (checkB_at hq hkl) hn
      have HS : Hid (okVer k vs[k] = true → ∀ (j : Nat) (hj : j < vs.length), j < k + 1 → okVer j vs[j] = true) := fun hq j hj hjk => by
        rcases Nat.lt_or_ge j k with h' | h'
        · exact HAL.out j hj h'
        · obtain rfl : j = k := by omega
          exact hq
      generalize vs[k] = p at *
      obtain ⟨no, lw, cost, best⟩ := p
      dsimp only at *
      have y1 := hp2.max
      have y2 := hp2.le
      obtain ⟨nl, hnl⟩ : ∃ z, z = lw.length := ⟨_, rfl⟩
      rw [← hnl] at c2 hp hp2 y2
      clear hnl
      by_cases q1 : no = (k : Int) + 1
      · have e1 : (no != (k : Int) + 1) = false := by simpa using q1
        have e1' : ((k : Int) + 1 != (k : Int) + 1) = false := by simp
        subst q1
        by_cases q2 : cost < 0
        · have e2 : decide (cost < 0) = true := decide_eq_true q2
          obtain rfl : res = false := HF.out (fun hh => by have := HQ.out.1 hh; omega)
          go_wp2
          go_ret
          exact ⟨rfl, hb⟩
        · have e2 : decide (cost < 0) = false := decide_eq_false q2
          by_cases q3 : 1099511627776 < cost
          · have e3 : decide (1099511627776 < cost) = true := decide_eq_true q3
            obtain rfl : res = false := HF.out (fun hh => by have := HQ.out.1 hh; omega)
            go_wp2
            go_ret
            exact ⟨rfl, hb⟩
          · have e3 : decide (1099511627776 < cost) = false := decide_eq_false q3
            go_wp2_with fail
            refine (may_any A' nl c' lw wr hp2).mono ?_
            rintro e w2 ⟨rfl, hb2⟩
            have hbw : Below w.heap.size w w2 := hb.trans (hb2.mono hb.size)
            cases q4 : okWeek lw with
            | false =>
              obtain rfl : res = false := HF.out (fun hh => by have := (HQ.out.1 hh).2.2; rw [q4] at this; cases this)
              go_wp2_with fail
              go_ret
              exact ⟨rfl, hbw⟩
            | true =>
              have HG := Lib.hid (HS.out (HQ.out.2 (by first | exact ⟨rfl, by omega, q4⟩ | exact ⟨trivial, by omega, q4⟩)))
              clear HS HF HQ q4
              go_wp2
              go_roundw
              case rel => exact ⟨k + 1, by omega, by go_num, HG.out, hbw⟩
              case measure => simp [intOf]; omega
      · have e1 : (no != (k : Int) + 1) = true := by simpa using q1
        obtain rfl : res = false := HF.out (fun hh => q1 (HQ.out.1 hh).1)
        go_wp2
        go_ret
        exact ⟨rfl, hb⟩
    · obtain rfl : k = n := by omega
      have d1 : decide ((k : Int) < (k : Int)) = false := by simp
      have hr : res = true := by
        rw [HR.out]
        exact (allIs_zip okVer vs).2 (fun j hj => HAL.out j hj (by rw [hlen.out] at hj; exact hj))
      subst hr
      go_wp2_with fail
      go_ret
      exact ⟨rfl, hb⟩
end Go.Proofs.Ytmighpfjjaaknaa
