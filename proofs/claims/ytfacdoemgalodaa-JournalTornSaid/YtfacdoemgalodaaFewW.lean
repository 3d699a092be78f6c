/-
  The walks of FewVersions and fits.
-/
import Derived.Test.YtfacdoemgalodaaCmpW2
namespace Go.Proofs.Ytfacdoemgalodaa
open Go.RowKit
set_option linter.unusedVariables false
set_option linter.unusedSimpArgs false

set_option maxRecDepth 100000 in
set_option maxHeartbeats 4000000 in
theorem fewVs_any (A : Option Addr) (n c : Nat) (vs : List Ver) (k : Nat) (w : World) (h : RdV w w.heap.size A n c vs) (hk : k ≤ 1000) :
    Calls Try.prog 20 #[.slice A n c, .int .i64 k] w (Tells ((∀ v ∈ vs.take (k + 1), v.week.length ≤ 70) ∧ n ≤ k) w) := by
  have h1 := h.max
  have h2 := h.le
  have hl := Lib.hid h.len
  go_enter Try.func20, Try.ntmps20
  go_wp2_with fail
  go_loop [5] (fun i => ∃ j : Nat, j ≤ n ∧ j ≤ k + 1 ∧ i = .int .i64 j ∧ ∀ v ∈ vs.take j, v.week.length ≤ 70) (fun i => n - (intOf i).toNat)
  case atStart => exact ⟨0, by omega, by omega, rfl, by simp⟩
  case round =>
    obtain ⟨j, hj, hj2, rfl, hall⟩ := hrel
    have HA := Lib.hid hall
    clear hall
    by_cases hlt : j < n ∧ j ≤ k
    · obtain ⟨hjn, hjk⟩ := hlt
      have hjl : j < vs.length := by rw [hl.out]; exact hjn
      obtain ⟨ad, A1, c1, rfl, _, x0, x1, x2, x3, hp, _, _⟩ := h.at_ hjn hjl
      have m1 := hp.max
      have m2 := hp.le
      clear hp x0 x2 x3
      have d1 : decide ((j : Int) < (n : Int)) = true := by simp; omega
      have d2 : decide ((j : Int) ≤ (k : Int)) = true := by simp; omega
      have HS : Hid (vs[j].week.length ≤ 70 → ∀ v ∈ vs.take (j + 1), v.week.length ≤ 70) := fun e v hv => by
        rw [List.take_succ_eq_append_getElem hjl] at hv
        rcases List.mem_append.1 hv with hv | hv
        · exact HA.out v hv
        · rw [List.mem_singleton] at hv; subst hv; exact e
      have HT : Hid (70 < vs[j].week.length → ¬ ∀ v ∈ vs.take (k + 1), v.week.length ≤ 70) := fun e hh => by
        have := hh vs[j] (by rw [List.mem_iff_getElem]; exact ⟨j, by rw [List.length_take]; omega, by simp⟩)
        omega
      generalize vs[j].week.length = x at *
      by_cases hx : 70 < x
      · have d3 : decide ((70 : Int) < (x : Int)) = true := by simp; omega
        go_wp2_with fail
        go_ret
        exact ⟨_, rfl, ⟨(fun hh => by cases hh), fun hh => absurd hh.1 (HT.out hx)⟩, Below.refl _ _⟩
      · have d3 : decide ((70 : Int) < (x : Int)) = false := by simp; omega
        go_wp2_with fail
        go_round
        case rel => exact ⟨j + 1, by omega, by omega, by go_num, HS.out (by omega)⟩
        case measure => simp [intOf]; omega
    · have hend : (∀ v ∈ vs.take (k + 1), v.week.length ≤ 70) ∨ ¬ n ≤ k := by
        by_cases hnk : n ≤ k
        · left
          have e : vs.take (k + 1) = vs.take j := by rw [List.take_of_length_le (by rw [hl.out]; omega), List.take_of_length_le (by rw [hl.out]; omega)]
          rw [e]
          exact HA.out
        · exact .inr hnk
      have hgo : decide ((j : Int) < (n : Int)) = false ∨ (decide ((j : Int) < (n : Int)) = true ∧ decide ((j : Int) ≤ (k : Int)) = false) := by
        by_cases h4 : j < n
        · right; simp; omega
        · left; simp; omega
      have HE := Lib.hid hend
      clear hend
      have HF : Hid (∀ b : Bool, b = decide (n ≤ k) → (b = true ↔ (∀ v ∈ vs.take (k + 1), v.week.length ≤ 70) ∧ n ≤ k)) := fun b hb => by
        subst hb
        constructor
        · intro hh
          have hnk : n ≤ k := by simpa using hh
          rcases HE.out with he | he
          · exact ⟨he, hnk⟩
          · exact absurd hnk he
        · intro hh; simpa using hh.2
      clear HE
      rcases hgo with d1 | ⟨d1, d2⟩
      · go_wp2_with fail
        all_goals (go_ret; exact ⟨_, rfl, HF.out _ rfl, Below.refl _ _⟩)
      · go_wp2_with fail
        all_goals (go_ret; exact ⟨_, rfl, HF.out _ rfl, Below.refl _ _⟩)

/-- Storable, but for the number. -/
def Jn.fit (v : Ver) : Prop := (0 ≤ v.cost ∧ v.cost ≤ 1099511627776) ∧ v.week.length ≤ 64

set_option maxRecDepth 100000 in
set_option maxHeartbeats 4000000 in
theorem fits_any (A : Option Addr) (n c : Nat) (vs : List Ver) (w : World) (h : RdV w w.heap.size A n c vs) :
    Calls Try.prog 22 #[.slice A n c] w (Tells (∀ v ∈ vs, Jn.fit v) w) := by
  have h1 := h.max
  have h2 := h.le
  have hl := Lib.hid h.len
  go_enter Try.func22, Try.ntmps22
  go_wp2_with fail
  go_loopw [7] (fun i wr => ∃ j : Nat, j ≤ n ∧ i = .int .i64 j ∧ (∀ v ∈ vs.take j, Jn.fit v) ∧ Below w.heap.size w wr) (fun i _ => n - (intOf i).toNat)
  case atStart => exact ⟨0, by omega, rfl, by simp, Below.refl _ _⟩
  case round =>
    obtain ⟨j, hj, rfl, hall, hbt⟩ := hrel
    have HA := Lib.hid hall
    clear hall
    by_cases hjn : j < n
    · have hjl : j < vs.length := by rw [hl.out]; exact hjn
      obtain ⟨ad, A1, c1, rfl, _, x0, x1, x2, x3, hp, _, _⟩ := (h.below hbt).at_ hjn hjl
      have m1 := hp.max
      have m2 := hp.le
      clear hp
      have d1 : decide ((j : Int) < (n : Int)) = true := by simp; omega
      have HS : Hid (Jn.fit vs[j] → ∀ v ∈ vs.take (j + 1), Jn.fit v) := fun e v hv => by
        rw [List.take_succ_eq_append_getElem hjl] at hv
        rcases List.mem_append.1 hv with hv | hv
        · exact HA.out v hv
        · rw [List.mem_singleton] at hv; subst hv; exact e
      have HT : Hid (¬ Jn.fit vs[j] → ¬ ∀ v ∈ vs, Jn.fit v) := fun e hh => e (hh _ (List.getElem_mem hjl))
      generalize vs[j] = u at *
      obtain ⟨no, wk, co, be⟩ := u
      unfold Jn.fit at HS HT
      dsimp only at *
      generalize wk.length = wl at *
      have hbt2 : Below w.heap.size w (wr.alloc (.cells #[.int .i64 no, .slice A1 wl c1, .int .i64 co, .bool be] 42)) := hbt.alloc hbt.size _
      by_cases p1 : co < 0
      · have d2 : decide (co < 0) = true := by simp; omega
        go_wp2_with fail
        go_ret
        exact ⟨_, rfl, ⟨(fun hh => by cases hh), fun hh => absurd hh (HT.out (by omega))⟩, hbt2⟩
      · have d2 : decide (co < 0) = false := by simp; omega
        by_cases p2 : 1099511627776 < co
        · have d3 : decide (1099511627776 < co) = true := by simp; omega
          go_wp2_with fail
          go_ret
          exact ⟨_, rfl, ⟨(fun hh => by cases hh), fun hh => absurd hh (HT.out (by omega))⟩, hbt2⟩
        · have d3 : decide (1099511627776 < co) = false := by simp; omega
          by_cases p3 : 64 < wl
          · have d4 : decide ((64 : Int) < (wl : Int)) = true := by simp; omega
            go_wp2_with fail
            go_ret
            exact ⟨_, rfl, ⟨(fun hh => by cases hh), fun hh => absurd hh (HT.out (by omega))⟩, hbt2⟩
          · have d4 : decide ((64 : Int) < (wl : Int)) = false := by simp; omega
            go_wp2_with fail
            go_roundw
            case rel => exact ⟨j + 1, by omega, by go_num, HS.out (by omega), hbt2⟩
            case measure => simp [intOf]; omega
    · obtain rfl : j = n := by omega
      have d1 : decide ((j : Int) < (j : Int)) = false := by simp
      have HE : Hid (∀ v ∈ vs, Jn.fit v) := by
        have := HA.out
        rw [List.take_of_length_le (by rw [hl.out]; omega)] at this
        exact this
      go_wp2_with fail
      go_ret
      exact ⟨_, rfl, ⟨fun _ => HE.out, fun _ => rfl⟩, hbt⟩
end Go.Proofs.Ytfacdoemgalodaa
