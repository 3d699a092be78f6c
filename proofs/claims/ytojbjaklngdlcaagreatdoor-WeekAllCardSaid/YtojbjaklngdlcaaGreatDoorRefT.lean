/-
  The walk of the reference's slots.
-/
import Derived.Test.YtojbjaklngdlcaaGreatDoorRefP
import Derived.Test.YtojbjaklngdlcaaGreatDoorSchR
import Derived.Test.YtojbjaklngdlcaaGreatDoorNamedW
import Derived.BigQuiet
namespace Go.Proofs.YtojbjaklngdlcaaGreatDoor
open Go.RowKit Go.Shelf
set_option linter.unusedVariables false
set_option linter.unusedSimpArgs false

set_option maxRecDepth 100000 in
set_option maxHeartbeats 4000000 in
theorem rSlots_any (A : Option Addr) (n c : Nat) (l : List Sc.Slo) (w : World) (h : RdS 3 Sc.RSlo w w.heap.size A n c l) (hn : n ≤ 3074457345618258602) :
    Calls Tryz.prog 85 #[.slice A n c] w (Tells (Sc.timesOk l ∧ l ≠ []) w) := by
  have h1 := h.max
  have h2 := h.le
  have hl := Lib.hid (h.len (by omega))
  have hbt := Below.refl w.heap.size w
  have h0 := h
  clear h
  go_enter Tryz.func85, Tryz.ntmps85
  go_wp2_with fail
  go_loopw [3, 4] (fun iv _ wr => ∃ j : Nat, j ≤ n ∧ iv = .int .i64 j ∧ Sc.timesOk (l.take j) ∧ Below w.heap.size w wr) (fun iv _ _ => n - (intOf iv).toNat)
  case atStart => exact ⟨0, by omega, rfl, by simpa using Sc.timesOk_nil, hbt⟩
  case round =>
    clear hbt
    obtain ⟨j, hj, rfl, htm, hbt⟩ := hrel
    by_cases hjn : j < n
    · have hjl : j < l.length := by rw [hl.out]; exact hjn
      have h9 := h0.below Sc.lasts_Slo hbt
      obtain ⟨ad, r, rfl, hab, hr1, hR, hcell⟩ := h9.at_ (by omega) hjn hjl
      obtain ⟨rfl, _, okd, okh⟩ := hR
      have x1 := cell_sub (j := 0) (hcell 1 (.int .i64 l[j].day) rfl)
      have x2 := cell_sub (j := 1) (hcell 2 (.int .i64 l[j].hour) rfl)
      have d1 : decide ((j : Int) < (n : Int)) = true := by simp; omega
      have d1' : decide (j < n) = true := by simp; omega
      clear hcell hr1
      have HB := Lib.hid (fun h => Sc.timesOk_bad hjl h)
      have HTW : ∀ k, (hk : k < j) → Hid ((l[k]'(by omega)).day = l[j].day → (l[k]'(by omega)).hour = l[j].hour → ¬ Sc.timesOk l) := fun k hk a b => Sc.time_twice hjl hk a b
      have HST := Lib.hid (Sc.timesOk_step hjl)
      obtain ⟨zd, hzd⟩ : ∃ zd, l[j].day = zd := ⟨_, rfl⟩
      obtain ⟨zh, hzh⟩ : ∃ zh, l[j].hour = zh := ⟨_, rfl⟩
      unfold Sc.within at HB HST
      rw [hzd] at x1 HB HTW HST okd
      rw [hzh] at x2 HB HTW HST okh
      have HD := Lib.hid hzd
      have HH := Lib.hid hzh
      clear hzd hzh
      by_cases q1 : 0 ≤ zd
      · have e1 : decide (zd < 0) = false := by simp; omega
        by_cases q2 : zd ≤ 6
        · have e2 : decide (6 < zd) = false := by simp; omega
          by_cases q3 : 0 ≤ zh
          · have e3 : decide (zh < 0) = false := by simp; omega
            by_cases q4 : zh ≤ 11
            · have e4 : decide (11 < zh) = false := by simp; omega
              clear HB
              go_wp2_with fail
              have hbt1 := hbt
              have y1 := x1
              have y2 := x2
              clear x1 x2 hbt
              go_loopw [4] (fun kv wq => ∃ k : Nat, k ≤ j ∧ kv = .int .i64 k ∧ (zd, zh) ∉ (l.take k).map (fun x => (x.day, x.hour)) ∧ Below w.heap.size w wq) (fun kv _ => j - (intOf kv).toNat)
              case atStart => exact ⟨0, by omega, rfl, by simp, hbt1⟩
              case round =>
                clear hbt1 y1 y2
                obtain ⟨k, hk, rfl, hni, hbt⟩ := hrel
                by_cases hkj : k < j
                · have hkl : k < l.length := by omega
                  have h9 := h0.below Sc.lasts_Slo hbt
                  obtain ⟨_, r, e0, _, hr1, hR, hcell⟩ := h9.at_ (by omega) (show k < n by omega) hkl
                  cases e0
                  obtain ⟨rfl, _, okd', okh'⟩ := hR
                  have x1 := cell_sub (j := 0) (hcell 1 (.int .i64 l[k].day) rfl)
                  have x2 := cell_sub (j := 1) (hcell 2 (.int .i64 l[k].hour) rfl)
                  clear hcell hr1
                  obtain ⟨_, r, e0, _, hr1, hR, hcell⟩ := h9.at_ (by omega) hjn hjl
                  cases e0
                  obtain ⟨rfl, _, _, _⟩ := hR
                  have y1 := cell_sub (j := 0) (hcell 1 (.int .i64 l[j].day) rfl)
                  have y2 := cell_sub (j := 1) (hcell 2 (.int .i64 l[j].hour) rfl)
                  clear hcell hr1 h9
                  rw [HD.out] at y1
                  rw [HH.out] at y2
                  have d2 : decide ((k : Int) < (j : Int)) = true := by simp; omega
                  have d2' : decide (k < j) = true := by simp; omega
                  have HTK := HTW k hkj
                  have HNI := Lib.hid (fun hh => Sc.time_step (p := (zd, zh)) hkl hni hh)
                  clear HTW
                  obtain ⟨kd, hkd⟩ : ∃ kd, l[k].day = kd := ⟨_, rfl⟩
                  obtain ⟨kh, hkh⟩ : ∃ kh, l[k].hour = kh := ⟨_, rfl⟩
                  rw [hkd] at x1 HTK HNI okd'
                  rw [hkh] at x2 HTK HNI okh'
                  clear hkd hkh HD HH
                  by_cases q5 : kd = zd
                  · have HQ1 := Lib.hid q5
                    clear q5
                    have e5 : (kd == zd) = true := by simp; exact HQ1.out
                    by_cases q6 : kh = zh
                    · have HQ2 := Lib.hid q6
                      clear q6
                      have e6 : (kh == zh) = true := by simp; exact HQ2.out
                      go_wp2_with fail
                      go_quiet (fail)
                      replace hbt := below_drewN' hbt nq
                      go_wp2_with fail
                      go_ret
                      exact ⟨_, rfl, ⟨(fun hh => by cases hh), fun hh => absurd hh.1 (HTK.out HQ1.out HQ2.out)⟩, hbt⟩
                    · have e6 : (kh == zh) = false := by simp; omega
                      go_wp2_with fail
                      go_quiet (fail)
                      replace hbt := below_drewN' hbt nq
                      go_wp2_with fail
                      go_roundw
                      case rel => exact ⟨k + 1, by omega, by go_num, HNI.out (fun hh => q6 hh.2), hbt⟩
                      case measure => simp [intOf]; omega
                  · have e5 : (kd == zd) = false := by simp; omega
                    go_wp2_with fail
                    go_quiet (fail)
                    replace hbt := below_drewN' hbt nq
                    go_wp2_with fail
                    go_roundw
                    case rel => exact ⟨k + 1, by omega, by go_num, HNI.out (by exact fun hh => q5 hh.1), hbt⟩
                    case measure => simp [intOf]; omega
                · obtain rfl : k = j := by omega
                  have d2 : decide ((k : Int) < (k : Int)) = false := by simp
                  have d2' : decide (k < k) = false := by simp
                  have HO : Hid (Sc.timesOk (l.take (k + 1))) := HST.out.2 ⟨htm, ⟨q1, q2⟩, ⟨q3, q4⟩, hni⟩
                  clear HST HTW HD HH hni htm
                  go_wp2_with fail
                  go_roundw
                  case rel => exact ⟨k + 1, by omega, by go_num, HO.out, hbt⟩
                  case measure => simp [intOf]; omega
            · have e4 : decide (11 < zh) = true := by simp; omega
              go_wp2_with fail
              go_ret
              exact ⟨_, rfl, ⟨(fun hh => by cases hh), fun hh => absurd hh.1 (HB.out (by omega))⟩, hbt⟩
          · have e3 : decide (zh < 0) = true := by simp; omega
            go_wp2_with fail
            go_ret
            exact ⟨_, rfl, ⟨(fun hh => by cases hh), fun hh => absurd hh.1 (HB.out (by omega))⟩, hbt⟩
        · have e2 : decide (6 < zd) = true := by simp; omega
          go_wp2_with fail
          go_ret
          exact ⟨_, rfl, ⟨(fun hh => by cases hh), fun hh => absurd hh.1 (HB.out (by omega))⟩, hbt⟩
      · have e1 : decide (zd < 0) = true := by simp; omega
        go_wp2_with fail
        go_ret
        exact ⟨_, rfl, ⟨(fun hh => by cases hh), fun hh => absurd hh.1 (HB.out (by omega))⟩, hbt⟩
    · obtain rfl : j = n := by omega
      have d1 : decide ((j : Int) < (j : Int)) = false := by simp
      have d1' : decide (j < j) = false := by simp
      have HE : Hid (Sc.timesOk l) := by rw [List.take_of_length_le (by rw [hl.out]; omega)] at htm; exact htm
      clear htm
      by_cases hp : 0 < j
      · have e1 : decide ((0 : Int) < (j : Int)) = true := by simp; omega
        have e1' : decide (0 < j) = true := by simp; omega
        go_wp2_with fail
        go_ret
        exact ⟨_, rfl, ⟨fun _ => ⟨HE.out, fun e => by have := hl.out; rw [e] at this; simp at this; omega⟩, fun _ => rfl⟩, hbt⟩
      · have e1 : decide ((0 : Int) < (j : Int)) = false := by simp; omega
        have e1' : decide (0 < j) = false := by simp; omega
        go_wp2_with fail
        go_ret
        exact ⟨_, rfl, ⟨(fun hh => by cases hh), fun hh => absurd (List.eq_nil_of_length_eq_zero (by rw [hl.out]; omega)) hh.2⟩, hbt⟩

end Go.Proofs.YtojbjaklngdlcaaGreatDoor
