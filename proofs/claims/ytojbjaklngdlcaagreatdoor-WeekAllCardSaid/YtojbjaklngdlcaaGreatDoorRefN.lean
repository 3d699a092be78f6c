/-
  The walk of the reference's named.
-/
import Derived.Test.YtojbjaklngdlcaaGreatDoorRefW
import Derived.Test.YtojbjaklngdlcaaGreatDoorNamesW
namespace Go.Proofs.YtojbjaklngdlcaaGreatDoor
open Go.RowKit Go.Shelf
set_option linter.unusedVariables false
set_option linter.unusedSimpArgs false

set_option maxRecDepth 100000 in
set_option maxHeartbeats 4000000 in
theorem rNames_ok (A : Option Addr) (n c : Nat) (l : List (List UInt8)) (w : World) (h : RdT w w.heap.size A n c l) (hs : ∀ x ∈ l, Sc.okT x) :
    Calls Tryz.prog 83 #[.slice A n c] w (Tells (Sc.namesOk l) w) := by
  have h1 := h.max
  have h2 := h.le
  have hl := Lib.hid h.len
  have hbt := Below.refl w.heap.size w
  have h0 := h
  have HOK := Lib.hid hs
  clear h hs
  go_enter Tryz.func83, Tryz.ntmps83
  go_wp2_with fail
  go_loopw [3, 4] (fun iv _ wr => ∃ j : Nat, j ≤ n ∧ iv = .int .i64 j ∧ Sc.namesOk (l.take j) ∧ Below w.heap.size w wr) (fun iv _ _ => n - (intOf iv).toNat)
  case atStart => exact ⟨0, by omega, rfl, by simpa using Sc.namesOk_nil, hbt⟩
  case round =>
    clear hbt
    obtain ⟨j, hj, rfl, htm, hbt⟩ := hrel
    by_cases hjn : j < n
    · have hjl : j < l.length := by rw [hl.out]; exact hjn
      have h9 := h0.below hbt
      obtain ⟨ad, rfl, hab, x0⟩ := h9.at_ hjn hjl
      have d1 : decide ((j : Int) < (n : Int)) = true := by simp; omega
      have d1' : decide (j < n) = true := by simp; omega
      have HB := Lib.hid (fun h => Sc.namesOk_bad hjl h)
      have HTW : ∀ k, (hk : k < j) → Hid ((l[k]'(by omega)) = l[j] → ¬ Sc.namesOk l) := fun k hk a => Sc.namesOk_twice hjl hk a
      have HST := Lib.hid (Sc.namesOk_step hjl)
      have HK : Hid (Sc.okT l[j]) := HOK.out _ (List.getElem_mem hjl)
      obtain ⟨z, hz⟩ : ∃ z, l[j] = z := ⟨_, rfl⟩
      rw [hz] at x0 HB HTW HST HK
      have HZ := Lib.hid hz
      clear hz
      go_wp2_with fail
      refine (rNamed_any z wr HK.out).mono ?_
      rintro e w2 ⟨b, rfl, hb, rfl⟩
      cases b
      · have HO : Hid (¬ Sc.namesOk l) := HB.out (fun hh => by have := hb.2 hh.1; cases this)
        clear hb HB HTW HST
        go_wp2_with fail
        go_ret
        exact ⟨_, rfl, ⟨(fun hh => by cases hh), fun hh => absurd hh HO.out⟩, hbt⟩
      · have HNM : Hid (Sc.nameOk z) := hb.1 rfl
        clear hb HB
        go_wp2_with fail
        have hbt1 := hbt
        clear x0 hbt h9
        go_loopw [4] (fun kv wq => ∃ k : Nat, k ≤ j ∧ kv = .int .i64 k ∧ z ∉ l.take k ∧ Below w.heap.size w wq) (fun kv _ => j - (intOf kv).toNat)
        case atStart => exact ⟨0, by omega, rfl, by simp, hbt1⟩
        case round =>
          clear hbt1
          obtain ⟨k, hk, rfl, hni, hbt⟩ := hrel
          by_cases hkj : k < j
          · have hkl : k < l.length := by omega
            have h9 := h0.below hbt
            obtain ⟨_, e0, _, x0⟩ := h9.at_ (show k < n by omega) hkl
            cases e0
            obtain ⟨_, e0, _, y0⟩ := h9.at_ hjn hjl
            cases e0
            clear h9
            rw [HZ.out] at y0
            have d2 : decide ((k : Int) < (j : Int)) = true := by simp; omega
            have d2' : decide (k < j) = true := by simp; omega
            have HTK := HTW k hkj
            have HNI := Lib.hid (fun hh => Sc.notin_step (x := z) hkl hni hh)
            clear HTW
            obtain ⟨y, hy⟩ : ∃ y, l[k] = y := ⟨_, rfl⟩
            rw [hy] at x0 HTK HNI
            clear hy HZ
            have HEQ := Lib.hid (str_beq y z)
            by_cases q5 : y = z
            · have HQ := Lib.hid q5
              clear q5
              have e5 : ((strOf y).toList == (strOf z).toList) = true := by rw [HEQ.out]; exact decide_eq_true HQ.out
              clear HEQ
              go_wp2_with fail
              go_quiet (fail)
              replace hbt := below_drewN' hbt nq
              go_wp2_with fail
              go_ret
              exact ⟨_, rfl, ⟨(fun hh => by cases hh), fun hh => absurd hh (HTK.out HQ.out)⟩, hbt⟩
            · have e5 : ((strOf y).toList == (strOf z).toList) = false := by rw [HEQ.out]; exact decide_eq_false q5
              clear HEQ
              go_wp2_with fail
              go_quiet (fail)
              replace hbt := below_drewN' hbt nq
              go_wp2_with fail
              go_roundw
              case rel => exact ⟨k + 1, by omega, by go_num, HNI.out q5, hbt⟩
              case measure => simp [intOf]; omega
          · obtain rfl : k = j := by omega
            have d2 : decide ((k : Int) < (k : Int)) = false := by simp
            have d2' : decide (k < k) = false := by simp
            have HO : Hid (Sc.namesOk (l.take (k + 1))) := HST.out.2 ⟨htm, HNM.out, hni⟩
            clear HST HTW HZ hni htm
            go_wp2_with fail
            go_roundw
            case rel => exact ⟨k + 1, by omega, by go_num, HO.out, hbt⟩
            case measure => simp [intOf]; omega
    · obtain rfl : j = n := by omega
      have d1 : decide ((j : Int) < (j : Int)) = false := by simp
      have d1' : decide (j < j) = false := by simp
      have HE : Hid (Sc.namesOk l) := by rw [List.take_of_length_le (by rw [hl.out]; omega)] at htm; exact htm
      clear htm
      go_wp2_with fail
      go_ret
      exact ⟨_, rfl, ⟨fun _ => HE.out, fun _ => rfl⟩, hbt⟩

end Go.Proofs.YtojbjaklngdlcaaGreatDoor
