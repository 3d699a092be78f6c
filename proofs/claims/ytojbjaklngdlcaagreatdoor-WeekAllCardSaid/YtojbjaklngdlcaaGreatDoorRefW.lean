/-
  The walks of the reference's stands and Named.
-/
import Derived.Test.YtojbjaklngdlcaaGreatDoorRefP
import Derived.Test.YtojbjaklngdlcaaGreatDoorSchR
import Derived.Test.YtojbjaklngdlcaaGreatDoorNamedW
import Derived.BigQuiet
namespace Go.Proofs.YtojbjaklngdlcaaGreatDoor
open Go.RowKit Go.Shelf
set_option linter.unusedVariables false
set_option linter.unusedSimpArgs false

theorem extract_str (l : List UInt8) (i n : Nat) : (strOf l).extract i (i + n) = strOf ((l.drop i).take n) := by
  apply ByteArray.ext
  simp [strOf, ByteArray.data_extract, List.take_drop]
theorem str_beq (l r : List UInt8) : ((strOf l).toList == (strOf r).toList) = decide (l = r) := by
  rw [← beq_toListBytes]
  show (l.toArray == r.toArray) = decide (l = r)
  rw [Bool.eq_iff_iff, beq_iff_eq, decide_eq_true_iff]
  constructor
  · intro h; exact congrArg Array.toList h
  · intro h; rw [h]
theorem slice_eq (l x : List UInt8) (i : Nat) : (((strOf l).extract i (i + x.length)).toList == (strOf x).toList) = decide ((l.drop i).take x.length = x) := by
  rw [extract_str, str_beq]

set_option maxRecDepth 100000 in
set_option maxHeartbeats 4000000 in
theorem rStands_any (l x : List UInt8) (w : World) (hl : l.length ≤ 1099511627776) (hx : x.length ≤ 1099511627776) :
    Calls Tryz.prog 95 #[.string (strOf l), .string (strOf x)] w (TellsQ (Sc.standsIn l x) w) := by
  have HL := Lib.hid (strOf_size l)
  have HX := Lib.hid (strOf_size x)
  have HE : ∀ i : Nat, Hid ((((strOf l).extract i (i + (strOf x).size)).toList == (strOf x).toList) = decide ((l.drop i).take x.length = x)) := fun i => slice_eq l x i
  have sL : (strOf l).size ≤ 1099511627776 := hl
  have sX : (strOf x).size ≤ 1099511627776 := hx
  generalize strOf l = L at *
  generalize strOf x = X at *
  go_enter Tryz.func95, Tryz.ntmps95
  go_wp2_with fail
  go_loop [5] (fun iv => ∃ j : Nat, j ≤ l.length + 1 ∧ iv = .int .i64 j ∧ Sc.clear l x j) (fun iv => l.length + 1 - (intOf iv).toNat)
  case atStart => exact ⟨0, by omega, rfl, Sc.clear_zero l x⟩
  case round =>
    obtain ⟨j, hj, rfl, hcl⟩ := hrel
    by_cases hjn : j + x.length ≤ l.length
    · have d1 : decide ((j : Int) + (X.size : Int) ≤ (L.size : Int)) = true := by rw [HL.out, HX.out]; simp; omega
      have hjX : j + X.size ≤ L.size := by rw [HL.out, HX.out]; exact hjn
      have hsl : ∀ wx, (Instr.slice 9 (.string L) (some (.int .i64 (j : Int))) (some (.int .i64 ((j : Int) + (X.size : Int)))) none).run Tryz.prog wx = .ok (.string (L.extract j (j + X.size))) wx := fun wx => run_slice_string (P := Tryz.prog) wx 9 L .i64 .i64 j ((j : Int) + (X.size : Int)) Tryz.underlying9 (by omega) (by omega) (by omega)
      by_cases hs : (l.drop j).take x.length = x
      · have d2 : ((L.extract j (j + X.size)).toList == X.toList) = true := by rw [(HE j).out]; exact decide_eq_true hs
        clear HE
        go_wp2_with fail
        go_ret
        exact ⟨_, rfl, ⟨fun _ => Sc.stands_yes hjn hs, fun _ => rfl⟩, rfl⟩
      · have d2 : ((L.extract j (j + X.size)).toList == X.toList) = false := by rw [(HE j).out]; exact decide_eq_false hs
        clear HE
        go_wp2_with fail
        go_round
        case rel => exact ⟨j + 1, by omega, by go_num, Sc.clear_step hcl hs⟩
        case measure => simp [intOf]; omega
    · have d1 : decide ((j : Int) + (X.size : Int) ≤ (L.size : Int)) = false := by rw [HL.out, HX.out]; simp; omega
      have hjX : L.size < j + X.size := by rw [HL.out, HX.out]; omega
      clear HE
      go_wp2_with fail
      go_ret
      exact ⟨_, rfl, ⟨(fun h => by cases h), fun h => absurd h (Sc.stands_no hcl (by omega))⟩, rfl⟩

/-- What the reference asks of a byte, with the walk's numbers. -/
theorem byte_iff (c : UInt8) (j : Nat) : (Sc.inner c = true ∧ (j = 0 → 97 ≤ c.toNat)) ↔ ((97 ≤ c.toNat ∧ c.toNat ≤ 122) ∨ (j ≠ 0 ∧ ((48 ≤ c.toNat ∧ c.toNat ≤ 57) ∨ c.toNat = 95))) := by
  unfold Sc.inner
  simp only [Bool.or_eq_true, Bool.and_eq_true, decide_eq_true_eq]
  omega
theorem str_at (s : List UInt8) (j : Nat) (h : j < s.length) : (strOf s)[j]'h = s[j] := rfl

set_option maxRecDepth 100000 in
set_option maxHeartbeats 4000000 in
theorem rNamed_any (s : List UInt8) (w : World) (hs : s.length ≤ 9223372036854775807) :
    Calls Tryz.prog 91 #[.string (strOf s)] w (TellsQ (Sc.nameOk s) w) := by
  obtain ⟨L, hL⟩ : ∃ L, L = strOf s := ⟨_, rfl⟩
  rw [← hL]
  have HL : Hid (L.size = s.length) := by subst hL; exact strOf_size s
  have HA : Hid (∀ (j : Nat) (h : j < s.length) (h' : j < L.size), L[j]'h' = s[j]) := by subst hL; exact fun j h h' => str_at s j h
  have HC : Hid ((⟨#[32]⟩ : ByteArray) ++ L ++ ⟨#[32]⟩ = strOf (32 :: (s ++ [32]))) := by subst hL; exact cat_eq s
  have HS : ∀ W, s.length ≤ 64 → Hid (Calls Tryz.prog 95 #[.string (strOf Sc.reserved), .string (strOf (32 :: (s ++ [32])))] W (TellsQ (Sc.standsIn Sc.reserved (32 :: (s ++ [32]))) W)) := fun W hh => rStands_any _ _ W (by decide) (by simp; omega)
  have HR := Lib.hid res_eq
  have HN := Lib.hid (Sc.nameOk_iff s)
  have sL : L.size ≤ 9223372036854775807 := by subst hL; exact hs
  clear hL
  go_enter Tryz.func91, Tryz.ntmps91
  go_wp2_with fail
  go_loop [3, 4, 5] (fun iv _ _ => ∃ j : Nat, j ≤ s.length ∧ iv = .int .i64 j ∧ Sc.okAt s j) (fun iv _ _ => s.length - (intOf iv).toNat)
  case atStart => exact ⟨0, by omega, rfl, Sc.okAt_zero s⟩
  case round =>
    obtain ⟨j, hj, rfl, hok⟩ := hrel
    rename_i v4 v5
    by_cases hjn : j < s.length
    · have hjL : j < L.size := by rw [HL.out]; exact hjn
      have d1 : decide ((j : Int) < (L.size : Int)) = true := by simp; omega
      have d1' : decide (j < L.size) = true := by simp; omega
      have HST := Lib.hid (Sc.okAt_step hjn)
      have HBD := Lib.hid (fun h => Sc.nameOk_bad hjn h)
      have HI := Lib.hid (byte_iff s[j] j)
      have HAJ : Hid (L[j]'hjL = s[j]) := HA.out j hjn hjL
      generalize s[j] = c at *
      clear HA
      obtain ⟨n, hn⟩ : ∃ n, n = c.toNat := ⟨_, rfl⟩
      have HNC : Hid ((L[j]'hjL).toNat = n) := by show _ = _; rw [HAJ.out, hn]
      rw [← hn] at HI HST HBD
      have hnl : n < 256 := by rw [hn]; exact c.toNat_lt
      clear hn
      by_cases h97 : 97 ≤ n
      · have e1 : decide ((97 : Int) ≤ ((L[j]'hjL).toNat : Int)) = true := by rw [HNC.out]; simp; omega
        by_cases h122 : n ≤ 122
        · have e2 : decide (((L[j]'hjL).toNat : Int) ≤ (122 : Int)) = true := by rw [HNC.out]; simp; omega
          have HB := (HI.out).2 (by omega)
          have HO : Hid (Sc.okAt s (j + 1)) := HST.out.2 ⟨hok, HB⟩
          clear HB HBD HI HST HC HS HR HN HNC HAJ hnl
          go_wp2_with fail
          go_round
          case rel => exact ⟨j + 1, by omega, by go_num, HO.out⟩
          case measure => simp [intOf]; omega
        · have e2 : decide (((L[j]'hjL).toNat : Int) ≤ (122 : Int)) = false := by rw [HNC.out]; simp; omega
          by_cases hz : j = 0
          · have e4 : ((j : Int) == 0) = true := by simp; omega
            have HZ := Lib.hid hz
            clear hz
            have hz := HZ.out
            have HB := fun hh => (show ¬ _ by omega) ((HI.out).1 hh)
            have HO : Hid (¬ Sc.nameOk s) := HBD.out HB
            clear HB HBD HI HST HC HS HR HN HNC HAJ hnl hz
            go_wp2_with fail
            go_ret
            exact ⟨_, rfl, ⟨(fun h => by cases h), fun h => absurd h HO.out⟩, rfl⟩
          · have e4 : ((j : Int) == 0) = false := by simp; omega
            have e5 : decide ((48 : Int) ≤ ((L[j]'hjL).toNat : Int)) = true := by rw [HNC.out]; simp; omega
            have e6 : decide (((L[j]'hjL).toNat : Int) ≤ (57 : Int)) = false := by rw [HNC.out]; simp; omega
            have e7 : (((L[j]'hjL).toNat : Int) == (95 : Int)) = false := by rw [HNC.out]; simp; omega
            have HB := fun hh => (show ¬ _ by omega) ((HI.out).1 hh)
            have HO : Hid (¬ Sc.nameOk s) := HBD.out HB
            clear HB HBD HI HST HC HS HR HN HNC HAJ hnl
            go_wp2_with fail
            go_ret
            exact ⟨_, rfl, ⟨(fun h => by cases h), fun h => absurd h HO.out⟩, rfl⟩
      · have e1 : decide ((97 : Int) ≤ ((L[j]'hjL).toNat : Int)) = false := by rw [HNC.out]; simp; omega
        by_cases hz : j = 0
        · have e4 : ((j : Int) == 0) = true := by simp; omega
          have HZ := Lib.hid hz
          clear hz
          have hz := HZ.out
          have HB := fun hh => (show ¬ _ by omega) ((HI.out).1 hh)
          have HO : Hid (¬ Sc.nameOk s) := HBD.out HB
          clear HB HBD HI HST HC HS HR HN HNC HAJ hnl hz
          go_wp2_with fail
          go_ret
          exact ⟨_, rfl, ⟨(fun h => by cases h), fun h => absurd h HO.out⟩, rfl⟩
        · have e4 : ((j : Int) == 0) = false := by simp; omega
          by_cases h48 : 48 ≤ n
          · have e5 : decide ((48 : Int) ≤ ((L[j]'hjL).toNat : Int)) = true := by rw [HNC.out]; simp; omega
            by_cases h57 : n ≤ 57
            · have e6 : decide (((L[j]'hjL).toNat : Int) ≤ (57 : Int)) = true := by rw [HNC.out]; simp; omega
              have HB := (HI.out).2 (by omega)
              have HO : Hid (Sc.okAt s (j + 1)) := HST.out.2 ⟨hok, HB⟩
              clear HB HBD HI HST HC HS HR HN HNC HAJ hnl
              go_wp2_with fail
              go_round
              case rel => exact ⟨j + 1, by omega, by go_num, HO.out⟩
              case measure => simp [intOf]; omega
            · have e6 : decide (((L[j]'hjL).toNat : Int) ≤ (57 : Int)) = false := by rw [HNC.out]; simp; omega
              by_cases h95 : n = 95
              · have e7 : (((L[j]'hjL).toNat : Int) == (95 : Int)) = true := by rw [HNC.out]; simp; omega
                have HB := (HI.out).2 (by omega)
                have HO : Hid (Sc.okAt s (j + 1)) := HST.out.2 ⟨hok, HB⟩
                clear HB HBD HI HST HC HS HR HN HNC HAJ hnl
                go_wp2_with fail
                go_round
                case rel => exact ⟨j + 1, by omega, by go_num, HO.out⟩
                case measure => simp [intOf]; omega
              · have e7 : (((L[j]'hjL).toNat : Int) == (95 : Int)) = false := by rw [HNC.out]; simp; omega
                have HB := fun hh => (show ¬ _ by omega) ((HI.out).1 hh)
                have HO : Hid (¬ Sc.nameOk s) := HBD.out HB
                clear HB HBD HI HST HC HS HR HN HNC HAJ hnl
                go_wp2_with fail
                go_ret
                exact ⟨_, rfl, ⟨(fun h => by cases h), fun h => absurd h HO.out⟩, rfl⟩
          · have e5 : decide ((48 : Int) ≤ ((L[j]'hjL).toNat : Int)) = false := by rw [HNC.out]; simp; omega
            have e7 : (((L[j]'hjL).toNat : Int) == (95 : Int)) = false := by rw [HNC.out]; simp; omega
            have HB := fun hh => (show ¬ _ by omega) ((HI.out).1 hh)
            have HO : Hid (¬ Sc.nameOk s) := HBD.out HB
            clear HB HBD HI HST HC HS HR HN HNC HAJ hnl
            go_wp2_with fail
            go_ret
            exact ⟨_, rfl, ⟨(fun h => by cases h), fun h => absurd h HO.out⟩, rfl⟩
    · obtain rfl : j = s.length := by omega
      have HLZ := Lib.hid HL.out
      have d1 : decide ((s.length : Int) < (L.size : Int)) = false := by rw [HLZ.out]; simp
      have d1' : decide (s.length < L.size) = false := by rw [HLZ.out]; simp
      clear HA
      by_cases h1 : 1 ≤ s.length
      · have e1 : decide ((1 : Int) ≤ (L.size : Int)) = true := by rw [HLZ.out]; simp; omega
        by_cases h64 : s.length ≤ 64
        · have e2 : decide ((L.size : Int) ≤ 64) = true := by rw [HLZ.out]; simp; omega
          have sz : L.size ≤ 64 := by rw [HLZ.out]; exact h64
          go_wp2_with fail
          rw [HC.out]
          clear HR
          refine (HS _ h64).out.mono ?_
          rintro e w2 ⟨b, rfl, hb, rfl⟩
          clear HS HC
          cases b
          · go_wp2_with fail
            go_ret
            refine ⟨_, rfl, ?_, rfl⟩
            rw [HN.out]
            simp at hb ⊢
            exact ⟨hok, h1, h64, hb⟩
          · go_wp2_with fail
            go_ret
            refine ⟨_, rfl, ?_, rfl⟩
            rw [HN.out]
            simp at hb ⊢
            exact fun _ _ _ => hb
        · have e2 : decide ((L.size : Int) ≤ 64) = false := by rw [HLZ.out]; simp; omega
          go_wp2_with fail
          go_ret
          exact ⟨_, rfl, ⟨(fun h => by cases h), fun h => by have := HN.out.1 h; omega⟩, rfl⟩
      · have e1 : decide ((1 : Int) ≤ (L.size : Int)) = false := by rw [HLZ.out]; simp; omega
        go_wp2_with fail
        go_ret
        exact ⟨_, rfl, ⟨(fun h => by cases h), fun h => by have := HN.out.1 h; omega⟩, rfl⟩

end Go.Proofs.YtojbjaklngdlcaaGreatDoor
