/-
  Words that the walks share: RefP, RefW, RefI, RefT, NamesW, RefN.
-/
import Derived.Test.YtfockoihmoljfaaGreatDoorLotS
import Derived.Test.YtfockoihmoljfaaGreatDoorLotA
import Derived.Test.YtfockoihmoljfaaGreatDoorLotN
import Derived.BigQuiet
/-
  The reference's look at a school, step by step; no program in sight.
-/
namespace Go.Proofs.YtfockoihmoljfaaGreatDoor.Sc
set_option linter.unusedVariables false

theorem toNat_le_iff (c : UInt8) (k : Nat) : True := trivial
/-- The text x doesn't stand in l before j. -/
def clear (l x : List UInt8) (j : Nat) : Prop := ∀ q, q < j → q + x.length ≤ l.length → (l.drop q).take x.length ≠ x
theorem clear_zero (l x : List UInt8) : clear l x 0 := fun q h => by omega
theorem clear_step {l x : List UInt8} {j : Nat} (h : clear l x j) (hj : (l.drop j).take x.length ≠ x) : clear l x (j + 1) := fun q h1 h2 => by
  by_cases e : q = j
  · subst e; exact hj
  · exact h q (by omega) h2
theorem stands_yes {l x : List UInt8} {j : Nat} (hj : j + x.length ≤ l.length) (h : (l.drop j).take x.length = x) : standsIn l x := ⟨j, hj, h⟩
theorem stands_no {l x : List UInt8} {j : Nat} (h : clear l x j) (hj : l.length < j + x.length) : ¬ standsIn l x := fun ⟨i, h1, h2⟩ => h i (by omega) h1 h2

/-- What the reference asks of the byte at q. -/
def okAt (s : List UInt8) (j : Nat) : Prop := ∀ q, (h : q < s.length) → q < j → inner s[q] = true ∧ (q = 0 → 97 ≤ (s[q]).toNat)
theorem okAt_zero (s : List UInt8) : okAt s 0 := fun q _ h => by omega
theorem okAt_step {s : List UInt8} {j : Nat} (hj : j < s.length) : okAt s (j + 1) ↔ okAt s j ∧ inner s[j] = true ∧ (j = 0 → 97 ≤ (s[j]).toNat) := by
  constructor
  · intro h
    exact ⟨fun q hq hl => h q hq (by omega), h j hj (by omega)⟩
  · rintro ⟨h1, h2⟩ q hq hl
    by_cases e : q = j
    · subst e; exact h2
    · exact h1 q hq (by omega)
theorem nameOk_iff (s : List UInt8) : nameOk s ↔ okAt s s.length ∧ 1 ≤ s.length ∧ s.length ≤ 64 ∧ ¬ standsIn reserved (32 :: (s ++ [32])) := by
  unfold nameOk
  constructor
  · rintro ⟨⟨c, r, rfl, hc⟩, h2, h3, h4⟩
    refine ⟨fun q hq _ => ⟨h3 _ (List.getElem_mem hq), ?_⟩, by simp, h2, h4⟩
    rintro rfl
    exact hc
  · rintro ⟨h1, h2, h3, h4⟩
    refine ⟨?_, h3, fun c hc => ?_, h4⟩
    · cases s with
      | nil => simp at h2
      | cons c r => exact ⟨c, r, rfl, (h1 0 (by simp) (by simp)).2 rfl⟩
    · obtain ⟨i, hi, rfl⟩ := List.getElem_of_mem hc
      exact (h1 i hi hi).1
theorem nameOk_bad {s : List UInt8} {j : Nat} (hj : j < s.length) (h : ¬ (inner s[j] = true ∧ (j = 0 → 97 ≤ (s[j]).toNat))) : ¬ nameOk s := fun hn => h (((nameOk_iff s).1 hn).1 j hj hj)

/-- Names up to j, none of them like an earlier one. -/
theorem namesOk_nil : namesOk [] := ⟨by simp, List.nodup_nil⟩
theorem namesOk_bad {l : List (List UInt8)} {i : Nat} (hi : i < l.length) (h : ¬ (nameOk l[i] ∧ l[i] ∉ l.take i)) : ¬ namesOk l := fun hh => by
  have := namesOk_take hh (i + 1)
  rw [namesOk_step hi] at this
  exact h this.2
theorem namesOk_twice {l : List (List UInt8)} {i k : Nat} (hi : i < l.length) (hk : k < i) (h : l[k]'(by omega) = l[i]) : ¬ namesOk l := namesOk_bad hi (fun hh => hh.2 (by
  rw [← h]
  exact List.mem_take_iff_getElem.2 ⟨k, by omega, rfl⟩))
theorem notin_zero {α : Type} (l : List α) (x : α) : x ∉ l.take 0 := by simp
theorem notin_step {α : Type} {l : List α} {x : α} {k : Nat} (hk : k < l.length) (h : x ∉ l.take k) (hx : l[k] ≠ x) : x ∉ l.take (k + 1) := by
  rw [List.take_succ_eq_append_getElem hk]
  intro hh
  rcases List.mem_append.1 hh with h1 | h1
  · exact h h1
  · rw [List.mem_singleton] at h1; exact hx h1.symm
theorem timesOk_nil : timesOk [] := ⟨by simp, by simp⟩
theorem timesOk_bad {l : List Slo} {i : Nat} (hi : i < l.length) (h : ¬ (within l[i].day 6 ∧ within l[i].hour 11 ∧ (l[i].day, l[i].hour) ∉ (l.take i).map fun x => (x.day, x.hour))) : ¬ timesOk l := fun hh => by
  have := timesOk_take hh (i + 1)
  rw [timesOk_step hi] at this
  exact h this.2
theorem time_twice {l : List Slo} {i k : Nat} (hi : i < l.length) (hk : k < i) (h1 : (l[k]'(by omega)).day = l[i].day) (h2 : (l[k]'(by omega)).hour = l[i].hour) : ¬ timesOk l := timesOk_bad hi (fun hh => hh.2.2 (by
  rw [List.mem_map]
  exact ⟨l[k]'(by omega), List.mem_take_iff_getElem.2 ⟨k, by omega, rfl⟩, by rw [h1, h2]⟩))
theorem time_step {l : List Slo} {p : Int × Int} {k : Nat} (hk : k < l.length) (h : p ∉ (l.take k).map fun x => (x.day, x.hour)) (hx : ¬ (l[k].day = p.1 ∧ l[k].hour = p.2)) : p ∉ (l.take (k + 1)).map fun x => (x.day, x.hour) := by
  rw [List.take_succ_eq_append_getElem hk, List.map_append]
  intro hh
  rcases List.mem_append.1 hh with h1 | h1
  · exact h h1
  · simp at h1
    exact hx ⟨by rw [h1], by rw [h1]⟩
/-- In a strictly increasing list the last of the first j is the one before j. -/
theorem last_at {l : List Int} {j : Nat} (hj : 0 < j) (hl : j ≤ l.length) : (l.take j).getLast?.getD (-1) = l[j - 1]'(by omega) := by
  obtain ⟨i, rfl⟩ : ∃ i, j = i + 1 := ⟨j - 1, by omega⟩
  rw [last_step (by omega)]
  simp
end Go.Proofs.YtfockoihmoljfaaGreatDoor.Sc

/-
  The walks of the reference's stands and Named.
-/
namespace Go.Proofs.YtfockoihmoljfaaGreatDoor
open Go.RowKit Go.Shelf
set_option linter.unusedVariables false
set_option linter.unusedSimpArgs false

theorem extract_str (l : List UInt8) (i n : Nat) : (strOf l).extract i (i + n) = strOf ((l.drop i).take n) := by
  apply ByteArray.ext
  simp [strOf, ByteArray.data_extract, List.take_drop]
theorem str_beq (l r : List UInt8) : ((strOf l).toList == (strOf r).toList) = decide (l = r) := by
  rw [← beq_toListBytes]
  show (l.toArray == r.toArray) = decide (l = r)
  rw [Bool.eq_iff_iff, beq_iff_eq, decide_eq_true_iff]
  constructor
  · intro h; exact congrArg Array.toList h
  · intro h; rw [h]
theorem slice_eq (l x : List UInt8) (i : Nat) : (((strOf l).extract i (i + x.length)).toList == (strOf x).toList) = decide ((l.drop i).take x.length = x) := by
  rw [extract_str, str_beq]

set_option maxRecDepth 100000 in
set_option maxHeartbeats 4000000 in
theorem rStands_any (l x : List UInt8) (w : World) (hl : l.length ≤ 1099511627776) (hx : x.length ≤ 1099511627776) :
    Calls Tryz.prog 144 #[.string (strOf l), .string (strOf x)] w (TellsQ (Sc.standsIn l x) w) := by
  have HL := Lib.hid (strOf_size l)
  have HX := Lib.hid (strOf_size x)
  have HE : ∀ i : Nat, Hid ((((strOf l).extract i (i + (strOf x).size)).toList == (strOf x).toList) = decide ((l.drop i).take x.length = x)) := fun i => slice_eq l x i
  have sL : (strOf l).size ≤ 1099511627776 := hl
  have sX : (strOf x).size ≤ 1099511627776 := hx
  generalize strOf l = L at *
  generalize strOf x = X at *
  go_enter Tryz.func144, Tryz.ntmps144
  go_wp2_with fail
  go_loop [5] (fun iv => ∃ j : Nat, j ≤ l.length + 1 ∧ iv = .int .i64 j ∧ Sc.clear l x j) (fun iv => l.length + 1 - (intOf iv).toNat)
  case atStart => exact ⟨0, by omega, rfl, Sc.clear_zero l x⟩
  case round =>
    obtain ⟨j, hj, rfl, hcl⟩ := hrel
    by_cases hjn : j + x.length ≤ l.length
    · have d1 : decide ((j : Int) + (X.size : Int) ≤ (L.size : Int)) = true := by rw [HL.out, HX.out]; simp; omega
      have hjX : j + X.size ≤ L.size := by rw [HL.out, HX.out]; exact hjn
      have hsl : ∀ wx, (Instr.slice 9 (.string L) (some (.int .i64 (j : Int))) (some (.int .i64 ((j : Int) + (X.size : Int)))) none).run Tryz.prog wx = .ok (.string (L.extract j (j + X.size))) wx := fun wx => run_slice_string (P := Tryz.prog) wx 9 L .i64 .i64 j ((j : Int) + (X.size : Int)) Tryz.underlying9 (by omega) (by omega) (by omega)
      by_cases hs : (l.drop j).take x.length = x
      · have d2 : ((L.extract j (j + X.size)).toList == X.toList) = true := by rw [(HE j).out]; exact decide_eq_true hs
        clear HE
        go_wp2_with fail
        go_ret
        exact ⟨_, rfl, ⟨fun _ => Sc.stands_yes hjn hs, fun _ => rfl⟩, rfl⟩
      · have d2 : ((L.extract j (j + X.size)).toList == X.toList) = false := by rw [(HE j).out]; exact decide_eq_false hs
        clear HE
        go_wp2_with fail
        go_round
        case rel => exact ⟨j + 1, by omega, by go_num, Sc.clear_step hcl hs⟩
        case measure => simp [intOf]; omega
    · have d1 : decide ((j : Int) + (X.size : Int) ≤ (L.size : Int)) = false := by rw [HL.out, HX.out]; simp; omega
      have hjX : L.size < j + X.size := by rw [HL.out, HX.out]; omega
      clear HE
      go_wp2_with fail
      go_ret
      exact ⟨_, rfl, ⟨(fun h => by cases h), fun h => absurd h (Sc.stands_no hcl (by omega))⟩, rfl⟩

/-- What the reference asks of a byte, with the walk's numbers. -/
theorem byte_iff (c : UInt8) (j : Nat) : (Sc.inner c = true ∧ (j = 0 → 97 ≤ c.toNat)) ↔ ((97 ≤ c.toNat ∧ c.toNat ≤ 122) ∨ (j ≠ 0 ∧ ((48 ≤ c.toNat ∧ c.toNat ≤ 57) ∨ c.toNat = 95))) := by
  unfold Sc.inner
  simp only [Bool.or_eq_true, Bool.and_eq_true, decide_eq_true_eq]
  omega
theorem str_at (s : List UInt8) (j : Nat) (h : j < s.length) : (strOf s)[j]'h = s[j] := rfl

set_option maxRecDepth 100000 in
set_option maxHeartbeats 4000000 in
theorem rNamed_any (s : List UInt8) (w : World) (hs : s.length ≤ 9223372036854775807) :
    Calls Tryz.prog 131 #[.string (strOf s)] w (TellsQ (Sc.nameOk s) w) := by
  obtain ⟨L, hL⟩ : ∃ L, L = strOf s := ⟨_, rfl⟩
  rw [← hL]
  have HL : Hid (L.size = s.length) := by subst hL; exact strOf_size s
  have HA : Hid (∀ (j : Nat) (h : j < s.length) (h' : j < L.size), L[j]'h' = s[j]) := by subst hL; exact fun j h h' => str_at s j h
  have HC : Hid ((⟨#[32]⟩ : ByteArray) ++ L ++ ⟨#[32]⟩ = strOf (32 :: (s ++ [32]))) := by subst hL; exact cat_eq s
  have HS : ∀ W, s.length ≤ 64 → Hid (Calls Tryz.prog 144 #[.string (strOf Sc.reserved), .string (strOf (32 :: (s ++ [32])))] W (TellsQ (Sc.standsIn Sc.reserved (32 :: (s ++ [32]))) W)) := fun W hh => rStands_any _ _ W (by decide) (by simp; omega)
  have HR := Lib.hid res_eq
  have HN := Lib.hid (Sc.nameOk_iff s)
  have sL : L.size ≤ 9223372036854775807 := by subst hL; exact hs
  clear hL
  go_enter Tryz.func131, Tryz.ntmps131
  go_wp2_with fail
  go_loop [3, 4, 5] (fun iv _ _ => ∃ j : Nat, j ≤ s.length ∧ iv = .int .i64 j ∧ Sc.okAt s j) (fun iv _ _ => s.length - (intOf iv).toNat)
  case atStart => exact ⟨0, by omega, rfl, Sc.okAt_zero s⟩
  case round =>
    obtain ⟨j, hj, rfl, hok⟩ := hrel
    rename_i v4 v5
    by_cases hjn : j < s.length
    · have hjL : j < L.size := by rw [HL.out]; exact hjn
      have d1 : decide ((j : Int) < (L.size : Int)) = true := by simp; omega
      have d1' : decide (j < L.size) = true := by simp; omega
      have HST := Lib.hid (Sc.okAt_step hjn)
      have HBD := Lib.hid (fun h => Sc.nameOk_bad hjn h)
      have HI := Lib.hid (byte_iff s[j] j)
      have HAJ : Hid (L[j]'hjL = s[j]) := HA.out j hjn hjL
      generalize s[j] = c at *
      clear HA
      obtain ⟨n, hn⟩ : ∃ n, n = c.toNat := ⟨_, rfl⟩
      have HNC : Hid ((L[j]'hjL).toNat = n) := by show _ = _; rw [HAJ.out, hn]
      rw [← hn] at HI HST HBD
      have hnl : n < 256 := by rw [hn]; exact c.toNat_lt
      clear hn
      by_cases h97 : 97 ≤ n
      · have e1 : decide ((97 : Int) ≤ ((L[j]'hjL).toNat : Int)) = true := by rw [HNC.out]; simp; omega
        by_cases h122 : n ≤ 122
        · have e2 : decide (((L[j]'hjL).toNat : Int) ≤ (122 : Int)) = true := by rw [HNC.out]; simp; omega
          have HB := (HI.out).2 (by omega)
          have HO : Hid (Sc.okAt s (j + 1)) := HST.out.2 ⟨hok, HB⟩
          clear HB HBD HI HST HC HS HR HN HNC HAJ hnl
          go_wp2_with fail
          go_round
          case rel => exact ⟨j + 1, by omega, by go_num, HO.out⟩
          case measure => simp [intOf]; omega
        · have e2 : decide (((L[j]'hjL).toNat : Int) ≤ (122 : Int)) = false := by rw [HNC.out]; simp; omega
          by_cases hz : j = 0
          · have e4 : ((j : Int) == 0) = true := by simp; omega
            have HZ := Lib.hid hz
            clear hz
            have hz := HZ.out
            have HB := fun hh => (show ¬ _ by omega) ((HI.out).1 hh)
            have HO : Hid (¬ Sc.nameOk s) := HBD.out HB
            clear HB HBD HI HST HC HS HR HN HNC HAJ hnl hz
            go_wp2_with fail
            go_ret
            exact ⟨_, rfl, ⟨(fun h => by cases h), fun h => absurd h HO.out⟩, rfl⟩
          · have e4 : ((j : Int) == 0) = false := by simp; omega
            have e5 : decide ((48 : Int) ≤ ((L[j]'hjL).toNat : Int)) = true := by rw [HNC.out]; simp; omega
            have e6 : decide (((L[j]'hjL).toNat : Int) ≤ (57 : Int)) = false := by rw [HNC.out]; simp; omega
            have e7 : (((L[j]'hjL).toNat : Int) == (95 : Int)) = false := by rw [HNC.out]; simp; omega
            have HB := fun hh => (show ¬ _ by omega) ((HI.out).1 hh)
            have HO : Hid (¬ Sc.nameOk s) := HBD.out HB
            clear HB HBD HI HST HC HS HR HN HNC HAJ hnl
            go_wp2_with fail
            go_ret
            exact ⟨_, rfl, ⟨(fun h => by cases h), fun h => absurd h HO.out⟩, rfl⟩
      · have e1 : decide ((97 : Int) ≤ ((L[j]'hjL).toNat : Int)) = false := by rw [HNC.out]; simp; omega
        by_cases hz : j = 0
        · have e4 : ((j : Int) == 0) = true := by simp; omega
          have HZ := Lib.hid hz
          clear hz
          have hz := HZ.out
          have HB := fun hh => (show ¬ _ by omega) ((HI.out).1 hh)
          have HO : Hid (¬ Sc.nameOk s) := HBD.out HB
          clear HB HBD HI HST HC HS HR HN HNC HAJ hnl hz
          go_wp2_with fail
          go_ret
          exact ⟨_, rfl, ⟨(fun h => by cases h), fun h => absurd h HO.out⟩, rfl⟩
        · have e4 : ((j : Int) == 0) = false := by simp; omega
          by_cases h48 : 48 ≤ n
          · have e5 : decide ((48 : Int) ≤ ((L[j]'hjL).toNat : Int)) = true := by rw [HNC.out]; simp; omega
            by_cases h57 : n ≤ 57
            · have e6 : decide (((L[j]'hjL).toNat : Int) ≤ (57 : Int)) = true := by rw [HNC.out]; simp; omega
              have HB := (HI.out).2 (by omega)
              have HO : Hid (Sc.okAt s (j + 1)) := HST.out.2 ⟨hok, HB⟩
              clear HB HBD HI HST HC HS HR HN HNC HAJ hnl
              go_wp2_with fail
              go_round
              case rel => exact ⟨j + 1, by omega, by go_num, HO.out⟩
              case measure => simp [intOf]; omega
            · have e6 : decide (((L[j]'hjL).toNat : Int) ≤ (57 : Int)) = false := by rw [HNC.out]; simp; omega
              by_cases h95 : n = 95
              · have e7 : (((L[j]'hjL).toNat : Int) == (95 : Int)) = true := by rw [HNC.out]; simp; omega
                have HB := (HI.out).2 (by omega)
                have HO : Hid (Sc.okAt s (j + 1)) := HST.out.2 ⟨hok, HB⟩
                clear HB HBD HI HST HC HS HR HN HNC HAJ hnl
                go_wp2_with fail
                go_round
                case rel => exact ⟨j + 1, by omega, by go_num, HO.out⟩
                case measure => simp [intOf]; omega
              · have e7 : (((L[j]'hjL).toNat : Int) == (95 : Int)) = false := by rw [HNC.out]; simp; omega
                have HB := fun hh => (show ¬ _ by omega) ((HI.out).1 hh)
                have HO : Hid (¬ Sc.nameOk s) := HBD.out HB
                clear HB HBD HI HST HC HS HR HN HNC HAJ hnl
                go_wp2_with fail
                go_ret
                exact ⟨_, rfl, ⟨(fun h => by cases h), fun h => absurd h HO.out⟩, rfl⟩
          · have e5 : decide ((48 : Int) ≤ ((L[j]'hjL).toNat : Int)) = false := by rw [HNC.out]; simp; omega
            have e7 : (((L[j]'hjL).toNat : Int) == (95 : Int)) = false := by rw [HNC.out]; simp; omega
            have HB := fun hh => (show ¬ _ by omega) ((HI.out).1 hh)
            have HO : Hid (¬ Sc.nameOk s) := HBD.out HB
            clear HB HBD HI HST HC HS HR HN HNC HAJ hnl
            go_wp2_with fail
            go_ret
            exact ⟨_, rfl, ⟨(fun h => by cases h), fun h => absurd h HO.out⟩, rfl⟩
    · obtain rfl : j = s.length := by omega
      have HLZ := Lib.hid HL.out
      have d1 : decide ((s.length : Int) < (L.size : Int)) = false := by rw [HLZ.out]; simp
      have d1' : decide (s.length < L.size) = false := by rw [HLZ.out]; simp
      clear HA
      by_cases h1 : 1 ≤ s.length
      · have e1 : decide ((1 : Int) ≤ (L.size : Int)) = true := by rw [HLZ.out]; simp; omega
        by_cases h64 : s.length ≤ 64
        · have e2 : decide ((L.size : Int) ≤ 64) = true := by rw [HLZ.out]; simp; omega
          have sz : L.size ≤ 64 := by rw [HLZ.out]; exact h64
          go_wp2_with fail
          rw [HC.out]
          clear HR
          refine (HS _ h64).out.mono ?_
          rintro e w2 ⟨b, rfl, hb, rfl⟩
          clear HS HC
          cases b
          · go_wp2_with fail
            go_ret
            refine ⟨_, rfl, ?_, rfl⟩
            rw [HN.out]
            simp at hb ⊢
            exact ⟨hok, h1, h64, hb⟩
          · go_wp2_with fail
            go_ret
            refine ⟨_, rfl, ?_, rfl⟩
            rw [HN.out]
            simp at hb ⊢
            exact fun _ _ _ => hb
        · have e2 : decide ((L.size : Int) ≤ 64) = false := by rw [HLZ.out]; simp; omega
          go_wp2_with fail
          go_ret
          exact ⟨_, rfl, ⟨(fun h => by cases h), fun h => by have := HN.out.1 h; omega⟩, rfl⟩
      · have e1 : decide ((1 : Int) ≤ (L.size : Int)) = false := by rw [HLZ.out]; simp; omega
        go_wp2_with fail
        go_ret
        exact ⟨_, rfl, ⟨(fun h => by cases h), fun h => by have := HN.out.1 h; omega⟩, rfl⟩

end Go.Proofs.YtfockoihmoljfaaGreatDoor

/-
  The walk of the reference's places.
-/
namespace Go.Proofs.YtfockoihmoljfaaGreatDoor
open Go.RowKit Go.Shelf
set_option linter.unusedVariables false
set_option linter.unusedSimpArgs false


set_option maxRecDepth 100000 in
set_option maxHeartbeats 4000000 in
theorem rPlaces_any (A : Option Addr) (n c : Nat) (l : List Int) (k : Nat) (w : World) (h : RdI w w.heap.size A n c l) :
    Calls Tryz.prog 109 #[.slice A n c, .int .i64 (k : Int)] w (Tells (Sc.incr l k) w) := by
  have h1 := h.max
  have h2 := h.le
  have hl := Lib.hid h.len
  have hbt := Below.refl w.heap.size w
  have h0 := h
  clear h
  go_enter Tryz.func109, Tryz.ntmps109
  go_wp2_with fail
  go_loopw [5] (fun iv wr => ∃ j : Nat, j ≤ n ∧ iv = .int .i64 j ∧ Sc.incr (l.take j) k ∧ Below w.heap.size w wr) (fun iv _ => n - (intOf iv).toNat)
  case atStart => exact ⟨0, by omega, rfl, by simpa using Sc.incr_nil k, hbt⟩
  case round =>
    clear hbt
    obtain ⟨j, hj, rfl, hinc, hbt⟩ := hrel
    by_cases hjn : j < n
    · have hjl : j < l.length := by rw [hl.out]; exact hjn
      obtain ⟨ad, rfl, _, x0, ok1, ok2⟩ := (h0.below hbt).at_ hjn hjl
      have d1 : decide ((j : Int) < (n : Int)) = true := by simp; omega
      have d1' : decide (j < n) = true := by simp; omega
      have HS := Lib.hid (Sc.incr_stop (n := k) hjl)
      have HG := Lib.hid (Sc.incr_go hjl hinc)
      have HNg : Hid (¬ 0 ≤ l[j] → ¬ Sc.incr l k) := fun hn hh => hn (hh.2 _ (List.getElem_mem hjl)).1
      by_cases hz : j = 0
      · have HZ := Lib.hid hz
        clear hz
        have e1 : decide ((0 : Int) < (j : Int)) = false := by rw [HZ.out]; simp
        have e1' : decide (0 < j) = false := by rw [HZ.out]; simp
        have HLa : Hid ((l.take j).getLast?.getD (-1) = -1) := by show _ = _; rw [HZ.out]; rfl
        rw [HLa.out] at HS HG
        clear HLa hinc
        generalize l[j] = x at *
        by_cases h1' : 0 ≤ x
        · have e2 : decide (x < 0) = false := by simp; omega
          by_cases h2' : x < k
          · have e3 : decide ((k : Int) ≤ x) = false := by simp; omega
            go_wp2_with fail
            go_quiet (fail)
            replace hbt := below_drewN' hbt nq
            go_wp2_with fail
            go_roundw
            case rel => exact ⟨j + 1, by omega, by go_num, HG.out (by omega), hbt⟩
            case measure => simp [intOf]; omega
          · have e3 : decide ((k : Int) ≤ x) = true := by simp; omega
            go_wp2_with fail
            go_quiet (fail)
            replace hbt := below_drewN' hbt nq
            go_wp2_with fail
            go_ret
            exact ⟨_, rfl, ⟨(fun hh => by cases hh), fun hh => absurd hh (HS.out (by omega))⟩, hbt⟩
        · have e2 : decide (x < 0) = true := by simp; omega
          go_wp2_with fail
          go_quiet (fail)
          replace hbt := below_drewN' hbt nq
          go_wp2_with fail
          go_ret
          exact ⟨_, rfl, ⟨(fun hh => by cases hh), fun hh => absurd hh (HS.out (by omega))⟩, hbt⟩
      · obtain ⟨_, e0, _, y0, ok3, ok4⟩ := (h0.below hbt).at_ (k := j - 1) (by omega) (by omega)
        cases e0
        have e1 : decide ((0 : Int) < (j : Int)) = true := by simp; omega
        have e1' : decide (0 < j) = true := by simp; omega
        rw [Sc.last_at (by omega) (by omega)] at HS HG
        clear hinc
        generalize l[j] = x at *
        generalize l[j - 1]'(by omega) = y at *
        by_cases h1' : 0 ≤ x
        · have e2 : decide (x < 0) = false := by simp; omega
          by_cases h2' : x < k
          · have e3 : decide ((k : Int) ≤ x) = false := by simp; omega
            by_cases h3 : y < x
            · have e4 : decide (x ≤ y) = false := by simp; omega
              go_wp2_with fail
              go_quiet (fail)
              replace hbt := below_drewN' hbt nq
              go_wp2_with fail
              go_roundw
              case rel => exact ⟨j + 1, by omega, by go_num, HG.out (by omega), hbt⟩
              case measure => simp [intOf]; omega
            · have e4 : decide (x ≤ y) = true := by simp; omega
              go_wp2_with fail
              go_quiet (fail)
              replace hbt := below_drewN' hbt nq
              go_wp2_with fail
              go_ret
              exact ⟨_, rfl, ⟨(fun hh => by cases hh), fun hh => absurd hh (HS.out (by omega))⟩, hbt⟩
          · have e3 : decide ((k : Int) ≤ x) = true := by simp; omega
            go_wp2_with fail
            go_quiet (fail)
            replace hbt := below_drewN' hbt nq
            go_wp2_with fail
            go_ret
            exact ⟨_, rfl, ⟨(fun hh => by cases hh), fun hh => absurd hh (HS.out (by omega))⟩, hbt⟩
        · have e2 : decide (x < 0) = true := by simp; omega
          go_wp2_with fail
          go_quiet (fail)
          replace hbt := below_drewN' hbt nq
          go_wp2_with fail
          go_ret
          exact ⟨_, rfl, ⟨(fun hh => by cases hh), fun hh => absurd hh (HNg.out (by omega))⟩, hbt⟩
    · obtain rfl : j = n := by omega
      have d1 : decide ((j : Int) < (j : Int)) = false := by simp
      have d1' : decide (j < j) = false := by simp
      have HE : Hid (Sc.incr l k) := by rw [List.take_of_length_le (by rw [hl.out]; omega)] at hinc; exact hinc
      clear hinc
      go_wp2_with fail
      go_ret
      exact ⟨_, rfl, ⟨fun _ => HE.out, fun _ => rfl⟩, hbt⟩

end Go.Proofs.YtfockoihmoljfaaGreatDoor

/-
  The walk of the reference's slots.
-/
namespace Go.Proofs.YtfockoihmoljfaaGreatDoor
open Go.RowKit Go.Shelf
set_option linter.unusedVariables false
set_option linter.unusedSimpArgs false

set_option maxRecDepth 100000 in
set_option maxHeartbeats 4000000 in
theorem rSlots_any (A : Option Addr) (n c : Nat) (l : List Sc.Slo) (w : World) (h : RdS 3 Sc.RSlo w w.heap.size A n c l) (hn : n ≤ 3074457345618258602) :
    Calls Tryz.prog 110 #[.slice A n c] w (Tells (Sc.timesOk l ∧ l ≠ []) w) := by
  have h1 := h.max
  have h2 := h.le
  have hl := Lib.hid (h.len (by omega))
  have hbt := Below.refl w.heap.size w
  have h0 := h
  clear h
  go_enter Tryz.func110, Tryz.ntmps110
  go_wp2_with fail
  go_loopw [3, 4] (fun iv _ wr => ∃ j : Nat, j ≤ n ∧ iv = .int .i64 j ∧ Sc.timesOk (l.take j) ∧ Below w.heap.size w wr) (fun iv _ _ => n - (intOf iv).toNat)
  case atStart => exact ⟨0, by omega, rfl, by simpa using Sc.timesOk_nil, hbt⟩
  case round =>
    clear hbt
    obtain ⟨j, hj, rfl, htm, hbt⟩ := hrel
    by_cases hjn : j < n
    · have hjl : j < l.length := by rw [hl.out]; exact hjn
      have h9 := h0.below Sc.lasts_Slo hbt
      obtain ⟨ad, r, rfl, hab, hr1, hR, hcell⟩ := h9.at_ (by omega) hjn hjl
      obtain ⟨rfl, _, okd, okh⟩ := hR
      have x1 := cell_sub (j := 0) (hcell 1 (.int .i64 l[j].day) rfl)
      have x2 := cell_sub (j := 1) (hcell 2 (.int .i64 l[j].hour) rfl)
      have d1 : decide ((j : Int) < (n : Int)) = true := by simp; omega
      have d1' : decide (j < n) = true := by simp; omega
      clear hcell hr1
      have HB := Lib.hid (fun h => Sc.timesOk_bad hjl h)
      have HTW : ∀ k, (hk : k < j) → Hid ((l[k]'(by omega)).day = l[j].day → (l[k]'(by omega)).hour = l[j].hour → ¬ Sc.timesOk l) := fun k hk a b => Sc.time_twice hjl hk a b
      have HST := Lib.hid (Sc.timesOk_step hjl)
      obtain ⟨zd, hzd⟩ : ∃ zd, l[j].day = zd := ⟨_, rfl⟩
      obtain ⟨zh, hzh⟩ : ∃ zh, l[j].hour = zh := ⟨_, rfl⟩
      unfold Sc.within at HB HST
      rw [hzd] at x1 HB HTW HST okd
      rw [hzh] at x2 HB HTW HST okh
      have HD := Lib.hid hzd
      have HH := Lib.hid hzh
      clear hzd hzh
      by_cases q1 : 0 ≤ zd
      · have e1 : decide (zd < 0) = false := by simp; omega
        by_cases q2 : zd ≤ 6
        · have e2 : decide (6 < zd) = false := by simp; omega
          by_cases q3 : 0 ≤ zh
          · have e3 : decide (zh < 0) = false := by simp; omega
            by_cases q4 : zh ≤ 11
            · have e4 : decide (11 < zh) = false := by simp; omega
              clear HB
              go_wp2_with fail
              have hbt1 := hbt
              have y1 := x1
              have y2 := x2
              clear x1 x2 hbt
              go_loopw [4] (fun kv wq => ∃ k : Nat, k ≤ j ∧ kv = .int .i64 k ∧ (zd, zh) ∉ (l.take k).map (fun x => (x.day, x.hour)) ∧ Below w.heap.size w wq) (fun kv _ => j - (intOf kv).toNat)
              case atStart => exact ⟨0, by omega, rfl, by simp, hbt1⟩
              case round =>
                clear hbt1 y1 y2
                obtain ⟨k, hk, rfl, hni, hbt⟩ := hrel
                by_cases hkj : k < j
                · have hkl : k < l.length := by omega
                  have h9 := h0.below Sc.lasts_Slo hbt
                  obtain ⟨_, r, e0, _, hr1, hR, hcell⟩ := h9.at_ (by omega) (show k < n by omega) hkl
                  cases e0
                  obtain ⟨rfl, _, okd', okh'⟩ := hR
                  have x1 := cell_sub (j := 0) (hcell 1 (.int .i64 l[k].day) rfl)
                  have x2 := cell_sub (j := 1) (hcell 2 (.int .i64 l[k].hour) rfl)
                  clear hcell hr1
                  obtain ⟨_, r, e0, _, hr1, hR, hcell⟩ := h9.at_ (by omega) hjn hjl
                  cases e0
                  obtain ⟨rfl, _, _, _⟩ := hR
                  have y1 := cell_sub (j := 0) (hcell 1 (.int .i64 l[j].day) rfl)
                  have y2 := cell_sub (j := 1) (hcell 2 (.int .i64 l[j].hour) rfl)
                  clear hcell hr1 h9
                  rw [HD.out] at y1
                  rw [HH.out] at y2
                  have d2 : decide ((k : Int) < (j : Int)) = true := by simp; omega
                  have d2' : decide (k < j) = true := by simp; omega
                  have HTK := HTW k hkj
                  have HNI := Lib.hid (fun hh => Sc.time_step (p := (zd, zh)) hkl hni hh)
                  clear HTW
                  obtain ⟨kd, hkd⟩ : ∃ kd, l[k].day = kd := ⟨_, rfl⟩
                  obtain ⟨kh, hkh⟩ : ∃ kh, l[k].hour = kh := ⟨_, rfl⟩
                  rw [hkd] at x1 HTK HNI okd'
                  rw [hkh] at x2 HTK HNI okh'
                  clear hkd hkh HD HH
                  by_cases q5 : kd = zd
                  · have HQ1 := Lib.hid q5
                    clear q5
                    have e5 : (kd == zd) = true := by simp; exact HQ1.out
                    by_cases q6 : kh = zh
                    · have HQ2 := Lib.hid q6
                      clear q6
                      have e6 : (kh == zh) = true := by simp; exact HQ2.out
                      go_wp2_with fail
                      go_quiet (fail)
                      replace hbt := below_drewN' hbt nq
                      go_wp2_with fail
                      go_ret
                      exact ⟨_, rfl, ⟨(fun hh => by cases hh), fun hh => absurd hh.1 (HTK.out HQ1.out HQ2.out)⟩, hbt⟩
                    · have e6 : (kh == zh) = false := by simp; omega
                      go_wp2_with fail
                      go_quiet (fail)
                      replace hbt := below_drewN' hbt nq
                      go_wp2_with fail
                      go_roundw
                      case rel => exact ⟨k + 1, by omega, by go_num, HNI.out (fun hh => q6 hh.2), hbt⟩
                      case measure => simp [intOf]; omega
                  · have e5 : (kd == zd) = false := by simp; omega
                    go_wp2_with fail
                    go_quiet (fail)
                    replace hbt := below_drewN' hbt nq
                    go_wp2_with fail
                    go_roundw
                    case rel => exact ⟨k + 1, by omega, by go_num, HNI.out (by exact fun hh => q5 hh.1), hbt⟩
                    case measure => simp [intOf]; omega
                · obtain rfl : k = j := by omega
                  have d2 : decide ((k : Int) < (k : Int)) = false := by simp
                  have d2' : decide (k < k) = false := by simp
                  have HO : Hid (Sc.timesOk (l.take (k + 1))) := HST.out.2 ⟨htm, ⟨q1, q2⟩, ⟨q3, q4⟩, hni⟩
                  clear HST HTW HD HH hni htm
                  go_wp2_with fail
                  go_roundw
                  case rel => exact ⟨k + 1, by omega, by go_num, HO.out, hbt⟩
                  case measure => simp [intOf]; omega
            · have e4 : decide (11 < zh) = true := by simp; omega
              go_wp2_with fail
              go_ret
              exact ⟨_, rfl, ⟨(fun hh => by cases hh), fun hh => absurd hh.1 (HB.out (by omega))⟩, hbt⟩
          · have e3 : decide (zh < 0) = true := by simp; omega
            go_wp2_with fail
            go_ret
            exact ⟨_, rfl, ⟨(fun hh => by cases hh), fun hh => absurd hh.1 (HB.out (by omega))⟩, hbt⟩
        · have e2 : decide (6 < zd) = true := by simp; omega
          go_wp2_with fail
          go_ret
          exact ⟨_, rfl, ⟨(fun hh => by cases hh), fun hh => absurd hh.1 (HB.out (by omega))⟩, hbt⟩
      · have e1 : decide (zd < 0) = true := by simp; omega
        go_wp2_with fail
        go_ret
        exact ⟨_, rfl, ⟨(fun hh => by cases hh), fun hh => absurd hh.1 (HB.out (by omega))⟩, hbt⟩
    · obtain rfl : j = n := by omega
      have d1 : decide ((j : Int) < (j : Int)) = false := by simp
      have d1' : decide (j < j) = false := by simp
      have HE : Hid (Sc.timesOk l) := by rw [List.take_of_length_le (by rw [hl.out]; omega)] at htm; exact htm
      clear htm
      by_cases hp : 0 < j
      · have e1 : decide ((0 : Int) < (j : Int)) = true := by simp; omega
        have e1' : decide (0 < j) = true := by simp; omega
        go_wp2_with fail
        go_ret
        exact ⟨_, rfl, ⟨fun _ => ⟨HE.out, fun e => by have := hl.out; rw [e] at this; simp at this; omega⟩, fun _ => rfl⟩, hbt⟩
      · have e1 : decide ((0 : Int) < (j : Int)) = false := by simp; omega
        have e1' : decide (0 < j) = false := by simp; omega
        go_wp2_with fail
        go_ret
        exact ⟨_, rfl, ⟨(fun hh => by cases hh), fun hh => absurd (List.eq_nil_of_length_eq_zero (by rw [hl.out]; omega)) hh.2⟩, hbt⟩

end Go.Proofs.YtfockoihmoljfaaGreatDoor

/-
  The walk of the reference's Names.
-/
namespace Go.Proofs.YtfockoihmoljfaaGreatDoor
open Go.RowKit Go.Shelf
set_option linter.unusedVariables false
set_option linter.unusedSimpArgs false

theorem elStr : El Tryz.prog 60 9 (.string ⟨#[]⟩) 16 := ⟨Tryz.underlying60, by kernel_rfl, rfl⟩
/-- Texts as cells. -/
def sv (l : List (List UInt8)) : List Value := l.map fun s => .string (strOf s)
theorem sv_append (l r : List (List UInt8)) : sv (l ++ r) = sv l ++ sv r := List.map_append
theorem sv_length (l : List (List UInt8)) : (sv l).length = l.length := List.length_map _
def RdT (w : World) (B : Nat) (A : Option Addr) (n c : Nat) (l : List (List UInt8)) : Prop := Rd w B A n c (sv l)
section
variable {w w' : World} {B B' : Nat} {A : Option Addr} {n c : Nat} {l : List (List UInt8)}
theorem RdT.below (h : RdT w B A n c l) (hb : Below B w w') : RdT w' B A n c l := Rd.below h hb
theorem RdT.more (h : RdT w B A n c l) (hB : B ≤ B') : RdT w B' A n c l := Rd.more h hB
theorem RdT.len (h : RdT w B A n c l) : l.length = n := by have := Rd.len h; rwa [sv_length] at this
theorem RdT.le (h : RdT w B A n c l) : n ≤ c := Rd.le h
theorem RdT.max (h : RdT w B A n c l) : c ≤ 9223372036854775807 := Rd.max h
theorem RdT.at_ (h : RdT w B A n c l) {k : Nat} (hk : k < n) (hl : k < l.length) : ∃ ad, A = some ad ∧ ad.block < B ∧ w.cell? (ad.add k) = some (.string (strOf l[k])) := by
  obtain ⟨ad, u, e, hb, hu, hc⟩ := Rd.at_ h hk
  refine ⟨ad, e, hb, hc.trans ?_⟩
  rw [← hu]; simp [sv, hl]
end
theorem own_rdT {w : World} {base n : Nat} {e : TypeId} {v : Value} {l : List (List UInt8)} (h : w.ownsRow base e 1 v n (sv l)) : ∃ A c, v = .slice A n c ∧ RdT w w.heap.size A n c l := own_rd h
theorem one_str (s : ByteArray) : ∀ u ∈ [Value.string s], u.oneCell' = true := by intro u hu; simp at hu; subst hu; rfl
/-- A new block, as a row of the call's own. -/
theorem own_blk {w : World} {b base n : Nat} {cs : Array Value} {t : TypeId} {xs : List Value} (h : w.heap[b]? = some (.cells cs t)) (hx : cs.toList = xs) (hn : xs.length = n) (hm : n ≤ 9223372036854775807) (hb : base ≤ b) : w.ownsRow base t 1 (.slice (some ⟨b, 0, none⟩) n n) n xs := by
  refine ⟨by omega, .inr ⟨b, n, cs, rfl, hb, h, Nat.le_refl _, by unfold maxLen; omega, ?_, ?_⟩⟩
  · have : cs.toList.length = n := by rw [hx, hn]
    simp at this
    omega
  · have : cs.toList.length = n := by rw [hx, hn]
    rw [hx, List.take_of_length_le (by omega)]
/-- What Names answers. -/
def NamesPost (l : List (List UInt8)) (w : World) (e : Ending) (w' : World) : Prop := ∃ v, e = .returned v ∧ w'.ownsRow w.heap.size 9 1 v l.length (sv l) ∧ Below w.heap.size w w'
theorem take_map_snoc {α β : Type} (g : α → β) {l : List α} {k : Nat} (hk : k < l.length) : (l.take (k + 1)).map g = (l.take k).map g ++ [g l[k]] := by
  rw [List.take_succ_eq_append_getElem hk, List.map_append]; rfl

set_option maxRecDepth 100000 in
set_option maxHeartbeats 4000000 in
theorem rNames_any (f : Sc.Five) (s : Sc.Sch) (k : Int) (w : World) (h : Sc.RdSch w w.heap.size f s) (hb : f.nS ≤ 5864062014805 ∧ f.nR ≤ 5864062014805 ∧ f.nP ≤ 5864062014805 ∧ f.nG ≤ 5864062014805 ∧ f.nL ≤ 5864062014805) :
    Calls Tryz.prog 31 #[.agg f.vals, .int .i64 k] w (NamesPost (Sc.names s k) w) := by
  have h0 := h
  have hbt := Below.refl w.heap.size w
  have HSZ := Lib.hid hb
  clear hb
  obtain ⟨V1, hV⟩ : ∃ V1, V1 = w.alloc (.cells #[.slice f.aS f.nS f.cS, .slice f.aR f.nR f.cR, .slice f.aP f.nP f.cP, .slice f.aG f.nG f.cG, .slice f.aL f.nL f.cL] 28) := ⟨_, rfl⟩
  have b0 := blk_new hV
  have hb := below_new hV
  replace h := (h.below hb).more hb.size
  replace hbt := hbt.trans (hb.mono hbt.size)
  clear hb
  have HSV1 : Hid (V1.heap.size = w.heap.size + 1) := by show V1.heap.size = _; rw [hV, World.size_alloc]
  have HVV1 := Lib.hid hV.symm
  clear hV
  unfold Sc.Five.vals
  have hV1s : w.heap.size < V1.heap.size := blk_lt b0
  by_cases h1 : k = 1
  · subst h1
    obtain ⟨hnl, hml, hll⟩ : f.nL ≤ f.cL ∧ f.cL ≤ 9223372036854775807 ∧ s.lessons.length = f.nL := ⟨h.lessons.le, h.lessons.max, h.lessons.len (by omega)⟩
    have HLL := Lib.hid hll
    clear hll
    have hbX : f.nL ≤ 5864062014805 := HSZ.out.2.2.2.2
    rw [show Sc.names s 1 = s.lessons.map (·.name) from rfl]
    go_enter Tryz.func31, Tryz.ntmps31
    go_wp2_with fail
    rw [HVV1.out]
    clear HVV1
    go_loopw [5, 6] (fun v iv wr => ∃ j : Nat, j ≤ f.nL ∧ iv = .int .i64 j ∧ wr.ownsRow w.heap.size 9 1 v j (sv ((s.lessons.take j).map (·.name))) ∧ wr.heap[w.heap.size]? = some (.cells #[.slice f.aS f.nS f.cS, .slice f.aR f.nR f.cR, .slice f.aP f.nP f.cP, .slice f.aG f.nG f.cG, .slice f.aL f.nL f.cL] 28) ∧ Below w.heap.size w wr) (fun _ iv _ => f.nL - (intOf iv).toNat)
    case atStart => exact ⟨0, by omega, rfl, World.ownsRow_nil _ _ _ _, b0, hbt⟩
    case round =>
      clear b0 hbt h
      obtain ⟨j, hj, rfl, hown, b0, hbt⟩ := hrel
      have c4 := blk_cell (j := 4) b0
      simp only [List.getElem?_toArray, List.getElem?_cons_zero, List.getElem?_cons_succ] at c4
      by_cases hjn : j < f.nL
      · have hjl : j < s.lessons.length := by rw [HLL.out]; exact hjn
        obtain ⟨ad, r, hA, hab, hr1, hR, hcell⟩ := ((h0.below hbt).lessons).at_ (by omega) hjn hjl
        have x0 := hcell 0 (.string (strOf s.lessons[j].name)) (by obtain ⟨_, _, _, _, rfl, _, _, hok⟩ := hR; rfl)
        rw [Nat.add_zero] at x0
        rw [hA] at c4
        have d1 : decide ((j : Int) < (f.nL : Int)) = true := by simp; omega
        have d2 : decide (j < f.nL) = true := by simp; omega
        have HT := Lib.hid (take_map_snoc (·.name) hjl)
        generalize s.lessons[j] = x at *
        clear hcell hR hA
        obtain ⟨A5, c5, rfl, _⟩ := own_rdT (l := (s.lessons.take j).map (·.name)) hown
        have hbs := hbt.size
        go_wp2_with (at_builtin; refine wpList_app _ _ elStr (hown.alloc _) (Rd.one wr (.string (strOf x.name)) 9) (one_str _) (by omega) (by omega) (by simp; omega) rfl rfl rfl rfl ?_; intro v2 w2 hown2 hg2 hat2; obtain ⟨A6, c6, rfl, _⟩ := own_rd hown2)
        have b2 := blk_grown (blk_below b0 (below_new rfl)) hg2 (fun e => own_blk_ne hown b0 (by decide) _ e.symm rfl)
        have hb2 : Below w.heap.size w w2 := (hbt.alloc hbs _).grown hg2 (by simp; omega) (own_lt hown)
        go_roundw
        case rel => exact ⟨j + 1, by omega, by go_num, by rw [HT.out, sv_append]; exact hown2, b2, hb2⟩
        case measure => simp [intOf]; omega
      · obtain rfl : j = f.nL := by omega
        have d1 : decide ((f.nL : Int) < (f.nL : Int)) = false := by simp
        rw [List.take_of_length_le (by rw [HLL.out]; omega)] at hown
        have HL2 : Hid ((s.lessons.map (·.name)).length = f.nL) := by show _ = _; rw [List.length_map, HLL.out]
        go_wp2_with fail
        go_ret
        exact ⟨_, rfl, by rw [HL2.out]; exact hown, hbt⟩
  · by_cases h2 : k = 2
    · subst h2
      clear h1
      obtain ⟨hnl, hml, hll⟩ : f.nS ≤ f.cS ∧ f.cS ≤ 9223372036854775807 ∧ s.slots.length = f.nS := ⟨h.slots.le, h.slots.max, h.slots.len (by omega)⟩
      have HLL := Lib.hid hll
      clear hll
      have hbX : f.nS ≤ 5864062014805 := HSZ.out.1
      rw [show Sc.names s 2 = s.slots.map (·.name) from rfl]
      go_enter Tryz.func31, Tryz.ntmps31
      go_wp2_with fail
      rw [HVV1.out]
      clear HVV1
      go_loopw [5, 7] (fun v iv wr => ∃ j : Nat, j ≤ f.nS ∧ iv = .int .i64 j ∧ wr.ownsRow w.heap.size 9 1 v j (sv ((s.slots.take j).map (·.name))) ∧ wr.heap[w.heap.size]? = some (.cells #[.slice f.aS f.nS f.cS, .slice f.aR f.nR f.cR, .slice f.aP f.nP f.cP, .slice f.aG f.nG f.cG, .slice f.aL f.nL f.cL] 28) ∧ Below w.heap.size w wr) (fun _ iv _ => f.nS - (intOf iv).toNat)
      case atStart => exact ⟨0, by omega, rfl, World.ownsRow_nil _ _ _ _, b0, hbt⟩
      case round =>
        clear b0 hbt h
        obtain ⟨j, hj, rfl, hown, b0, hbt⟩ := hrel
        have c0 := blk_cell (j := 0) b0
        simp only [List.getElem?_toArray, List.getElem?_cons_zero, List.getElem?_cons_succ] at c0
        by_cases hjn : j < f.nS
        · have hjl : j < s.slots.length := by rw [HLL.out]; exact hjn
          obtain ⟨ad, r, hA, hab, hr1, hR, hcell⟩ := ((h0.below hbt).slots).at_ (by omega) hjn hjl
          have x0 := hcell 0 (.string (strOf s.slots[j].name)) (by obtain ⟨rfl, hok, _⟩ := hR; rfl)
          rw [Nat.add_zero] at x0
          rw [hA] at c0
          have d1 : decide ((j : Int) < (f.nS : Int)) = true := by simp; omega
          have d2 : decide (j < f.nS) = true := by simp; omega
          have HT := Lib.hid (take_map_snoc (·.name) hjl)
          generalize s.slots[j] = x at *
          clear hcell hR hA
          obtain ⟨A5, c5, rfl, _⟩ := own_rdT (l := (s.slots.take j).map (·.name)) hown
          have hbs := hbt.size
          go_wp2_with (at_builtin; refine wpList_app _ _ elStr (hown.alloc _) (Rd.one wr (.string (strOf x.name)) 9) (one_str _) (by omega) (by omega) (by simp; omega) rfl rfl rfl rfl ?_; intro v2 w2 hown2 hg2 hat2; obtain ⟨A6, c6, rfl, _⟩ := own_rd hown2)
          have b2 := blk_grown (blk_below b0 (below_new rfl)) hg2 (fun e => own_blk_ne hown b0 (by decide) _ e.symm rfl)
          have hb2 : Below w.heap.size w w2 := (hbt.alloc hbs _).grown hg2 (by simp; omega) (own_lt hown)
          go_roundw
          case rel => exact ⟨j + 1, by omega, by go_num, by rw [HT.out, sv_append]; exact hown2, b2, hb2⟩
          case measure => simp [intOf]; omega
        · obtain rfl : j = f.nS := by omega
          have d1 : decide ((f.nS : Int) < (f.nS : Int)) = false := by simp
          rw [List.take_of_length_le (by rw [HLL.out]; omega)] at hown
          have HL2 : Hid ((s.slots.map (·.name)).length = f.nS) := by show _ = _; rw [List.length_map, HLL.out]
          go_wp2_with fail
          go_ret
          exact ⟨_, rfl, by rw [HL2.out]; exact hown, hbt⟩
    · by_cases h3 : k = 3
      · subst h3
        clear h1
        clear h2
        obtain ⟨hnl, hml, hll⟩ : f.nR ≤ f.cR ∧ f.cR ≤ 9223372036854775807 ∧ s.rooms.length = f.nR := ⟨h.rooms.le, h.rooms.max, h.rooms.len (by omega)⟩
        have HLL := Lib.hid hll
        clear hll
        have hbX : f.nR ≤ 5864062014805 := HSZ.out.2.1
        rw [show Sc.names s 3 = s.rooms.map (·.name) from rfl]
        go_enter Tryz.func31, Tryz.ntmps31
        go_wp2_with fail
        rw [HVV1.out]
        clear HVV1
        go_loopw [5, 8] (fun v iv wr => ∃ j : Nat, j ≤ f.nR ∧ iv = .int .i64 j ∧ wr.ownsRow w.heap.size 9 1 v j (sv ((s.rooms.take j).map (·.name))) ∧ wr.heap[w.heap.size]? = some (.cells #[.slice f.aS f.nS f.cS, .slice f.aR f.nR f.cR, .slice f.aP f.nP f.cP, .slice f.aG f.nG f.cG, .slice f.aL f.nL f.cL] 28) ∧ Below w.heap.size w wr) (fun _ iv _ => f.nR - (intOf iv).toNat)
        case atStart => exact ⟨0, by omega, rfl, World.ownsRow_nil _ _ _ _, b0, hbt⟩
        case round =>
          clear b0 hbt h
          obtain ⟨j, hj, rfl, hown, b0, hbt⟩ := hrel
          have c1 := blk_cell (j := 1) b0
          simp only [List.getElem?_toArray, List.getElem?_cons_zero, List.getElem?_cons_succ] at c1
          by_cases hjn : j < f.nR
          · have hjl : j < s.rooms.length := by rw [HLL.out]; exact hjn
            obtain ⟨ad, r, hA, hab, hr1, hR, hcell⟩ := ((h0.below hbt).rooms).at_ (by omega) hjn hjl
            have x0 := hcell 0 (.string (strOf s.rooms[j].name)) (by obtain ⟨_, _, rfl, _, hok, _⟩ := hR; rfl)
            rw [Nat.add_zero] at x0
            rw [hA] at c1
            have d1 : decide ((j : Int) < (f.nR : Int)) = true := by simp; omega
            have d2 : decide (j < f.nR) = true := by simp; omega
            have HT := Lib.hid (take_map_snoc (·.name) hjl)
            generalize s.rooms[j] = x at *
            clear hcell hR hA
            obtain ⟨A5, c5, rfl, _⟩ := own_rdT (l := (s.rooms.take j).map (·.name)) hown
            have hbs := hbt.size
            go_wp2_with (at_builtin; refine wpList_app _ _ elStr (hown.alloc _) (Rd.one wr (.string (strOf x.name)) 9) (one_str _) (by omega) (by omega) (by simp; omega) rfl rfl rfl rfl ?_; intro v2 w2 hown2 hg2 hat2; obtain ⟨A6, c6, rfl, _⟩ := own_rd hown2)
            have b2 := blk_grown (blk_below b0 (below_new rfl)) hg2 (fun e => own_blk_ne hown b0 (by decide) _ e.symm rfl)
            have hb2 : Below w.heap.size w w2 := (hbt.alloc hbs _).grown hg2 (by simp; omega) (own_lt hown)
            go_roundw
            case rel => exact ⟨j + 1, by omega, by go_num, by rw [HT.out, sv_append]; exact hown2, b2, hb2⟩
            case measure => simp [intOf]; omega
          · obtain rfl : j = f.nR := by omega
            have d1 : decide ((f.nR : Int) < (f.nR : Int)) = false := by simp
            rw [List.take_of_length_le (by rw [HLL.out]; omega)] at hown
            have HL2 : Hid ((s.rooms.map (·.name)).length = f.nR) := by show _ = _; rw [List.length_map, HLL.out]
            go_wp2_with fail
            go_ret
            exact ⟨_, rfl, by rw [HL2.out]; exact hown, hbt⟩
      · by_cases h4 : k = 4
        · subst h4
          clear h1
          clear h2
          clear h3
          obtain ⟨hnl, hml, hll⟩ : f.nP ≤ f.cP ∧ f.cP ≤ 9223372036854775807 ∧ s.people.length = f.nP := ⟨h.people.le, h.people.max, h.people.len (by omega)⟩
          have HLL := Lib.hid hll
          clear hll
          have hbX : f.nP ≤ 5864062014805 := HSZ.out.2.2.1
          rw [show Sc.names s 4 = s.people.map (·.name) from rfl]
          go_enter Tryz.func31, Tryz.ntmps31
          go_wp2_with fail
          rw [HVV1.out]
          clear HVV1
          go_loopw [5, 9] (fun v iv wr => ∃ j : Nat, j ≤ f.nP ∧ iv = .int .i64 j ∧ wr.ownsRow w.heap.size 9 1 v j (sv ((s.people.take j).map (·.name))) ∧ wr.heap[w.heap.size]? = some (.cells #[.slice f.aS f.nS f.cS, .slice f.aR f.nR f.cR, .slice f.aP f.nP f.cP, .slice f.aG f.nG f.cG, .slice f.aL f.nL f.cL] 28) ∧ Below w.heap.size w wr) (fun _ iv _ => f.nP - (intOf iv).toNat)
          case atStart => exact ⟨0, by omega, rfl, World.ownsRow_nil _ _ _ _, b0, hbt⟩
          case round =>
            clear b0 hbt h
            obtain ⟨j, hj, rfl, hown, b0, hbt⟩ := hrel
            have c2 := blk_cell (j := 2) b0
            simp only [List.getElem?_toArray, List.getElem?_cons_zero, List.getElem?_cons_succ] at c2
            by_cases hjn : j < f.nP
            · have hjl : j < s.people.length := by rw [HLL.out]; exact hjn
              obtain ⟨ad, r, hA, hab, hr1, hR, hcell⟩ := ((h0.below hbt).people).at_ (by omega) hjn hjl
              have x0 := hcell 0 (.string (strOf s.people[j].name)) (by obtain ⟨_, _, rfl, _, hok⟩ := hR; rfl)
              rw [Nat.add_zero] at x0
              rw [hA] at c2
              have d1 : decide ((j : Int) < (f.nP : Int)) = true := by simp; omega
              have d2 : decide (j < f.nP) = true := by simp; omega
              have HT := Lib.hid (take_map_snoc (·.name) hjl)
              generalize s.people[j] = x at *
              clear hcell hR hA
              obtain ⟨A5, c5, rfl, _⟩ := own_rdT (l := (s.people.take j).map (·.name)) hown
              have hbs := hbt.size
              go_wp2_with (at_builtin; refine wpList_app _ _ elStr (hown.alloc _) (Rd.one wr (.string (strOf x.name)) 9) (one_str _) (by omega) (by omega) (by simp; omega) rfl rfl rfl rfl ?_; intro v2 w2 hown2 hg2 hat2; obtain ⟨A6, c6, rfl, _⟩ := own_rd hown2)
              have b2 := blk_grown (blk_below b0 (below_new rfl)) hg2 (fun e => own_blk_ne hown b0 (by decide) _ e.symm rfl)
              have hb2 : Below w.heap.size w w2 := (hbt.alloc hbs _).grown hg2 (by simp; omega) (own_lt hown)
              go_roundw
              case rel => exact ⟨j + 1, by omega, by go_num, by rw [HT.out, sv_append]; exact hown2, b2, hb2⟩
              case measure => simp [intOf]; omega
            · obtain rfl : j = f.nP := by omega
              have d1 : decide ((f.nP : Int) < (f.nP : Int)) = false := by simp
              rw [List.take_of_length_le (by rw [HLL.out]; omega)] at hown
              have HL2 : Hid ((s.people.map (·.name)).length = f.nP) := by show _ = _; rw [List.length_map, HLL.out]
              go_wp2_with fail
              go_ret
              exact ⟨_, rfl, by rw [HL2.out]; exact hown, hbt⟩
        · by_cases h5 : k = 5
          · subst h5
            clear h1
            clear h2
            clear h3
            clear h4
            obtain ⟨hnl, hml, hll⟩ : f.nG ≤ f.cG ∧ f.cG ≤ 9223372036854775807 ∧ s.groups.length = f.nG := ⟨h.groups.le, h.groups.max, h.groups.len (by omega)⟩
            have HLL := Lib.hid hll
            clear hll
            have hbX : f.nG ≤ 5864062014805 := HSZ.out.2.2.2.1
            rw [show Sc.names s 5 = s.groups.map (·.name) from rfl]
            go_enter Tryz.func31, Tryz.ntmps31
            go_wp2_with fail
            rw [HVV1.out]
            clear HVV1
            go_loopw [5, 10] (fun v iv wr => ∃ j : Nat, j ≤ f.nG ∧ iv = .int .i64 j ∧ wr.ownsRow w.heap.size 9 1 v j (sv ((s.groups.take j).map (·.name))) ∧ wr.heap[w.heap.size]? = some (.cells #[.slice f.aS f.nS f.cS, .slice f.aR f.nR f.cR, .slice f.aP f.nP f.cP, .slice f.aG f.nG f.cG, .slice f.aL f.nL f.cL] 28) ∧ Below w.heap.size w wr) (fun _ iv _ => f.nG - (intOf iv).toNat)
            case atStart => exact ⟨0, by omega, rfl, World.ownsRow_nil _ _ _ _, b0, hbt⟩
            case round =>
              clear b0 hbt h
              obtain ⟨j, hj, rfl, hown, b0, hbt⟩ := hrel
              have c3 := blk_cell (j := 3) b0
              simp only [List.getElem?_toArray, List.getElem?_cons_zero, List.getElem?_cons_succ] at c3
              by_cases hjn : j < f.nG
              · have hjl : j < s.groups.length := by rw [HLL.out]; exact hjn
                obtain ⟨ad, r, hA, hab, hr1, hR, hcell⟩ := ((h0.below hbt).groups).at_ (by omega) hjn hjl
                have x0 := hcell 0 (.string (strOf s.groups[j].name)) (by obtain ⟨rfl, hok, _⟩ := hR; rfl)
                rw [Nat.add_zero] at x0
                rw [hA] at c3
                have d1 : decide ((j : Int) < (f.nG : Int)) = true := by simp; omega
                have d2 : decide (j < f.nG) = true := by simp; omega
                have HT := Lib.hid (take_map_snoc (·.name) hjl)
                generalize s.groups[j] = x at *
                clear hcell hR hA
                obtain ⟨A5, c5, rfl, _⟩ := own_rdT (l := (s.groups.take j).map (·.name)) hown
                have hbs := hbt.size
                go_wp2_with (at_builtin; refine wpList_app _ _ elStr (hown.alloc _) (Rd.one wr (.string (strOf x.name)) 9) (one_str _) (by omega) (by omega) (by simp; omega) rfl rfl rfl rfl ?_; intro v2 w2 hown2 hg2 hat2; obtain ⟨A6, c6, rfl, _⟩ := own_rd hown2)
                have b2 := blk_grown (blk_below b0 (below_new rfl)) hg2 (fun e => own_blk_ne hown b0 (by decide) _ e.symm rfl)
                have hb2 : Below w.heap.size w w2 := (hbt.alloc hbs _).grown hg2 (by simp; omega) (own_lt hown)
                go_roundw
                case rel => exact ⟨j + 1, by omega, by go_num, by rw [HT.out, sv_append]; exact hown2, b2, hb2⟩
                case measure => simp [intOf]; omega
              · obtain rfl : j = f.nG := by omega
                have d1 : decide ((f.nG : Int) < (f.nG : Int)) = false := by simp
                rw [List.take_of_length_le (by rw [HLL.out]; omega)] at hown
                have HL2 : Hid ((s.groups.map (·.name)).length = f.nG) := by show _ = _; rw [List.length_map, HLL.out]
                go_wp2_with fail
                go_ret
                exact ⟨_, rfl, by rw [HL2.out]; exact hown, hbt⟩
          · by_cases h6 : k = 6
            · subst h6
              clear h1
              clear h2
              clear h3
              clear h4
              clear h5
              obtain ⟨V2, hV⟩ : ∃ V2, V2 = V1.alloc (.cells #[.string ⟨#[100, 97, 121, 48]⟩, .string ⟨#[100, 97, 121, 49]⟩, .string ⟨#[100, 97, 121, 50]⟩, .string ⟨#[100, 97, 121, 51]⟩, .string ⟨#[100, 97, 121, 52]⟩, .string ⟨#[100, 97, 121, 53]⟩, .string ⟨#[100, 97, 121, 54]⟩] 9) := ⟨_, rfl⟩
              have b2 := blk_new hV
              have hb := below_new hV
              replace h := (h.below hb).more hb.size
              replace b0 := blk_below b0 hb
              replace hbt := hbt.trans (hb.mono hbt.size)
              clear hb
              have HSV2 : Hid (V2.heap.size = V1.heap.size + 1) := by show V2.heap.size = _; rw [hV, World.size_alloc]
              have HVV2 := Lib.hid hV.symm
              clear hV
              rw [← HVV1.out] at HVV2
              rw [HSV1.out] at b2
              clear HSV2
              go_enter Tryz.func31, Tryz.ntmps31
              go_wp2_with fail
              rw [HVV2.out]
              go_ret
              exact ⟨_, rfl, own_blk (n := 7) b2 rfl rfl (by omega) (by omega), hbt⟩
            · by_cases h7 : k = 7
              · subst h7
                clear h1
                clear h2
                clear h3
                clear h4
                clear h5
                clear h6
                obtain ⟨V2, hV⟩ : ∃ V2, V2 = V1.alloc (.cells #[.string ⟨#[104, 111, 117, 115, 101, 48]⟩, .string ⟨#[104, 111, 117, 115, 101, 49]⟩, .string ⟨#[104, 111, 117, 115, 101, 50]⟩, .string ⟨#[104, 111, 117, 115, 101, 51]⟩, .string ⟨#[104, 111, 117, 115, 101, 52]⟩, .string ⟨#[104, 111, 117, 115, 101, 53]⟩, .string ⟨#[104, 111, 117, 115, 101, 54]⟩, .string ⟨#[104, 111, 117, 115, 101, 55]⟩] 9) := ⟨_, rfl⟩
                have b2 := blk_new hV
                have hb := below_new hV
                replace h := (h.below hb).more hb.size
                replace b0 := blk_below b0 hb
                replace hbt := hbt.trans (hb.mono hbt.size)
                clear hb
                have HSV2 : Hid (V2.heap.size = V1.heap.size + 1) := by show V2.heap.size = _; rw [hV, World.size_alloc]
                have HVV2 := Lib.hid hV.symm
                clear hV
                rw [← HVV1.out] at HVV2
                rw [HSV1.out] at b2
                clear HSV2
                go_enter Tryz.func31, Tryz.ntmps31
                go_wp2_with fail
                rw [HVV2.out]
                go_ret
                exact ⟨_, rfl, own_blk (n := 8) b2 rfl rfl (by omega) (by omega), hbt⟩
              · have HN : Hid (Sc.names s k = []) := by show _ = _; unfold Sc.names; rw [if_neg h1, if_neg h2, if_neg h3, if_neg h4, if_neg h5, if_neg h6, if_neg h7]
                rw [HN.out]
                go_enter Tryz.func31, Tryz.ntmps31
                have d1 : (k == 1) = false := by simp; omega
                have d2 : (k == 2) = false := by simp; omega
                have d3 : (k == 3) = false := by simp; omega
                have d4 : (k == 4) = false := by simp; omega
                have d5 : (k == 5) = false := by simp; omega
                have d6 : (k == 6) = false := by simp; omega
                have d7 : (k == 7) = false := by simp; omega
                clear h1 h2 h3 h4 h5 h6 h7
                go_wp2_with fail
                rw [HVV1.out]
                go_ret
                exact ⟨_, rfl, World.ownsRow_nil _ _ _ _, hbt⟩

end Go.Proofs.YtfockoihmoljfaaGreatDoor

/-
  The walk of the reference's named.
-/
namespace Go.Proofs.YtfockoihmoljfaaGreatDoor
open Go.RowKit Go.Shelf
set_option linter.unusedVariables false
set_option linter.unusedSimpArgs false

set_option maxRecDepth 100000 in
set_option maxHeartbeats 4000000 in
theorem rNames_ok (A : Option Addr) (n c : Nat) (l : List (List UInt8)) (w : World) (h : RdT w w.heap.size A n c l) (hs : ∀ x ∈ l, Sc.okT x) :
    Calls Tryz.prog 108 #[.slice A n c] w (Tells (Sc.namesOk l) w) := by
  have h1 := h.max
  have h2 := h.le
  have hl := Lib.hid h.len
  have hbt := Below.refl w.heap.size w
  have h0 := h
  have HOK := Lib.hid hs
  clear h hs
  go_enter Tryz.func108, Tryz.ntmps108
  go_wp2_with fail
  go_loopw [3, 4] (fun iv _ wr => ∃ j : Nat, j ≤ n ∧ iv = .int .i64 j ∧ Sc.namesOk (l.take j) ∧ Below w.heap.size w wr) (fun iv _ _ => n - (intOf iv).toNat)
  case atStart => exact ⟨0, by omega, rfl, by simpa using Sc.namesOk_nil, hbt⟩
  case round =>
    clear hbt
    obtain ⟨j, hj, rfl, htm, hbt⟩ := hrel
    by_cases hjn : j < n
    · have hjl : j < l.length := by rw [hl.out]; exact hjn
      have h9 := h0.below hbt
      obtain ⟨ad, rfl, hab, x0⟩ := h9.at_ hjn hjl
      have d1 : decide ((j : Int) < (n : Int)) = true := by simp; omega
      have d1' : decide (j < n) = true := by simp; omega
      have HB := Lib.hid (fun h => Sc.namesOk_bad hjl h)
      have HTW : ∀ k, (hk : k < j) → Hid ((l[k]'(by omega)) = l[j] → ¬ Sc.namesOk l) := fun k hk a => Sc.namesOk_twice hjl hk a
      have HST := Lib.hid (Sc.namesOk_step hjl)
      have HK : Hid (Sc.okT l[j]) := HOK.out _ (List.getElem_mem hjl)
      obtain ⟨z, hz⟩ : ∃ z, l[j] = z := ⟨_, rfl⟩
      rw [hz] at x0 HB HTW HST HK
      have HZ := Lib.hid hz
      clear hz
      go_wp2_with fail
      refine (rNamed_any z wr HK.out).mono ?_
      rintro e w2 ⟨b, rfl, hb, rfl⟩
      cases b
      · have HO : Hid (¬ Sc.namesOk l) := HB.out (fun hh => by have := hb.2 hh.1; cases this)
        clear hb HB HTW HST
        go_wp2_with fail
        go_ret
        exact ⟨_, rfl, ⟨(fun hh => by cases hh), fun hh => absurd hh HO.out⟩, hbt⟩
      · have HNM : Hid (Sc.nameOk z) := hb.1 rfl
        clear hb HB
        go_wp2_with fail
        have hbt1 := hbt
        clear x0 hbt h9
        go_loopw [4] (fun kv wq => ∃ k : Nat, k ≤ j ∧ kv = .int .i64 k ∧ z ∉ l.take k ∧ Below w.heap.size w wq) (fun kv _ => j - (intOf kv).toNat)
        case atStart => exact ⟨0, by omega, rfl, by simp, hbt1⟩
        case round =>
          clear hbt1
          obtain ⟨k, hk, rfl, hni, hbt⟩ := hrel
          by_cases hkj : k < j
          · have hkl : k < l.length := by omega
            have h9 := h0.below hbt
            obtain ⟨_, e0, _, x0⟩ := h9.at_ (show k < n by omega) hkl
            cases e0
            obtain ⟨_, e0, _, y0⟩ := h9.at_ hjn hjl
            cases e0
            clear h9
            rw [HZ.out] at y0
            have d2 : decide ((k : Int) < (j : Int)) = true := by simp; omega
            have d2' : decide (k < j) = true := by simp; omega
            have HTK := HTW k hkj
            have HNI := Lib.hid (fun hh => Sc.notin_step (x := z) hkl hni hh)
            clear HTW
            obtain ⟨y, hy⟩ : ∃ y, l[k] = y := ⟨_, rfl⟩
            rw [hy] at x0 HTK HNI
            clear hy HZ
            have HEQ := Lib.hid (str_beq y z)
            by_cases q5 : y = z
            · have HQ := Lib.hid q5
              clear q5
              have e5 : ((strOf y).toList == (strOf z).toList) = true := by rw [HEQ.out]; exact decide_eq_true HQ.out
              clear HEQ
              go_wp2_with fail
              go_quiet (fail)
              replace hbt := below_drewN' hbt nq
              go_wp2_with fail
              go_ret
              exact ⟨_, rfl, ⟨(fun hh => by cases hh), fun hh => absurd hh (HTK.out HQ.out)⟩, hbt⟩
            · have e5 : ((strOf y).toList == (strOf z).toList) = false := by rw [HEQ.out]; exact decide_eq_false q5
              clear HEQ
              go_wp2_with fail
              go_quiet (fail)
              replace hbt := below_drewN' hbt nq
              go_wp2_with fail
              go_roundw
              case rel => exact ⟨k + 1, by omega, by go_num, HNI.out q5, hbt⟩
              case measure => simp [intOf]; omega
          · obtain rfl : k = j := by omega
            have d2 : decide ((k : Int) < (k : Int)) = false := by simp
            have d2' : decide (k < k) = false := by simp
            have HO : Hid (Sc.namesOk (l.take (k + 1))) := HST.out.2 ⟨htm, HNM.out, hni⟩
            clear HST HTW HZ hni htm
            go_wp2_with fail
            go_roundw
            case rel => exact ⟨k + 1, by omega, by go_num, HO.out, hbt⟩
            case measure => simp [intOf]; omega
    · obtain rfl : j = n := by omega
      have d1 : decide ((j : Int) < (j : Int)) = false := by simp
      have d1' : decide (j < j) = false := by simp
      have HE : Hid (Sc.namesOk l) := by rw [List.take_of_length_le (by rw [hl.out]; omega)] at htm; exact htm
      clear htm
      go_wp2_with fail
      go_ret
      exact ⟨_, rfl, ⟨fun _ => HE.out, fun _ => rfl⟩, hbt⟩

end Go.Proofs.YtfockoihmoljfaaGreatDoor

