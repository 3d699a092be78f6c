/-
  The reference's look at a school, step by step; no program in sight.
-/
import Derived.Test.YtojbjaklngdlcaaGreatDoorSchP
import Derived.Test.YtojbjaklngdlcaaGreatDoorLotA
namespace Go.Proofs.YtojbjaklngdlcaaGreatDoor.Sc
set_option linter.unusedVariables false

theorem toNat_le_iff (c : UInt8) (k : Nat) : True := trivial
/-- The text x doesn't stand in l before j. -/
def clear (l x : List UInt8) (j : Nat) : Prop := ∀ q, q < j → q + x.length ≤ l.length → (l.drop q).take x.length ≠ x
theorem clear_zero (l x : List UInt8) : clear l x 0 := fun q h => by omega
theorem clear_step {l x : List UInt8} {j : Nat} (h : clear l x j) (hj : (l.drop j).take x.length ≠ x) : clear l x (j + 1) := fun q h1 h2 => by
  by_cases e : q = j
  · subst e; exact hj
  · exact h q (by omega) h2
theorem stands_yes {l x : List UInt8} {j : Nat} (hj : j + x.length ≤ l.length) (h : (l.drop j).take x.length = x) : standsIn l x := ⟨j, hj, h⟩
theorem stands_no {l x : List UInt8} {j : Nat} (h : clear l x j) (hj : l.length < j + x.length) : ¬ standsIn l x := fun ⟨i, h1, h2⟩ => h i (by omega) h1 h2

/-- What the reference asks of the byte at q. -/
def okAt (s : List UInt8) (j : Nat) : Prop := ∀ q, (h : q < s.length) → q < j → inner s[q] = true ∧ (q = 0 → 97 ≤ (s[q]).toNat)
theorem okAt_zero (s : List UInt8) : okAt s 0 := fun q _ h => by omega
theorem okAt_step {s : List UInt8} {j : Nat} (hj : j < s.length) : okAt s (j + 1) ↔ okAt s j ∧ inner s[j] = true ∧ (j = 0 → 97 ≤ (s[j]).toNat) := by
  constructor
  · intro h
    exact ⟨fun q hq hl => h q hq (by omega), h j hj (by omega)⟩
  · rintro ⟨h1, h2⟩ q hq hl
    by_cases e : q = j
    · subst e; exact h2
    · exact h1 q hq (by omega)
theorem nameOk_iff (s : List UInt8) : nameOk s ↔ okAt s s.length ∧ 1 ≤ s.length ∧ s.length ≤ 64 ∧ ¬ standsIn reserved (32 :: (s ++ [32])) := by
  unfold nameOk
  constructor
  · rintro ⟨⟨c, r, rfl, hc⟩, h2, h3, h4⟩
    refine ⟨fun q hq _ => ⟨h3 _ (List.getElem_mem hq), ?_⟩, by simp, h2, h4⟩
    rintro rfl
    exact hc
  · rintro ⟨h1, h2, h3, h4⟩
    refine ⟨?_, h3, fun c hc => ?_, h4⟩
    · cases s with
      | nil => simp at h2
      | cons c r => exact ⟨c, r, rfl, (h1 0 (by simp) (by simp)).2 rfl⟩
    · obtain ⟨i, hi, rfl⟩ := List.getElem_of_mem hc
      exact (h1 i hi hi).1
theorem nameOk_bad {s : List UInt8} {j : Nat} (hj : j < s.length) (h : ¬ (inner s[j] = true ∧ (j = 0 → 97 ≤ (s[j]).toNat))) : ¬ nameOk s := fun hn => h (((nameOk_iff s).1 hn).1 j hj hj)

/-- Names up to j, none of them like an earlier one. -/
theorem namesOk_nil : namesOk [] := ⟨by simp, List.nodup_nil⟩
theorem namesOk_bad {l : List (List UInt8)} {i : Nat} (hi : i < l.length) (h : ¬ (nameOk l[i] ∧ l[i] ∉ l.take i)) : ¬ namesOk l := fun hh => by
  have := namesOk_take hh (i + 1)
  rw [namesOk_step hi] at this
  exact h this.2
theorem namesOk_twice {l : List (List UInt8)} {i k : Nat} (hi : i < l.length) (hk : k < i) (h : l[k]'(by omega) = l[i]) : ¬ namesOk l := namesOk_bad hi (fun hh => hh.2 (by
  rw [← h]
  exact List.mem_take_iff_getElem.2 ⟨k, by omega, rfl⟩))
theorem notin_zero {α : Type} (l : List α) (x : α) : x ∉ l.take 0 := by simp
theorem notin_step {α : Type} {l : List α} {x : α} {k : Nat} (hk : k < l.length) (h : x ∉ l.take k) (hx : l[k] ≠ x) : x ∉ l.take (k + 1) := by
  rw [List.take_succ_eq_append_getElem hk]
  intro hh
  rcases List.mem_append.1 hh with h1 | h1
  · exact h h1
  · rw [List.mem_singleton] at h1; exact hx h1.symm
theorem timesOk_nil : timesOk [] := ⟨by simp, by simp⟩
theorem timesOk_bad {l : List Slo} {i : Nat} (hi : i < l.length) (h : ¬ (within l[i].day 6 ∧ within l[i].hour 11 ∧ (l[i].day, l[i].hour) ∉ (l.take i).map fun x => (x.day, x.hour))) : ¬ timesOk l := fun hh => by
  have := timesOk_take hh (i + 1)
  rw [timesOk_step hi] at this
  exact h this.2
theorem time_twice {l : List Slo} {i k : Nat} (hi : i < l.length) (hk : k < i) (h1 : (l[k]'(by omega)).day = l[i].day) (h2 : (l[k]'(by omega)).hour = l[i].hour) : ¬ timesOk l := timesOk_bad hi (fun hh => hh.2.2 (by
  rw [List.mem_map]
  exact ⟨l[k]'(by omega), List.mem_take_iff_getElem.2 ⟨k, by omega, rfl⟩, by rw [h1, h2]⟩))
theorem time_step {l : List Slo} {p : Int × Int} {k : Nat} (hk : k < l.length) (h : p ∉ (l.take k).map fun x => (x.day, x.hour)) (hx : ¬ (l[k].day = p.1 ∧ l[k].hour = p.2)) : p ∉ (l.take (k + 1)).map fun x => (x.day, x.hour) := by
  rw [List.take_succ_eq_append_getElem hk, List.map_append]
  intro hh
  rcases List.mem_append.1 hh with h1 | h1
  · exact h h1
  · simp at h1
    exact hx ⟨by rw [h1], by rw [h1]⟩
/-- In a strictly increasing list the last of the first j is the one before j. -/
theorem last_at {l : List Int} {j : Nat} (hj : 0 < j) (hl : j ≤ l.length) : (l.take j).getLast?.getD (-1) = l[j - 1]'(by omega) := by
  obtain ⟨i, rfl⟩ : ∃ i, j = i + 1 := ⟨j - 1, by omega⟩
  rw [last_step (by omega)]
  simp
end Go.Proofs.YtojbjaklngdlcaaGreatDoor.Sc
