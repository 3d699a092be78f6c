/-
  Weeks of a school: plain words, no program in sight.
-/
import Derived.Test.YtojbjaklngdlcaaGreatDoorSchP
import Derived.Test.YtojbjaklngdlcaaGreatDoorLotA
namespace Go.Proofs.YtojbjaklngdlcaaGreatDoor.Wk
open Sc
set_option linter.unusedVariables false

/-- A valid index. -/
def idx (n : Int) (m : Nat) : Prop := 0 ≤ n ∧ n < (m : Int)
instance (n : Int) (m : Nat) : Decidable (idx n m) := by unfold idx; exact inferInstance
def atI (L S : Nat) (l s : Int) : Int := if idx l L ∧ idx s S then l * (S : Int) + s + 1 else 0
def inI (L S R : Nat) (l r : Int) : Int := if idx l L ∧ idx r R then (L : Int) * (S : Int) + l * (R : Int) + r + 1 else 0
/-- A valid week. -/
def placed (S R : Nat) (p : Pl) : Prop := idx p.1 S ∧ idx p.2 R
def wkOk (s : Sch) (ps : List Pl) : Prop := ps.length = s.lessons.length ∧ ∀ p ∈ ps, placed s.slots.length s.rooms.length p
open Classical in
/-- What week.Check answers. -/
noncomputable def wchk (s : Sch) (ps : List Pl) : Int := if chk s ≠ 0 then chk s else if wkOk s ps then 0 else 40
theorem wchk_err {s : Sch} {ps : List Pl} (h : chk s ≠ 0) : wchk s ps = chk s := by unfold wchk; rw [if_pos h]
theorem wchk_ok {s : Sch} {ps : List Pl} (h : chk s = 0) (h' : wkOk s ps) : wchk s ps = 0 := by unfold wchk; rw [if_neg (fun hh => hh h), if_pos h']
theorem wchk_bad {s : Sch} {ps : List Pl} (h : chk s = 0) (h' : ¬ wkOk s ps) : wchk s ps = 40 := by unfold wchk; rw [if_neg (fun hh => hh h), if_neg h']
theorem mul_lt {l S L : Nat} (h : l < L) {s : Nat} (hs : s < S) : l * S + s < L * S := by
  have : (l + 1) * S ≤ L * S := Nat.mul_le_mul_right S h
  rw [Nat.succ_mul] at this
  omega
/-- The last index below n at which p holds, and how many there are. -/
def onl (p : Nat → Bool) : Nat → Nat × Nat
  | 0 => (0, 0)
  | n + 1 => if p n = true then (n, (onl p n).2 + 1) else onl p n
theorem onl_le (p : Nat → Bool) : ∀ n, (onl p n).2 ≤ n
  | 0 => Nat.le_refl _
  | n + 1 => by
    have := onl_le p n
    unfold onl
    split
    · simp; omega
    · omega
theorem onl_lt (p : Nat → Bool) : ∀ n, (onl p n).1 ≤ n
  | 0 => Nat.le_refl _
  | n + 1 => by
    have := onl_lt p n
    unfold onl
    split
    · simp
    · omega
theorem onl_yes {p : Nat → Bool} {n : Nat} (h : p n = true) : onl p (n + 1) = (n, (onl p n).2 + 1) := by rw [onl, if_pos h]
theorem onl_no {p : Nat → Bool} {n : Nat} (h : p n = false) : onl p (n + 1) = onl p n := by rw [onl, if_neg (by rw [h]; simp)]
/-- Whether a variable holds; beyond the assignment none does. -/
def holds (a : List Bool) (v : Int) : Bool := decide (v < (a.length : Int)) && a.getD v.toNat false
def slotOf (L S : Nat) (a : List Bool) (j : Nat) : Nat × Nat := onl (fun n => holds a (atI L S j n)) S
def roomOf (L S R : Nat) (a : List Bool) (j : Nat) : Nat × Nat := onl (fun n => holds a (inI L S R j n)) R
def ofOk (L S R : Nat) (a : List Bool) (j : Nat) : Prop := (slotOf L S a j).2 = 1 ∧ (roomOf L S R a j).2 = 1
def ofPl (L S R : Nat) (a : List Bool) (j : Nat) : Pl := (((slotOf L S a j).1 : Nat), ((roomOf L S R a j).1 : Nat))
open Classical in
/-- What Of answers. -/
noncomputable def ofR (s : Sch) (a : List Bool) : List Pl × Int :=
  if chk s ≠ 0 then ([], chk s)
  else if ∀ j, j < s.lessons.length → ofOk s.lessons.length s.slots.length s.rooms.length a j then ((List.range s.lessons.length).map (ofPl s.lessons.length s.slots.length s.rooms.length a), 0)
  else ([], 40)
/-- The assignment after k lessons. -/
def trK (L S R : Nat) (ps : List Pl) : Nat → List Bool
  | 0 => List.replicate (L * (S + R) + 1) false
  | k + 1 => ((trK L S R ps k).set (atI L S k (ps.getD k (0, 0)).1).toNat true).set (inI L S R k (ps.getD k (0, 0)).2).toNat true
theorem trK_length (L S R : Nat) (ps : List Pl) : ∀ k, (trK L S R ps k).length = L * (S + R) + 1
  | 0 => by simp [trK]
  | k + 1 => by rw [trK, List.length_set, List.length_set, trK_length L S R ps k]
open Classical in
/-- What True answers. -/
noncomputable def trR (s : Sch) (ps : List Pl) : List Bool × Int :=
  if wchk s ps ≠ 0 then ([], wchk s ps) else (trK s.lessons.length s.slots.length s.rooms.length ps s.lessons.length, 0)
theorem at_range {L S : Nat} {l s : Int} (hl : idx l L) (hs : idx s S) (R : Nat) : ∃ v : Nat, atI L S l s = (v : Int) ∧ v < L * (S + R) + 1 ∧ 1 ≤ v ∧ v ≤ L * S := by
  obtain ⟨l0, l1⟩ := hl
  obtain ⟨s0, s1⟩ := hs
  obtain ⟨l, rfl⟩ : ∃ k : Nat, l = k := ⟨l.toNat, by omega⟩
  obtain ⟨s, rfl⟩ : ∃ k : Nat, s = k := ⟨s.toNat, by omega⟩
  have h := mul_lt (show l < L by omega) (show s < S by omega)
  refine ⟨l * S + s + 1, ?_, ?_, by omega, by omega⟩
  · unfold atI
    rw [if_pos ⟨⟨l0, l1⟩, ⟨s0, s1⟩⟩]
    simp
  · rw [Nat.mul_add]; omega
theorem in_range {L S R : Nat} {l r : Int} (hl : idx l L) (hs : idx r R) : ∃ v : Nat, inI L S R l r = (v : Int) ∧ v < L * (S + R) + 1 ∧ L * S < v := by
  obtain ⟨l0, l1⟩ := hl
  obtain ⟨s0, s1⟩ := hs
  obtain ⟨l, rfl⟩ : ∃ k : Nat, l = k := ⟨l.toNat, by omega⟩
  obtain ⟨r, rfl⟩ : ∃ k : Nat, r = k := ⟨r.toNat, by omega⟩
  have h := mul_lt (show l < L by omega) (show r < R by omega)
  refine ⟨L * S + l * R + r + 1, ?_, ?_, by omega⟩
  · unfold inI
    rw [if_pos ⟨⟨l0, l1⟩, ⟨s0, s1⟩⟩]
    simp
  · rw [Nat.mul_add]; omega
theorem wchk_zero {s : Sch} {ps : List Pl} (h : wchk s ps = 0) : chk s = 0 ∧ wkOk s ps := by
  unfold wchk at h
  split at h
  · rename_i h1; exact absurd h h1
  · rename_i h1
    refine ⟨Classical.not_not.1 h1, ?_⟩
    split at h
    · assumption
    · simp at h
end Go.Proofs.YtojbjaklngdlcaaGreatDoor.Wk
