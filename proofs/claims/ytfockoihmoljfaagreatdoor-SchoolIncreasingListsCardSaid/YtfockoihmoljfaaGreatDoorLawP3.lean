/-
  What the laws of schools say of valid schools; plain, no program in sight.
-/
import Derived.Test.YtfockoihmoljfaaGreatDoorExP
namespace Go.Proofs.YtfockoihmoljfaaGreatDoor
open Sc
set_option linter.unusedVariables false
theorem Sc.RdSch.lens {w : World} {B : Nat} {f : Sc.Five} {s : Sc.Sch} (h : Sc.RdSch w B f s) : s.slots.length = f.nS ∧ s.rooms.length = f.nR ∧ s.people.length = f.nP ∧ s.groups.length = f.nG ∧ s.lessons.length = f.nL :=
  ⟨h.slots.len (by omega), h.rooms.len (by omega), h.people.len (by omega), h.groups.len (by omega), h.lessons.len (by omega)⟩
namespace Sc
/-! Find inverts Name. -/
theorem names_far {s : Sch} {k : Int} (h : k < 1 ∨ 7 < k) : names s k = [] := by
  unfold names
  rw [if_neg (by omega), if_neg (by omega), if_neg (by omega), if_neg (by omega), if_neg (by omega), if_neg (by omega), if_neg (by omega)]
theorem names_6 {s : Sch} : names s 6 = days := rfl
theorem names_7 {s : Sch} : names s 7 = houses := rfl
theorem nameOk_ne {x : List UInt8} (h : nameOk x) : x ≠ [] := by
  obtain ⟨⟨c, r, rfl, _⟩, _⟩ := h
  simp
/-- The names of a valid school: none empty, no two alike, at most 64. -/
theorem names_good {s : Sch} (h : chk s = 0) (k : Int) : (∀ x ∈ names s k, x ≠ []) ∧ (names s k).Nodup ∧ (names s k).length ≤ 64 := by
  have hb := (bounds_of h).1
  obtain ⟨⟨hn, _⟩, _⟩ := chk_ok.1 h
  by_cases h1 : 1 ≤ k ∧ k ≤ 5
  · have hk := hn k h1.1 h1.2
    refine ⟨fun x hx => nameOk_ne (hk.1 x hx), hk.2, ?_⟩
    have hcases : k = 1 ∨ k = 2 ∨ k = 3 ∨ k = 4 ∨ k = 5 := by omega
    rcases hcases with rfl | rfl | rfl | rfl | rfl <;> simp [names] <;> omega
  · by_cases h6 : k = 6
    · subst h6
      rw [names_6]
      exact ⟨by decide +kernel, by decide +kernel, by decide +kernel⟩
    · by_cases h7 : k = 7
      · subst h7
        rw [names_7]
        exact ⟨by decide +kernel, by decide +kernel, by decide +kernel⟩
      · rw [names_far (by omega)]
        simp
theorem find_out {s : Sch} (h : chk s = 0) {k x : Int} (hx : x < 0 ∨ ((names s k).length : Int) ≤ x) : nameAt (names s k) x = [] ∧ findR (names s k) [] = (0, false) :=
  ⟨nameAt_no hx, findR_no fun y hy => (names_good h k).1 y hy⟩
theorem find_in {s : Sch} (h : chk s = 0) {k : Int} {j : Nat} (hj : j < (names s k).length) : nameAt (names s k) (j : Int) ≠ [] ∧ findR (names s k) (nameAt (names s k) (j : Int)) = ((j : Int), true) ∧ 1 ≤ k ∧ k ≤ 7 ∧ (names s k).length ≤ 64 := by
  obtain ⟨g1, g2, g3⟩ := names_good h k
  rw [nameAt_yes hj]
  refine ⟨g1 _ (List.getElem_mem hj), findR_yes hj (fun y hy e => ?_) rfl, ?_, ?_, g3⟩
  · obtain ⟨i, hi, rfl⟩ := List.getElem_of_mem hy
    rw [List.length_take] at hi
    rw [List.getElem_take] at e
    have := List.pairwise_iff_getElem.1 g2 i j (by omega) hj (by omega)
    exact this e
  · rcases Int.lt_or_le k 1 with h1 | h1
    · rw [names_far (.inl h1)] at hj; simp at hj
    · exact h1
  · rcases Int.lt_or_le 7 k with h1 | h1
    · rw [names_far (.inr h1)] at hj; simp at hj
    · exact h1

/-! The size of a lesson. -/
theorem groups_bd {s : Sch} (h : chk s = 0) : ∀ y ∈ s.groups, 0 ≤ y.size ∧ y.size ≤ 1000 := by
  obtain ⟨⟨_, _, _, _, _, _, hg, _⟩, _⟩ := chk_ok.1 h
  exact fun y hy => hg y hy
theorem lists_bd {s : Sch} (h : chk s = 0) : ∀ y ∈ s.lessons, y.groups.length ≤ 1000 := fun y hy => by
  have := ((bounds_of h).2.2.2 y hy).2
  omega
/-- The sizes of the first n groups among a list, summed. -/
def sumTo (gs : List Gro) (l : List Int) (n : Nat) : Int := ((gs.take n).zipIdx.map fun p => if (p.2 : Int) ∈ l then p.1.size else 0).sum
theorem sumTo_zero {gs : List Gro} {l : List Int} : sumTo gs l 0 = 0 := by simp [sumTo]
theorem sumTo_succ {gs : List Gro} {l : List Int} {n : Nat} (h : n < gs.length) : sumTo gs l (n + 1) = sumTo gs l n + (if (n : Int) ∈ l then gs[n].size else 0) := by
  unfold sumTo
  rw [List.take_succ_eq_append_getElem h, List.zipIdx_append, List.map_append, List.sum_append]
  simp [Nat.min_eq_left (Nat.le_of_lt h)]
theorem sumTo_bd {gs : List Gro} (hg : ∀ y ∈ gs, 0 ≤ y.size ∧ y.size ≤ 1000) {l : List Int} : ∀ {n : Nat}, n ≤ gs.length → 0 ≤ sumTo gs l n ∧ sumTo gs l n ≤ 1000 * n
  | 0, _ => by simp [sumTo_zero]
  | n + 1, h => by
    have h1 := sumTo_bd hg (l := l) (n := n) (by omega)
    have h2 := hg gs[n] (List.getElem_mem (by omega))
    rw [sumTo_succ (by omega)]
    split <;> omega
theorem sumTo_snoc {gs : List Gro} {l : List Int} {x : Int} (hx : x ∉ l) : ∀ {n : Nat}, n ≤ gs.length → sumTo gs (l ++ [x]) n = sumTo gs l n + (if 0 ≤ x ∧ x < n then sizeG gs x else 0)
  | 0, _ => by
    rw [sumTo_zero, sumTo_zero, if_neg (by omega)]; rfl
  | n + 1, h => by
    rw [sumTo_succ (by omega), sumTo_succ (by omega), sumTo_snoc hx (by omega)]
    by_cases hn : (n : Int) = x
    · have e1 : (n : Int) ∈ l ++ [x] := by rw [hn]; simp
      have e2 : (n : Int) ∉ l := by rw [hn]; exact hx
      have e3 : sizeG gs x = (gs[n]'(by omega)).size := by
        subst hn
        unfold sizeG
        rw [if_pos (by omega), Int.toNat_natCast, List.getElem?_eq_getElem (by omega)]
      rw [if_pos e1, if_neg e2, if_neg (show ¬ (0 ≤ x ∧ x < (n : Int)) by omega), if_pos (show 0 ≤ x ∧ x < ((n + 1 : Nat) : Int) by omega), e3]
      try omega
    · have e : ((n : Int) ∈ l ++ [x]) ↔ (n : Int) ∈ l := by simp [hn]
      simp only [e]
      by_cases h2 : 0 ≤ x ∧ x < (n : Int)
      · rw [if_pos h2, if_pos (show 0 ≤ x ∧ x < ((n + 1 : Nat) : Int) by omega)]; omega
      · rw [if_neg h2, if_neg (show ¬ (0 ≤ x ∧ x < ((n + 1 : Nat) : Int)) by omega)]; omega
theorem sumTo_all {gs : List Gro} {l : List Int} (hl : incr l gs.length) : sumTo gs l gs.length = sizeL gs l := by
  have key : ∀ j, j ≤ l.length → sumTo gs (l.take j) gs.length = sizeL gs (l.take j) := by
    intro j
    induction j with
    | zero =>
      intro _
      rw [List.take_zero]
      have : ∀ n, n ≤ gs.length → sumTo gs [] n = 0 := by
        intro n
        induction n with
        | zero => intro _; exact sumTo_zero
        | succ n ih => intro h; rw [sumTo_succ (by omega), ih (by omega), if_neg (by simp)]; rfl
      rw [this _ (Nat.le_refl _)]
      rfl
    | succ j ih =>
      intro hj
      have hx : l[j] ∉ l.take j := by
        intro hm
        obtain ⟨i, hi, e⟩ := List.getElem_of_mem hm
        rw [List.length_take] at hi
        rw [List.getElem_take] at e
        have := List.pairwise_iff_getElem.1 hl.1 i j (by omega) (by omega) (by omega)
        omega
      have hr := hl.2 l[j] (List.getElem_mem (by omega))
      rw [sizeL_snoc (by omega), List.take_succ_eq_append_getElem (by omega), sumTo_snoc hx (Nat.le_refl _), ih (by omega), if_pos hr]
  have := key l.length (Nat.le_refl _)
  rwa [List.take_length] at this
/-- Whether a group attends a lesson, by its list; none for a lesson that is not there. -/
def groupsAt (s : Sch) (x : Int) : List Int := if 0 ≤ x then (match s.lessons[x.toNat]? with | some y => y.groups | none => []) else []
theorem att_iff {s : Sch} {x n : Int} : hasIn s.lessons (·.groups) x n ↔ n ∈ groupsAt s x := by
  unfold hasIn groupsAt
  split
  · rename_i h
    cases hy : s.lessons[x.toNat]? with
    | none => simp [h]
    | some y => simp [h]
  · rename_i h
    simp [h]
theorem size_sum {s : Sch} (h : chk s = 0) (x : Int) : sumTo s.groups (groupsAt s x) s.groups.length = sizeS s x := by
  obtain ⟨⟨_, _, _, _, _, _, _, hl⟩, _⟩ := chk_ok.1 h
  have nil0 : sumTo s.groups [] s.groups.length = 0 := by
    have := sumTo_all (gs := s.groups) (l := []) (incr_nil _)
    rw [this]; rfl
  unfold sizeS groupsAt
  split
  · cases hy : s.lessons[x.toNat]? with
    | none => exact nil0
    | some y => exact sumTo_all (hl y (List.mem_of_getElem? hy)).2
  · exact nil0
theorem teach_in {s : Sch} {x n : Int} (h : hasIn s.lessons (·.who) x n) : 0 ≤ x ∧ x < (s.lessons.length : Int) := by
  obtain ⟨h1, y, hy, _⟩ := h
  have := (List.getElem?_eq_some_iff.1 hy).1
  omega

/-! Two closed slots. -/
def shutAt (s : Sch) (k : Nat) (a b : Int) : Sch := { s with rooms := s.rooms.modify k fun x => { x with shut := [a, b] } }
theorem names_shut {s : Sch} {k : Nat} {a b : Int} (j : Int) : names (shutAt s k a b) j = names s j := by
  unfold names shutAt
  have : (s.rooms.modify k fun x => { x with shut := [a, b] }).map (·.name) = s.rooms.map (·.name) := by
    apply List.ext_getElem?
    intro i
    simp only [List.getElem?_map, List.getElem?_modify]
    cases s.rooms[i]? with
    | none => simp
    | some y => by_cases h : k = i <;> simp [h]
  simp only [this]
theorem incr_two {a b : Int} {n : Nat} : incr [a, b] n ↔ 0 ≤ a ∧ a < b ∧ b < (n : Int) := by
  unfold incr
  simp
  constructor
  · rintro ⟨h1, ⟨h2, h3⟩, h4, h5⟩; exact ⟨h2, h1, h5⟩
  · rintro ⟨h1, h2, h3⟩; exact ⟨h2, ⟨h1, by omega⟩, by omega, h3⟩
theorem shut_chk {s : Sch} (h : chk s = 0) {k : Nat} (hk : k < s.rooms.length) {a b : Int} : chk (shutAt s k a b) = 0 ↔ (0 ≤ a ∧ a < b ∧ b < (s.slots.length : Int)) := by
  obtain ⟨⟨hn, ht, h1, h2, hr, hp, hg, hl⟩, hb⟩ := chk_ok.1 h
  rw [chk_ok, ← incr_two]
  have hlen : (shutAt s k a b).rooms.length = s.rooms.length := by simp [shutAt]
  have hbig : Big (shutAt s k a b) ↔ Big s := by unfold Big; rw [hlen]; rfl
  constructor
  · rintro ⟨⟨_, _, _, _, hr', _⟩, _⟩
    have : (shutAt s k a b).rooms[k]? = some { s.rooms[k] with shut := [a, b] } := by
      simp only [shutAt, List.getElem?_modify, List.getElem?_eq_getElem hk]
      simp
    exact (hr' _ (List.mem_of_getElem? this)).2.2
  · intro hi
    refine ⟨⟨fun j j1 j2 => by rw [names_shut]; exact hn j j1 j2, ht, h1, fun e => ?_, fun x hx => ?_, hp, hg, hl⟩, fun hh => hb (hbig.1 hh)⟩
    · rw [← List.length_eq_zero_iff, hlen] at e; omega
    · obtain ⟨i, hi', rfl⟩ := List.getElem_of_mem hx
      have hx2 : (shutAt s k a b).rooms[i]? = some (shutAt s k a b).rooms[i] := List.getElem?_eq_getElem hi'
      generalize (shutAt s k a b).rooms[i] = y at hx2 ⊢
      simp only [shutAt, List.getElem?_modify] at hx2
      obtain ⟨z, hz, hy⟩ := Option.map_eq_some_iff.1 hx2
      have hz' := hr z (List.mem_of_getElem? hz)
      by_cases hki : k = i
      · rw [if_pos hki] at hy
        subst hy
        exact ⟨hz'.1, hz'.2.1, hi⟩
      · rw [if_neg hki] at hy
        subst hy
        exact hz'
theorem shut_at {s : Sch} {k : Nat} (hk : k < s.rooms.length) {a b t : Int} : hasIn (shutAt s k a b).rooms (·.shut) (k : Int) t ↔ (t = a ∨ t = b) := by
  unfold hasIn
  have : (shutAt s k a b).rooms[((k : Int)).toNat]? = some { s.rooms[k] with shut := [a, b] } := by
    rw [Int.toNat_natCast]
    simp only [shutAt, List.getElem?_modify, List.getElem?_eq_getElem hk]
    simp
  rw [this]
  simp
end Sc
end Go.Proofs.YtfockoihmoljfaaGreatDoor
