/-
  The laws' example: a school of two slots, two rooms and two lessons; plain facts.
-/
import Derived.Test.YtojbjaklngdlcaaGreatDoorWkA
import Derived.Test.YtojbjaklngdlcaaGreatDoorAllW
namespace Go.Proofs.YtojbjaklngdlcaaGreatDoor
open Sc
set_option linter.unusedVariables false
namespace Sc
def standsB (l x : List UInt8) : Bool := (List.range (l.length + 1)).any fun i => decide (i + x.length ≤ l.length) && decide ((l.drop i).take x.length = x)
theorem standsB_iff {l x : List UInt8} : standsB l x = true ↔ standsIn l x := by
  unfold standsB standsIn
  rw [List.any_eq_true]
  constructor
  · rintro ⟨i, _, h⟩
    rw [Bool.and_eq_true, decide_eq_true_iff, decide_eq_true_iff] at h
    exact ⟨i, h⟩
  · rintro ⟨i, h1, h2⟩
    exact ⟨i, List.mem_range.2 (by omega), by rw [Bool.and_eq_true, decide_eq_true_iff, decide_eq_true_iff]; exact ⟨h1, h2⟩⟩
def headB : List UInt8 → Bool
  | [] => false
  | c :: _ => decide (97 ≤ c.toNat)
def nameB (s : List UInt8) : Bool := headB s && decide (s.length ≤ 64) && s.all inner && !standsB reserved (32 :: (s ++ [32]))
theorem nameB_ok {s : List UInt8} : nameB s = true ↔ nameOk s := by
  unfold nameB nameOk
  rw [Bool.and_eq_true, Bool.and_eq_true, Bool.and_eq_true, decide_eq_true_iff, List.all_eq_true, Bool.not_eq_true', ← Bool.not_eq_true, standsB_iff, and_assoc, and_assoc]
  refine and_congr ?_ Iff.rfl
  cases s with
  | nil => simp [headB]
  | cons c r => simp [headB]
theorem namesB_ok {l : List (List UInt8)} (h : l.all nameB = true) (h2 : l.Nodup) : namesOk l := ⟨fun x hx => nameB_ok.1 (List.all_eq_true.1 h x hx), h2⟩
theorem chk_pos {s : Sch} (h : chk s = 0) : 0 < s.slots.length ∧ 0 < s.rooms.length := by
  obtain ⟨⟨_, _, h1, h2, _⟩, _⟩ := chk_ok.1 h
  exact ⟨List.length_pos_iff.2 h1, List.length_pos_iff.2 h2⟩
theorem chk_small {s : Sch} (h : chk s = 0) : s.slots.length ≤ 50 ∧ s.rooms.length ≤ 32 ∧ s.people.length ≤ 64 ∧ s.groups.length ≤ 64 ∧ s.lessons.length ≤ 64 := by
  obtain ⟨_, h2⟩ := chk_ok.1 h
  unfold Big at h2
  omega
end Sc
namespace Wk
def two : Sch := { slots := [⟨[115, 48], 0, 0⟩, ⟨[115, 49], 0, 1⟩], rooms := [⟨[114, 48], 0, 9, []⟩, ⟨[114, 49], 0, 9, []⟩], people := [], groups := [], lessons := [⟨[108, 48], [], []⟩, ⟨[108, 49], [], []⟩] }
def two0 : List Pl := [(0, 0), (0, 0)]
def two1 : List Pl := [(0, 0), (0, 1)]
def twoA : List Bool := [false, true, false, true, false, true, false, false, true]
theorem two_ok : chk two = 0 := by
  refine chk_good ⟨fun k h1 h2 => ?_, ⟨?_, ?_⟩, ?_, ?_, ?_, ?_, ?_, ?_⟩ ?_
  · have hk : k = 1 ∨ k = 2 ∨ k = 3 ∨ k = 4 ∨ k = 5 := by omega
    rcases hk with rfl | rfl | rfl | rfl | rfl
    · exact namesB_ok (by decide +kernel) (by decide +kernel)
    · exact namesB_ok (by decide +kernel) (by decide +kernel)
    · exact namesB_ok (by decide +kernel) (by decide +kernel)
    · exact namesB_ok (by decide +kernel) (by decide +kernel)
    · exact namesB_ok (by decide +kernel) (by decide +kernel)
  · intro x hx
    simp [two] at hx
    rcases hx with rfl | rfl <;> simp [within]
  · decide
  · simp [two]
  · simp [two]
  · intro x hx
    simp [two] at hx
    rcases hx with rfl | rfl <;> exact ⟨by simp [within], by simp [within], incr_nil _⟩
  · intro x hx; simp [two] at hx
  · intro x hx; simp [two] at hx
  · intro x hx
    simp [two] at hx
    rcases hx with rfl | rfl <;> exact ⟨incr_nil _, incr_nil _⟩
  · simp [Big, two]
theorem two_all16 : allR two 16 = ((List.range 16).map (dec 2 2 2), 0) := by
  unfold allR
  rw [if_neg (fun h => h two_ok), if_neg (by omega), if_neg (by decide)]
  rfl
theorem two_all15 : allR two 15 = ([], 2) := by
  unfold allR
  rw [if_neg (fun h => h two_ok), if_neg (by omega), if_pos (by decide)]
theorem two_l0 : ((List.range 16).map (dec 2 2 2))[0]? = some two0 := by decide
theorem two_l1 : ((List.range 16).map (dec 2 2 2))[1]? = some two1 := by decide
theorem two_wk1 : wkOk two two1 := ⟨rfl, by intro p hp; simp [two1] at hp; rcases hp with rfl | rfl <;> simp [placed, idx, two]⟩
theorem two_chk1 : wchk two two1 = 0 := wchk_ok two_ok two_wk1
theorem two_chk0 : wchk two [] = 40 := wchk_bad two_ok (fun h => by have := h.1; simp [two] at this)
theorem two_true : trR two two1 = (twoA, 0) := by
  unfold trR
  rw [if_neg (fun h => h two_chk1)]
  decide
theorem two_of : ofR two twoA = (two1, 0) := by
  unfold ofR
  rw [if_neg (fun h => h two_ok), if_pos ?_]
  · decide
  · intro j hj
    have : j = 0 ∨ j = 1 := by simp [two] at hj; omega
    rcases this with rfl | rfl <;> exact ⟨by decide, by decide⟩
theorem two_diff : diffL two0 two1 = [⟨1, (0, 1)⟩] ∧ diffE two0 two1 = 0 := by decide
theorem two_apply : appL two0 [⟨1, (0, 1)⟩] = two1 ∧ appE two0 [⟨1, (0, 1)⟩] = 0 := by decide
theorem two_get : Vi.getW ([7] ++ Vi.putW two1) 1 = (two1, 6, 0) := by decide +kernel
theorem two_put : (Vi.putW two1).length = 5 := by decide +kernel
theorem two_at : atI 2 2 1 0 = 3 ∧ inI 2 2 2 0 1 = 6 ∧ atI 2 2 2 0 = 0 ∧ inI 2 2 2 0 2 = 0 := by decide
end Wk
end Go.Proofs.YtojbjaklngdlcaaGreatDoor
