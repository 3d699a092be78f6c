/-
  The laws' example of a school; plain facts.
-/
import Derived.Test.YtfockoihmoljfaaGreatDoorSchG
import Derived.Test.YtfockoihmoljfaaGreatDoorLotC
import Derived.Test.YtfockoihmoljfaaGreatDoorLotS
import Derived.Test.YtfockoihmoljfaaGreatDoorExW
import Derived.Test.YtfockoihmoljfaaGreatDoorHasW
namespace Go.Proofs.YtfockoihmoljfaaGreatDoor
open Sc
set_option linter.unusedVariables false
namespace Sc
def standsB (l x : List UInt8) : Bool := (List.range (l.length + 1)).any fun i => decide (i + x.length ≤ l.length) && decide ((l.drop i).take x.length = x)
theorem standsB_iff {l x : List UInt8} : standsB l x = true ↔ standsIn l x := by
  unfold standsB standsIn
  rw [List.any_eq_true]
  constructor
  · rintro ⟨i, _, h⟩
    rw [Bool.and_eq_true, decide_eq_true_iff, decide_eq_true_iff] at h
    exact ⟨i, h⟩
  · rintro ⟨i, h1, h2⟩
    exact ⟨i, List.mem_range.2 (by omega), by rw [Bool.and_eq_true, decide_eq_true_iff, decide_eq_true_iff]; exact ⟨h1, h2⟩⟩
def headB : List UInt8 → Bool
  | [] => false
  | c :: _ => decide (97 ≤ c.toNat)
def nameB (s : List UInt8) : Bool := headB s && decide (s.length ≤ 64) && s.all inner && !standsB reserved (32 :: (s ++ [32]))
theorem nameB_ok {s : List UInt8} : nameB s = true ↔ nameOk s := by
  unfold nameB nameOk
  rw [Bool.and_eq_true, Bool.and_eq_true, Bool.and_eq_true, decide_eq_true_iff, List.all_eq_true, Bool.not_eq_true', ← Bool.not_eq_true, standsB_iff, and_assoc, and_assoc]
  refine and_congr ?_ Iff.rfl
  cases s with
  | nil => simp [headB]
  | cons c r => simp [headB]
theorem namesB_ok {l : List (List UInt8)} (h : l.all nameB = true) (h2 : l.Nodup) : namesOk l := ⟨fun x hx => nameB_ok.1 (List.all_eq_true.1 h x hx), h2⟩
theorem incr_one {x : Int} {n : Nat} (h : 0 ≤ x) (h' : x < n) : incr [x] n := ⟨by simp, by intro y hy; simp at hy; subst hy; exact ⟨h, h'⟩⟩
theorem incr_01 : incr [0, 1] 2 := ⟨by simp, by intro y hy; simp at hy; rcases hy with rfl | rfl <;> simp⟩
theorem ex_ok : chk ex = 0 := by
  refine chk_good ⟨fun k h1 h2 => ?_, ⟨?_, ?_⟩, ?_, ?_, ?_, ?_, ?_, ?_⟩ ?_
  · have hk : k = 1 ∨ k = 2 ∨ k = 3 ∨ k = 4 ∨ k = 5 := by omega
    rcases hk with rfl | rfl | rfl | rfl | rfl
    · exact namesB_ok (by decide +kernel) (by decide +kernel)
    · exact namesB_ok (by decide +kernel) (by decide +kernel)
    · exact namesB_ok (by decide +kernel) (by decide +kernel)
    · exact namesB_ok (by decide +kernel) (by decide +kernel)
    · exact namesB_ok (by decide +kernel) (by decide +kernel)
  · intro x hx
    simp [ex] at hx
    rcases hx with rfl | rfl <;> simp [within]
  · decide
  · simp [ex]
  · simp [ex]
  · intro x hx
    simp [ex] at hx
    subst hx
    exact ⟨by simp [within], by simp [within], incr_one (by omega) (by simp [ex])⟩
  · intro x hx
    simp [ex] at hx
    subst hx
    exact incr_one (by omega) (by simp [ex])
  · intro x hx
    simp [ex] at hx
    rcases hx with rfl | rfl <;> simp [within]
  · intro x hx
    simp [ex] at hx
    subst hx
    exact ⟨incr_one (by omega) (by simp [ex]), incr_01⟩
  · simp [Big, ex]
theorem no_chk : chk noSch = 1 := chk_bad fun h => h.2.2.1 rfl
theorem ex_put : putR ex = (putB ex, 0) := by unfold putR; rw [if_neg (fun h => h ex_ok)]
theorem ex_get : getR (putB ex) = (ex, 0) := getR_put ex_ok
theorem putB_len {s : Sch} (h : chk s = 0) : (putB s).length ≤ 800050 := by
  have hs := small_of h
  have h1 := putA_bd (p := putSlo) (fun x hx => lenSlo (hs.slots x hx)) hs.lens.1
  have h2 := putA_bd (p := putRoo) (fun x hx => lenRoo (hs.rooms x hx)) hs.lens.2.1
  have h3 := putA_bd (p := putPer) (fun x hx => lenPer (hs.people x hx)) hs.lens.2.2.1
  have h4 := putA_bd (p := putGro) (fun x hx => lenGro (hs.groups x hx)) hs.lens.2.2.2.1
  have h5 := putA_bd (p := putLes) (fun x hx => lenLes (hs.lessons x hx)) hs.lens.2.2.2.2
  unfold putB
  simp only [List.length_append]
  omega
theorem putB_pos {s : Sch} : 0 < (putB s).length := by
  unfold putB putA
  have : 0 < (Vi.putI (s.slots.length : Int)).length := Vi.putI_pos _
  simp only [List.length_append]
  omega
theorem ex_find1 : findR (names ex 2) [116, 117, 101, 49] = (1, true) := by decide +kernel
theorem ex_find2 : findR (names ex 2) [109, 97, 116, 104] = (0, false) := by decide +kernel
theorem ex_name1 : nameAt (names ex 1) 0 = [109, 97, 116, 104] := by decide +kernel
theorem ex_name2 : nameAt (names ex 6) 6 = [100, 97, 121, 54] := by decide +kernel
theorem ex_name3 : nameAt (names ex 3) 1 = [] := by decide +kernel
theorem ex_cnt1 : (names ex 6).length = 7 := by decide +kernel
theorem ex_cnt2 : (names ex 5).length = 2 := by decide +kernel
theorem ex_cnt3 : (names ex 8).length = 0 := by decide +kernel
theorem ex_away0 : hasIn ex.people (·.away) 0 0 := ⟨by omega, _, rfl, by simp⟩
theorem ex_away1 : ¬ hasIn ex.people (·.away) 0 1 := by
  rintro ⟨_, y, hy, h⟩
  simp [ex] at hy
  subst hy
  simp at h
theorem ex_shut0 : hasIn ex.rooms (·.shut) 0 1 := ⟨by omega, _, rfl, by simp⟩
theorem ex_shut1 : ¬ hasIn ex.rooms (·.shut) 1 1 := by
  rintro ⟨_, y, hy, h⟩
  simp [ex] at hy
theorem ex_teach : hasIn ex.lessons (·.who) 0 0 := ⟨by omega, _, rfl, by simp⟩
theorem ex_att1 : hasIn ex.lessons (·.groups) 0 1 := ⟨by omega, _, rfl, by simp⟩
theorem ex_att2 : ¬ hasIn ex.lessons (·.groups) 0 2 := by
  rintro ⟨_, y, hy, h⟩
  simp [ex] at hy
  subst hy
  simp at h
theorem ex_size : sizeS ex 0 = 21 := by decide +kernel
end Sc
end Go.Proofs.YtfockoihmoljfaaGreatDoor
