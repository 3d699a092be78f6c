/-
  The walks of the reference's comparisons of weeks, versions and disks, and of its small measures.
-/
import Derived.Test.YtfacdoemgalodaaOpsW
import Derived.Lib.SliceRun
namespace Go.Proofs.Ytfacdoemgalodaa
open Go.RowKit
set_option linter.unusedVariables false
set_option linter.unusedSimpArgs false

def neqPl (a b c d : Int) : Bool := !decide (a = c ∧ b = d)
theorem run_neq_pl (a b c d : Int) (w : World) : (binOp .neq 76 (.agg #[.int .i64 a, .int .i64 b]) (.agg #[.int .i64 c, .int .i64 d])).run Try.prog w = .ok (.bool (neqPl a b c d)) w := by
  unfold neqPl
  rw [run_neq_struct, run_equalIn_struct _ _ _ _ _ (by kernel_rfl) (by kernel_rfl)]
  by_cases h1 : a = c <;> by_cases h2 : b = d <;> simp [go_sem, Program.fieldsOf, Try.underlying76, Op.eqFields, h1, h2]
attribute [local go_sem ↓] run_neq_pl

theorem take_eq_step {α : Type} {l r : List α} {k : Nat} (h : l.take k = r.take k) (hl : k < l.length) (hr : k < r.length) (he : l[k] = r[k]) : l.take (k + 1) = r.take (k + 1) := by
  rw [List.take_succ_eq_append_getElem hl, List.take_succ_eq_append_getElem hr, h, he]

set_option maxRecDepth 100000 in
set_option maxHeartbeats 4000000 in
theorem weeks_any (A A' : Option Addr) (n c n' c' : Nat) (l r : List Pl) (w : World) (h : RdP w w.heap.size A n c l) (h' : RdP w w.heap.size A' n' c' r) :
    Calls Try.prog 52 #[.agg #[.slice A n c], .agg #[.slice A' n' c']] w fun e w' => e = .returned (.bool (decide (l = r))) ∧ Below w.heap.size w w' := by
  have hm := h.max
  have hm' := h'.max
  have hle := h.le
  have hle' := h'.le
  have hlen := Lib.hid h.len
  have hlen' := Lib.hid h'.len
  have hb2 := fun (o o' : Obj) => ((Below.refl w.heap.size w).alloc (Nat.le_refl _) o).alloc (show w.heap.size ≤ (w.alloc o).heap.size by simp) o'
  obtain ⟨res, hres⟩ : ∃ res, res = decide (l = r) := ⟨_, rfl⟩
  rw [← hres]
  have HR := Lib.hid hres
  clear hres
  by_cases hne : n = n'
  · subst hne
    go_enter Try.func52, Try.ntmps52
    go_wp2_with fail
    go_loopw [16] (fun i wr => ∃ k nq : Nat, k ≤ n ∧ i = .int .i64 k ∧ l.take k = r.take k ∧ wr = ((w.alloc (.cells #[.slice A n c] 40)).alloc (.cells #[.slice A' n c'] 40)).drewN nq) (fun i _ => n - (intOf i).toNat)
    case atStart => exact ⟨0, 0, by omega, rfl, rfl, rfl⟩
    case round =>
      obtain ⟨k, nq, hk, rfl, htk, rfl⟩ := hrel
      have HT := Lib.hid htk
      clear htk
      by_cases hkn : k < n
      · have hkl : k < l.length := by rw [hlen.out]; exact hkn
        have hkr : k < r.length := by rw [hlen'.out]; exact hkn
        obtain ⟨ad, rfl, hab, c1, c2, _, _⟩ := (h.below (hb2 (.cells #[.slice A n c] 40) (.cells #[.slice A' n c'] 40))).at_ hkn hkl
        obtain ⟨ad', rfl, hab', c1', c2', _, _⟩ := (h'.below (hb2 (.cells #[.slice (some ad) n c] 40) (.cells #[.slice A' n c'] 40))).at_ hkn hkr
        have d5 : decide ((k : Int) < (n : Int)) = true := by simp; omega
        have HS : Hid (l[k] = r[k] → l.take (k + 1) = r.take (k + 1)) := take_eq_step HT.out hkl hkr
        have HN : Hid (l[k] ≠ r[k] → l ≠ r) := fun h1 h2 => h1 (by subst h2; rfl)
        generalize l[k] = p at *
        generalize r[k] = q at *
        obtain ⟨p1, p2⟩ := p
        obtain ⟨q1, q2⟩ := q
        go_wp2
        go_quiet (fail)
        by_cases he : p1 = q1 ∧ p2 = q2
        · have de : neqPl p1 p2 q1 q2 = false := by unfold neqPl; rw [decide_eq_true he]; rfl
          rw [de]
          obtain ⟨rfl, rfl⟩ := he
          go_wp2
          go_roundw
          case rel => exact ⟨k + 1, _, by omega, by go_num, HS.out rfl, rfl⟩
          case measure => simp [intOf]; omega
        · have de : neqPl p1 p2 q1 q2 = true := by unfold neqPl; rw [decide_eq_false he]; rfl
          rw [de]
          go_wp2_with fail
          go_ret
          refine ⟨ret_bool ?_, below_drewN' (below_drewN' (hb2 _ _) _) _⟩
          rw [HR.out]
          exact (decide_eq_false (HN.out (fun e => he (by simpa using e)))).symm
      · obtain rfl : k = n := by omega
        have d5 : decide ((k : Int) < (k : Int)) = false := by simp
        go_wp2_with fail
        go_ret
        refine ⟨ret_bool ?_, below_drewN' (hb2 _ _) _⟩
        rw [HR.out]
        have := HT.out
        rw [List.take_of_length_le (by rw [hlen.out]; omega), List.take_of_length_le (by rw [hlen'.out]; omega)] at this
        exact (decide_eq_true this).symm
  · have d1 : ((n : Int) != (n' : Int)) = true := by simp; omega
    go_enter Try.func52, Try.ntmps52
    go_wp2_with fail
    go_ret
    refine ⟨ret_bool ?_, hb2 _ _⟩
    rw [HR.out]
    refine (decide_eq_false (fun e => hne ?_)).symm
    rw [← hlen.out, ← hlen'.out, e]

/-- A string of bytes. -/
def strOf (l : List UInt8) : ByteArray := ⟨l.toArray⟩
theorem strOf_inj {l r : List UInt8} : strOf l = strOf r ↔ l = r := by
  unfold strOf
  constructor
  · intro h
    injection h with h
    exact congrArg Array.toList h
  · intro h; rw [h]
theorem strOf_size (l : List UInt8) : (strOf l).size = l.length := rfl
theorem strOf_data (s : ByteArray) : strOf s.data.toList = s := rfl
theorem run_str {w : World} {B : Nat} {A : Option Addr} {n c : Nat} {l : List UInt8} (h : RdB w B A n c l) : (convert 22 9 (.slice A n c)).run Try.prog w = .ok (.string (strOf l)) w :=
  run_string_of_bytes 22 9 5 Try.underlying22 Try.underlying5 Try.underlying9 h
theorem str_eq (l r : List UInt8) : ((strOf l).toList == (strOf r).toList) = decide (l = r) := by
  rw [← beq_toListBytes]
  show (l.toArray == r.toArray) = decide (l = r)
  by_cases h : l = r
  · rw [h, decide_eq_true rfl]; simp
  · rw [decide_eq_false h]; simp [h]
/-- A bool, and what it tells. -/
def Tells (p : Prop) (w : World) (e : Ending) (w' : World) : Prop := ∃ b, e = .returned (.bool b) ∧ (b = true ↔ p) ∧ Below w.heap.size w w'

end Go.Proofs.Ytfacdoemgalodaa
