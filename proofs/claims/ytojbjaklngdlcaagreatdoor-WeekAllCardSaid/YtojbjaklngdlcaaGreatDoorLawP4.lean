/-
  Words that the laws of weeks share.
-/
import Derived.Test.YtojbjaklngdlcaaGreatDoorLive4
import Derived.Test.YtojbjaklngdlcaaGreatDoorRApplyW
import Derived.Test.YtojbjaklngdlcaaGreatDoorFewW3
import Derived.Lib.SliceRun
import Derived.BigQuiet
namespace Go.Proofs.YtojbjaklngdlcaaGreatDoor
open Go.RowKit Go.Shelf
set_option linter.unusedVariables false
set_option linter.unusedSimpArgs false
theorem okPs_appL2 {l : List Pl} {ms : List Mv} (h : okPs l) (h' : okMs ms) : okPs (appL l ms) ∧ (appL l ms).length ≤ l.length := by
  unfold appL
  cases hx : applyTo l.length l (-1) ms with
  | none => exact ⟨by simp [okPs], by simp⟩
  | some y => obtain ⟨a, b⟩ := applyTo_ok h h' hx; exact ⟨a, by simp [b]⟩
theorem okMs_diffL {a b : List Pl} (hb : okPs b) (hl : b.length ≤ 1099511627776) : okMs (diffL a b) := by
  unfold diffL
  split
  · exact okMs_diffTo hb _ hl
  · simp [okMs]
theorem Vi.getW_okN {l : List UInt8} (a : Int) (hl : l.length ≤ 1073741824) : okPs (Vi.getW l a).1 ∧ okI (Vi.getW l a).2.1 ∧ (Vi.getW l a).1.length ≤ 64 := by
  by_cases h : (Vi.getW l a).2.2 = 0
  · have := Vi.getW_canon h
    refine ⟨this.2.2.2.2.2.1, ?_, this.2.2.2.1⟩
    unfold okI; omega
  · rw [Vi.getW_err h]; exact ⟨by simp [okPs], by unfold okI; simp, by simp⟩
theorem push_all (ns : List UInt8) (s : ByteArray) : (ns.map fun c => (c.toNat : Int)).foldl (fun r n => r.push (UInt8.ofNat n.toNat)) s = ⟨(s.data.toList ++ ns).toArray⟩ := by
  induction ns generalizing s with
  | nil => simp
  | cons c ns ih =>
    simp only [List.map_cons, List.foldl_cons, ih]
    have : UInt8.ofNat ((c.toNat : Int)).toNat = c := by simp
    rw [this]
    simp [ByteArray.push]

theorem run_string_of_bytes {P : Program} {w : World} {B : Nat} {A : Option Addr} {n c : Nat} {l : List UInt8} (t d e : TypeId) (ht : P.underlying t = some (.slice e)) (he : P.underlying e = some (.int .u8)) (hd : P.underlying d = some .string)
    (h : RdB w B A n c l) : (convert t d (.slice A n c)).run P w = .ok (.string ⟨l.toArray⟩) w := by
  rw [run_convert_bytes_string w t d e A n c ht he hd]
  have hlen := h.len
  rcases A with _ | ad
  · have h0 : n = 0 := by
      rcases Nat.eq_zero_or_pos n with h0 | h0
      · exact h0
      · obtain ⟨ad, h', _⟩ := h.2.2.2 h0
        cases h'
    have hl0 : l = [] := List.eq_nil_of_length_eq_zero (by omega)
    subst hl0
    simp [Conv.bytesToString]
    rfl
  · have hcells : ∀ j u, (bv l)[j]? = some u → w.cell? (ad.add j) = some u := by
      intro j u hu
      rcases Nat.eq_zero_or_pos n with h0 | h0
      · have hn : l = [] := List.eq_nil_of_length_eq_zero (by omega)
        subst hn
        simp [bv] at hu
      · obtain ⟨ad', h', _, hc⟩ := h.2.2.2 h0
        injection h' with h'
        subst h'
        exact hc j u hu
    have hl := run_loadCells_list (P := P) w ad (bv l) hcells
    have e1 : bv l = (l.map fun c => (c.toNat : Int)).map (Value.int .u8) := by unfold bv bcell; rw [List.map_map]; rfl
    rw [bv_length, hlen, e1] at hl
    rw [run_bytesToString w ad n c _ hl, push_all]
    rfl

theorem run_str {w : World} {B : Nat} {A : Option Addr} {n c : Nat} {l : List UInt8} (h : RdB w B A n c l) : (convert 59 9 (.slice A n c)).run Tryz.prog w = .ok (.string (strOf l)) w :=
  run_string_of_bytes 59 9 5 Tryz.underlying59 Tryz.underlying5 Tryz.underlying9 h
theorem str_eq (l r : List UInt8) : ((strOf l).toList == (strOf r).toList) = decide (l = r) := by
  rw [← beq_toListBytes]
  show (l.toArray == r.toArray) = decide (l = r)
  rw [Bool.eq_iff_iff, beq_iff_eq, decide_eq_true_iff]
  constructor
  · intro h; exact congrArg Array.toList h
  · intro h; rw [h]
/-- What few tells. -/
def FewPost4 (f : Sc.Five) (n : Nat) (w : World) (e : Ending) (w' : World) : Prop := ∃ b, e = .returned (.bool b) ∧ (b = true → (f.nS ≤ 80 ∧ f.nR ≤ 80 ∧ f.nP ≤ 80 ∧ f.nG ≤ 80 ∧ f.nL ≤ 80) ∧ n ≤ 100) ∧ Below w.heap.size w w'
end Go.Proofs.YtojbjaklngdlcaaGreatDoor
