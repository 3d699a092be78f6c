/-
  PutInt: the program's, by its iterator, and the reference's.
-/
import Derived.Test.YtcnldbhkppfmmaaDoorProg
import Derived.KernelRfl
import Derived.Test.YtcnldbhkppfmmaaDoorBits
import Derived.Test.YtcnldbhkppfmmaaDoorLotA
import Derived.Lib.SliceRun
namespace Go.Proofs.YtcnldbhkppfmmaaDoor
open Go.RowKit Go.Shelf
set_option linter.unusedVariables false
set_option linter.unusedSimpArgs false
attribute [local go_sem] Oper.semAt_some

theorem elB : El Tryd.prog 26 5 (.int .u8 0) 1 := ⟨Tryd.underlying26, by kernel_rfl, rfl⟩
/-- A result in new memory of the call's own; nothing that was there has turned. -/
def RetNew (t : TypeId) (k : Nat) (xs : List Value) (w : World) (e : Ending) (w' : World) : Prop :=
  ∃ v', e = .returned v' ∧ w'.ownsRow w.heap.size t 1 v' k xs ∧ Below w.heap.size w w'
/-- slices.Clone: a copy of its own. -/
theorem cloneB_any (A : Option Addr) (n c : Nat) (l : List UInt8) (w : World) (h : RdB w w.heap.size A n c l) (hn : n ≤ 140737488355328) :
    Calls Tryd.prog 58 #[.slice A n c] w (RetNew 5 n (bv l) w) := by
  have hm := h.max
  have hl := h.len
  have he := fun (A : Option Addr) (n c : Nat) => Go.Lib.run_eql_slice_nil (P := Tryd.prog) w 26 5 A n c 0 0 Tryd.underlying26
  rcases A with _ | ad
  · have h0 : n = 0 := by
      rcases Nat.eq_zero_or_pos n with h0 | h0
      · exact h0
      · obtain ⟨ad, h', _⟩ := h.2.2.2 h0
        cases h'
    have hl0 : l = [] := List.eq_nil_of_length_eq_zero (by omega)
    have H0 := Lib.hid h0
    have HL := Lib.hid hl0
    clear h0 hl0 hl
    go_enter Tryd.func58, Tryd.ntmps58
    go_wp2
    go_ret
    refine ⟨_, rfl, ?_, Below.refl _ w⟩
    rw [H0.out, HL.out]
    exact World.ownsRow_nil w _ _ _
  · have HL := Lib.hid hl
    clear hl
    have ho : (w.alloc (.cells #[] 5)).ownsRow w.heap.size 5 1 (.slice (some ⟨w.heap.size, 0, none⟩) 0 0) 0 [] := World.ownsRow_lit w #[] 0 (Nat.le_refl _) (by unfold maxLen; omega) rfl
    go_enter Tryd.func58, Tryd.ntmps58
    go_wp2_with (at_builtin; refine wpList_app _ _ elB ho (h.alloc (Nat.le_refl _) _) (bv_one l) (by omega) (by omega) (by simp) rfl rfl rfl rfl ?_; intro v' w1 hown1 hg1 hat1)
    go_ret
    simp only [Nat.zero_add, List.nil_append] at hown1
    exact ⟨v', rfl, hown1, below_of_alloc_grown hg1 (fun g hg => by cases hg; exact Nat.le_refl _)⟩

theorem groups_any (n : Int) (w : World) (hn : -9223372036854775808 ≤ n ∧ n ≤ 9223372036854775807) :
    Calls Tryd.prog 59 #[.int .i64 n] w fun e w' => e = .returned (.func (.func 84) #[] #[.pointer (some ⟨w.heap.size, 0, none⟩)]) ∧ w' = w.alloc (.cells #[.int .u64 (Vi.zig n : Int)] 110) := by
  go_enter Tryd.func59, Tryd.ntmps59
  go_wp2
  go_ret
  exact ⟨rfl, by rw [zig_bits n hn]⟩
theorem bv_snoc (l : List UInt8) (b : Nat) (h : b < 256) : bv l ++ [.int .u8 (b : Int)] = bv (l ++ [UInt8.ofNat b]) := by
  rw [bv_append]
  congr 1
  simp [bv, bcell, UInt8.toNat_ofNat', Nat.mod_eq_of_lt h]
theorem one_u8 (z : Int) : ∀ u ∈ [Value.int .u8 z], u.oneCell' = true := by simp [Value.oneCell']
theorem enc_split {Z U : Nat} {pre : List UInt8} (h : Vi.enc Z = pre ++ Vi.enc U) (hU : ¬ U < 128) : Vi.enc Z = (pre ++ [UInt8.ofNat (U % 128 + 128)]) ++ Vi.enc (U / 128) := by
  rw [h, Vi.enc_ge hU]
  simp
set_option maxRecDepth 100000 in
set_option maxHeartbeats 1000000 in
theorem rputInt_any (A : Option Addr) (m c : Nat) (l : List UInt8) (n : Int) (w : World) (h : RdB w w.heap.size A m c l) (hm : m ≤ 1099511627776) (hn : -9223372036854775808 ≤ n ∧ n ≤ 9223372036854775807) :
    Calls Tryd.prog 36 #[.slice A m c, .int .i64 n] w (RetNew 5 (m + (Vi.putI n).length) (bv (l ++ Vi.putI n)) w) := by
  have h2 := h.max
  have h3 := h.le
  have ho : (w.alloc (.cells #[] 5)).ownsRow w.heap.size 5 1 (.slice (some ⟨w.heap.size, 0, none⟩) 0 0) 0 [] := World.ownsRow_lit w #[] 0 (Nat.le_refl _) (by unfold maxLen; omega) rfl
  obtain ⟨Z, hZ⟩ : ∃ Z, Z = Vi.zig n := ⟨_, rfl⟩
  have hZ64 : Z < 18446744073709551616 := by rw [hZ]; exact Vi.zig_lt hn
  have hlen := Vi.enc_len10 hZ64
  have HP : Hid (Vi.putI n = Vi.enc Z) := by show Vi.putI n = _; unfold Vi.putI; rw [hZ]
  have e1 : n < 0 → 2 * -(n + 1) + 1 = (Z : Int) := fun h => by rw [hZ]; unfold Vi.zig; rw [if_neg (by omega)]; omega
  have e2 : ¬ n < 0 → 2 * n = (Z : Int) := fun h => by rw [hZ]; unfold Vi.zig; rw [if_pos (by omega)]; omega
  have E1 := Lib.hid e1
  have E2 := Lib.hid e2
  have HLEN := Lib.hid hlen
  clear e1 e2 hZ hlen
  go_enter Tryd.func36, Tryd.ntmps36
  by_cases h0 : n < 0
  all_goals
    first
      | have d0 : decide (n < 0) = true := decide_eq_true h0
      | have d0 : decide (n < 0) = false := decide_eq_false h0
    go_wp2_with (at_builtin; refine wpList_app _ _ elB ho (h.alloc (Nat.le_refl _) _) (bv_one l) (by omega) (by omega) (by simp) rfl rfl rfl rfl ?_; intro v' w1 hown1 hg1 hat1)
    first | rw [E1.out h0] | rw [E2.out h0]
    simp only [Nat.zero_add, List.nil_append] at hown1
    have hb1 : Below w.heap.size w w1 := below_of_alloc_grown hg1 (fun g hg => by cases hg; exact Nat.le_refl _)
    clear hg1 hat1 ho E1 E2
    go_loopw [5, 6] (fun u v wr => ∃ (U : Nat) (pre : List UInt8), u = .int .u64 (U : Int) ∧ U < 18446744073709551616 ∧ Vi.enc Z = pre ++ Vi.enc U ∧ wr.ownsRow w.heap.size 5 1 v (m + pre.length) (bv (l ++ pre)) ∧ Below w.heap.size w wr) (fun u _ _ => (intOf u).toNat)
    case atStart => exact ⟨Z, [], rfl, hZ64, rfl, by simpa using hown1, hb1⟩
    case round =>
      obtain ⟨U, pre, rfl, hU, hen, hown, hb⟩ := hrel
      clear hown1 hb1
      have hpl : pre.length ≤ 10 := by have := HLEN.out; rw [hen, List.length_append] at this; omega
      have hbs := hb.size
      have hx1 : (m + pre.length + 1) * 1 ≤ 140737488355328 := by omega
      have hx1' : m + pre.length + 1 ≤ 140737488355328 := by omega
      have hx2 : ∀ o, w.heap.size ≤ (wr.alloc o).heap.size := fun o => by rw [World.size_alloc]; omega
      obtain ⟨Av, cv, rfl, _⟩ := own_rdB hown
      by_cases h128 : U < 128
      · have d1 : decide ((128 : Int) ≤ (U : Int)) = false := by simp; omega
        have d1' : decide (128 ≤ U) = false := by simp; omega
        have HF : Hid (Vi.putI n = pre ++ [UInt8.ofNat U]) := by show Vi.putI n = _; rw [HP.out, hen, Vi.enc_lt h128]
        have HEN := Lib.hid hen
        clear hen
        go_wp2_with (at_builtin; refine wpList_app _ _ elB (hown.alloc _) (Rd.one wr _ _) (one_u8 _) hx1 hx1' (hx2 _) rfl rfl rfl rfl ?_; intro v2 w2 hown2 hg2 hat2)
        go_ret
        refine ⟨v2, rfl, ?_, hb.grown (grownBy_of_alloc hg2) hb.size (own_lt hown)⟩
        rw [bv_snoc _ U (by omega)] at hown2
        rw [HF.out, List.length_append, ← List.append_assoc, ← Nat.add_assoc]
        exact hown2
      · have d1 : decide ((128 : Int) ≤ (U : Int)) = true := by simp; omega
        have d1' : decide (128 ≤ U) = true := by simp; omega
        have HF := Lib.hid (enc_split hen h128)
        clear hen
        go_wp2_with (at_builtin; refine wpList_app _ _ elB (hown.alloc _) (Rd.one wr _ _) (one_u8 _) hx1 hx1' (hx2 _) rfl rfl rfl rfl ?_; intro v2 w2 hown2 hg2 hat2)
        go_roundw
        case rel =>
          refine ⟨U / 128, pre ++ [UInt8.ofNat (U % 128 + 128)], by go_num, by omega, HF.out, ?_, hb.grown (grownBy_of_alloc hg2) hb.size (own_lt hown)⟩
          have e : ((U : Int) % 128 + 128) = ((U % 128 + 128 : Nat) : Int) := by omega
          rw [e, bv_snoc _ _ (by omega)] at hown2
          rw [List.length_append, ← List.append_assoc, ← Nat.add_assoc]
          exact hown2
        case measure => simp [intOf]; omega
end Go.Proofs.YtcnldbhkppfmmaaDoor
