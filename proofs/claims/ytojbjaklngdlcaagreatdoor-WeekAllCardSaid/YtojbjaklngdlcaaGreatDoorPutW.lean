/-
  PutInt: the program's, by its iterator, and the reference's.
-/
import Derived.Test.YtojbjaklngdlcaaGreatDoorProg
import Derived.KernelRfl
import Derived.Test.YtojbjaklngdlcaaGreatDoorBits
import Derived.Test.YtojbjaklngdlcaaGreatDoorLotA
import Derived.Lib.SliceRun
namespace Go.Proofs.YtojbjaklngdlcaaGreatDoor
open Go.RowKit Go.Shelf
set_option linter.unusedVariables false
set_option linter.unusedSimpArgs false
attribute [local go_sem] Oper.semAt_some

theorem elB : El Tryz.prog 59 5 (.int .u8 0) 1 := ⟨Tryz.underlying59, by kernel_rfl, rfl⟩
/-- A result in new memory of the call's own; nothing that was there has turned. -/
def RetNew (t : TypeId) (k : Nat) (xs : List Value) (w : World) (e : Ending) (w' : World) : Prop :=
  ∃ v', e = .returned v' ∧ w'.ownsRow w.heap.size t 1 v' k xs ∧ Below w.heap.size w w'
/-- slices.Clone: a copy of its own. -/
theorem cloneB_any (A : Option Addr) (n c : Nat) (l : List UInt8) (w : World) (h : RdB w w.heap.size A n c l) (hn : n ≤ 140737488355328) :
    Calls Tryz.prog 81 #[.slice A n c] w (RetNew 5 n (bv l) w) := by
  have hm := h.max
  have hl := h.len
  have he := fun (A : Option Addr) (n c : Nat) => Go.Lib.run_eql_slice_nil (P := Tryz.prog) w 59 5 A n c 0 0 Tryz.underlying59
  rcases A with _ | ad
  · have h0 : n = 0 := by
      rcases Nat.eq_zero_or_pos n with h0 | h0
      · exact h0
      · obtain ⟨ad, h', _⟩ := h.2.2.2 h0
        cases h'
    have hl0 : l = [] := List.eq_nil_of_length_eq_zero (by omega)
    have H0 := Lib.hid h0
    have HL := Lib.hid hl0
    clear h0 hl0 hl
    go_enter Tryz.func81, Tryz.ntmps81
    go_wp2
    go_ret
    refine ⟨_, rfl, ?_, Below.refl _ w⟩
    rw [H0.out, HL.out]
    exact World.ownsRow_nil w _ _ _
  · have HL := Lib.hid hl
    clear hl
    have ho : (w.alloc (.cells #[] 5)).ownsRow w.heap.size 5 1 (.slice (some ⟨w.heap.size, 0, none⟩) 0 0) 0 [] := World.ownsRow_lit w #[] 0 (Nat.le_refl _) (by unfold maxLen; omega) rfl
    go_enter Tryz.func81, Tryz.ntmps81
    go_wp2_with (at_builtin; refine wpList_app _ _ elB ho (h.alloc (Nat.le_refl _) _) (bv_one l) (by omega) (by omega) (by simp) rfl rfl rfl rfl ?_; intro v' w1 hown1 hg1 hat1)
    go_ret
    simp only [Nat.zero_add, List.nil_append] at hown1
    exact ⟨v', rfl, hown1, below_of_alloc_grown hg1 (fun g hg => by cases hg; exact Nat.le_refl _)⟩

theorem groups_any (n : Int) (w : World) (hn : -9223372036854775808 ≤ n ∧ n ≤ 9223372036854775807) :
    Calls Tryz.prog 82 #[.int .i64 n] w fun e w' => e = .returned (.func (.func 90) #[] #[.pointer (some ⟨w.heap.size, 0, none⟩)]) ∧ w' = w.alloc (.cells #[.int .u64 (Vi.zig n : Int)] 136) := by
  go_enter Tryz.func82, Tryz.ntmps82
  go_wp2
  go_ret
  exact ⟨rfl, by rw [zig_bits n hn]⟩
theorem bv_snoc (l : List UInt8) (b : Nat) (h : b < 256) : bv l ++ [.int .u8 (b : Int)] = bv (l ++ [UInt8.ofNat b]) := by
  rw [bv_append]
  congr 1
  simp [bv, bcell, UInt8.toNat_ofNat', Nat.mod_eq_of_lt h]
theorem one_u8 (z : Int) : ∀ u ∈ [Value.int .u8 z], u.oneCell' = true := by simp [Value.oneCell']
theorem enc_split {Z U : Nat} {pre : List UInt8} (h : Vi.enc Z = pre ++ Vi.enc U) (hU : ¬ U < 128) : Vi.enc Z = (pre ++ [UInt8.ofNat (U % 128 + 128)]) ++ Vi.enc (U / 128) := by
  rw [h, Vi.enc_ge hU]
  simp
end Go.Proofs.YtojbjaklngdlcaaGreatDoor
