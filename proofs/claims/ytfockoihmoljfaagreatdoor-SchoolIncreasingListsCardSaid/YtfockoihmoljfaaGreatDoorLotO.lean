/-
  Words that the walks share: Varint, Bits, PutW, IterW, ListsW, GetW, RGetW.
-/
import Derived.Test.YtfockoihmoljfaaGreatDoorLotA
import Derived.Laws.BitsAllLaws
import Derived.Laws.Bits64
import Derived.Test.YtfockoihmoljfaaGreatDoorProg
import Derived.KernelRfl
import Derived.Lib.SliceRun
import Derived.Laws.Bits128
import Derived.Lib.AppendStr
/-
  Varints: plain laws, no program in sight.
-/
namespace Go.Proofs.YtfockoihmoljfaaGreatDoor.Vi

/-- The bytes of u, seven bits each, the lowest first. -/
def enc (u : Nat) : List UInt8 := if h : u < 128 then [UInt8.ofNat u] else UInt8.ofNat (u % 128 + 128) :: enc (u / 128)
termination_by u
decreasing_by omega
theorem enc_lt {u : Nat} (h : u < 128) : enc u = [UInt8.ofNat u] := by rw [enc, dif_pos h]
theorem enc_ge {u : Nat} (h : ¬ u < 128) : enc u = UInt8.ofNat (u % 128 + 128) :: enc (u / 128) := by rw [enc, dif_neg h]
/-- An integer as a number from 0 on. -/
def zig (n : Int) : Nat := if 0 ≤ n then (2 * n).toNat else (-2 * n - 1).toNat
def unzig (u : Nat) : Int := if u % 2 = 0 then (u / 2 : Nat) else -((u / 2 : Nat) : Int) - 1
theorem unzig_zig (n : Int) : unzig (zig n) = n := by
  unfold unzig zig
  split <;> split <;> omega
theorem zig_lt {n : Int} (h : -9223372036854775808 ≤ n ∧ n ≤ 9223372036854775807) : zig n < 18446744073709551616 := by
  unfold zig
  split <;> omega
theorem zig_unzig (u : Nat) : zig (unzig u) = u := by
  unfold unzig zig
  split <;> split <;> omega
theorem unzig_ok {u : Nat} (h : u < 18446744073709551616) : -9223372036854775808 ≤ unzig u ∧ unzig u ≤ 9223372036854775807 := by
  unfold unzig
  split <;> omega
def putI (n : Int) : List UInt8 := enc (zig n)

theorem enc_pos (u : Nat) : 0 < (enc u).length := by
  by_cases h : u < 128
  · rw [enc_lt h]; simp
  · rw [enc_ge h]; simp
theorem enc_len (k : Nat) : ∀ {u : Nat}, u < 128 ^ (k + 1) → (enc u).length ≤ k + 1 := by
  induction k with
  | zero => intro u h; rw [enc_lt (by simpa using h)]; simp
  | succ k ih =>
    intro u h
    by_cases h1 : u < 128
    · rw [enc_lt h1]; simp
    · rw [enc_ge h1]
      have : u / 128 < 128 ^ (k + 1) := by rw [Nat.div_lt_iff_lt_mul (by omega), ← Nat.pow_succ]; exact h
      have := ih this
      simp
      omega
theorem enc_len10 {u : Nat} (h : u < 18446744073709551616) : (enc u).length ≤ 10 := enc_len 9 (Nat.lt_of_lt_of_le h (by decide))

/-- What reading a varint answers: the number and how many bytes it took. -/
inductive Dec where
  | short
  | form
  | ok (u k : Nat)
deriving DecidableEq
/-- From the i-th byte on, u gathered so far. -/
def dec : Nat → Nat → List UInt8 → Dec
  | _, _, [] => .short
  | i, u, c :: r => if (i = 9 ∧ 1 < c.toNat) ∨ (0 < i ∧ c.toNat = 0) then .form else if c.toNat < 128 then .ok (u + c.toNat * 128 ^ i) (i + 1) else dec (i + 1) (u + (c.toNat - 128) * 128 ^ i) r
/-- What GetInt answers: the number, the offset behind it, the error. -/
def getI (l : List UInt8) (at_ : Int) : Int × Int × Int :=
  if at_ < 0 ∨ (l.length : Int) < at_ then (0, 0, 1)
  else match dec 0 0 (l.drop at_.toNat) with
    | .short => (0, 0, 10)
    | .form => (0, 0, 11)
    | .ok u k => (unzig u, at_ + k, 0)
end Go.Proofs.YtfockoihmoljfaaGreatDoor.Vi

/-
  What the bit operations of octet come to.
-/
namespace Go.Proofs.YtfockoihmoljfaaGreatDoor
open Go.RowKit

theorem and127 (B : Nat) (h : B < 256) : bits .and .u8 (B : Int) 127 = ((B % 128 : Nat) : Int) := by
  have := u8_and_nat B 127 h (by decide)
  rw [nat_mask7] at this
  exact this
theorem wrapu64_in (n : Nat) (h : n < 18446744073709551616) : IntKind.u64.wrap (n : Int) = (n : Int) := by
  rw [IntKind.wrap_u64]
  omega
theorem pow_step (U B k : Nat) (hU : U < 128 ^ k) (hB : B < 128) : U + B * 128 ^ k < 128 ^ (k + 1) := by
  have : (B + 1) * 128 ^ k ≤ 128 * 128 ^ k := Nat.mul_le_mul_right _ (by omega)
  rw [Nat.pow_succ, Nat.mul_comm (128 ^ k) 128]
  rw [Nat.add_mul] at this
  omega
theorem pow_le64 {k : Nat} (hk : k ≤ 9) : 128 ^ k ≤ 9223372036854775808 := by
  have : 128 ^ k ≤ 128 ^ 9 := Nat.pow_le_pow_right (by decide) hk
  exact Nat.le_trans this (by decide)
theorem step_lt64 (U B k : Nat) (hU : U < 128 ^ k) (hk : k ≤ 9) (hB : B < 128) (h9 : k = 9 → B ≤ 1) : U + B * 128 ^ k < 18446744073709551616 := by
  by_cases e : k = 9
  · subst e
    have := h9 rfl
    have e9 : (128 : Nat) ^ 9 = 9223372036854775808 := by decide
    rw [e9] at hU ⊢
    have : B * 9223372036854775808 ≤ 1 * 9223372036854775808 := Nat.mul_le_mul_right _ this
    omega
  · have h1 := pow_step U B k hU hB
    have h2 := pow_le64 (k := k + 1) (by omega)
    omega
theorem or_step (U B k : Nat) (hU : U < 128 ^ k) (hB : B < 256) (hk : k ≤ 9) (h9 : k = 9 → B ≤ 1) :
    bits .or .u64 (U : Int) (IntKind.u64.wrap (IntKind.u64.wrap (bits .and .u8 (B : Int) 127) * 2 ^ (7 * k))) = ((U + (B % 128) * 128 ^ k : Nat) : Int) := by
  have hlt := step_lt64 U (B % 128) k hU hk (Nat.mod_lt _ (by decide)) (fun e => by have := h9 e; omega)
  have e7 : (2 : Nat) ^ (7 * k) = 128 ^ k := by rw [Nat.pow_mul]
  have e1 : IntKind.u64.wrap (bits .and .u8 (B : Int) 127) = ((B % 128 : Nat) : Int) := by rw [and127 B hB]; exact wrapu64_in _ (by omega)
  have e2 : ((B % 128 : Nat) : Int) * 2 ^ (7 * k) = ((B % 128 * 128 ^ k : Nat) : Int) := by rw [← e7]; push_cast; rfl
  rw [e1, e2, wrapu64_in _ (by omega), u64_or_nat U _ (by omega) (by omega), Nat.or_comm, nat_join (7 * k) _ _ (by rw [e7]; exact Nat.mul_mod_left _ _) (by rw [e7]; exact hU), Nat.add_comm]
theorem xor_i64_zero (x : Int) (h : -9223372036854775808 ≤ x ∧ x ≤ 9223372036854775807) : bits .xor .i64 x 0 = x := by
  show IntKind.i64.wrap (((BitVec.ofInt 64 x ^^^ BitVec.ofInt 64 0).toNat : Nat) : Int) = x
  have : BitVec.ofInt 64 0 = 0#64 := rfl
  rw [this, BitVec.xor_zero, BitVec.toNat_ofInt, IntKind.wrap_i64]
  omega
theorem xor_i64_ones (x : Int) (h : -9223372036854775808 ≤ x ∧ x ≤ 9223372036854775807) : bits .xor .i64 x (-1) = -x - 1 := by
  show IntKind.i64.wrap (((BitVec.ofInt 64 x ^^^ BitVec.ofInt 64 (-1)).toNat : Nat) : Int) = -x - 1
  have : BitVec.ofInt 64 (-1) = BitVec.allOnes 64 := by decide
  rw [this, BitVec.xor_allOnes, BitVec.toNat_not, BitVec.toNat_ofInt, IntKind.wrap_i64]
  omega
theorem get_val (W : Nat) (h : W < 18446744073709551616) : bits .xor .i64 (wrap64 ((W : Int) / 2)) (wrap64 (-wrap64 (bits .and .u64 (W : Int) 1))) = Vi.unzig W := by
  have e1 : bits .and .u64 (W : Int) 1 = ((W % 2 : Nat) : Int) := by
    have := u64_and_nat W 1 h (by decide)
    rw [nat_mask1] at this
    exact this
  have e2 : wrap64 ((W : Int) / 2) = ((W / 2 : Nat) : Int) := by rw [IntWalk.wrap64_in ((W : Int) / 2) ⟨by omega, by omega⟩]; omega
  have e3 : wrap64 ((W % 2 : Nat) : Int) = ((W % 2 : Nat) : Int) := IntWalk.wrap64_in ((W % 2 : Nat) : Int) ⟨by omega, by omega⟩
  rw [e1, e2, e3]
  unfold Vi.unzig
  rcases Nat.mod_two_eq_zero_or_one W with hm | hm
  · rw [hm, if_pos rfl]
    have : wrap64 (-((0 : Nat) : Int)) = 0 := by rw [IntWalk.wrap64_in (-((0 : Nat) : Int)) ⟨by omega, by omega⟩]; rfl
    rw [this]
    exact xor_i64_zero ((W / 2 : Nat) : Int) ⟨by omega, by omega⟩
  · rw [hm, if_neg (by decide)]
    have : wrap64 (-((1 : Nat) : Int)) = -1 := IntWalk.wrap64_in (-((1 : Nat) : Int)) ⟨by omega, by omega⟩
    rw [this]
    exact xor_i64_ones ((W / 2 : Nat) : Int) ⟨by omega, by omega⟩
theorem xor_u64_ones (a : Nat) (h : a < 18446744073709551616) : bits .xor .u64 (a : Int) 18446744073709551615 = ((18446744073709551615 - a : Nat) : Int) := by
  show IntKind.u64.wrap (((BitVec.ofInt 64 (a : Int) ^^^ BitVec.ofInt 64 18446744073709551615).toNat : Nat) : Int) = _
  have : BitVec.ofInt 64 18446744073709551615 = BitVec.allOnes 64 := by decide
  rw [this, BitVec.xor_allOnes, BitVec.toNat_not, BitVec.toNat_ofInt, IntKind.wrap_u64]
  omega
theorem xor_u64_zero (a : Nat) (h : a < 18446744073709551616) : bits .xor .u64 (a : Int) 0 = (a : Int) := by
  have := u64_xor_nat a 0 h (by decide)
  rw [Nat.xor_zero] at this
  exact this
theorem zig_bits (n : Int) (h : -9223372036854775808 ≤ n ∧ n ≤ 9223372036854775807) :
    bits .xor .u64 (IntKind.u64.wrap (IntKind.u64.wrap n * 2)) (IntKind.u64.wrap (n / 9223372036854775808)) = (Vi.zig n : Int) := by
  rw [IntKind.wrap_u64, IntKind.wrap_u64, IntKind.wrap_u64]
  by_cases h0 : 0 ≤ n
  · have e1 : n / 9223372036854775808 % 18446744073709551616 = 0 := by omega
    have e2 : n % 18446744073709551616 * 2 % 18446744073709551616 = (((2 * n).toNat : Nat) : Int) := by omega
    rw [e1, e2, xor_u64_zero _ (by omega)]
    unfold Vi.zig
    rw [if_pos h0]
  · have e1 : n / 9223372036854775808 % 18446744073709551616 = 18446744073709551615 := by omega
    have e2 : n % 18446744073709551616 * 2 % 18446744073709551616 = (((2 * n + 18446744073709551616).toNat : Nat) : Int) := by omega
    rw [e1, e2, xor_u64_ones _ (by omega)]
    unfold Vi.zig
    rw [if_neg h0]
    omega
end Go.Proofs.YtfockoihmoljfaaGreatDoor

/-
  PutInt: the program's, by its iterator, and the reference's.
-/
namespace Go.Proofs.YtfockoihmoljfaaGreatDoor
open Go.RowKit Go.Shelf
set_option linter.unusedVariables false
set_option linter.unusedSimpArgs false
attribute [local go_sem] Oper.semAt_some

theorem elB : El Tryz.prog 38 5 (.int .u8 0) 1 := ⟨Tryz.underlying38, by kernel_rfl, rfl⟩
/-- A result in new memory of the call's own; nothing that was there has turned. -/
def RetNew (t : TypeId) (k : Nat) (xs : List Value) (w : World) (e : Ending) (w' : World) : Prop :=
  ∃ v', e = .returned v' ∧ w'.ownsRow w.heap.size t 1 v' k xs ∧ Below w.heap.size w w'
/-- slices.Clone: a copy of its own. -/
theorem cloneB_any (A : Option Addr) (n c : Nat) (l : List UInt8) (w : World) (h : RdB w w.heap.size A n c l) (hn : n ≤ 140737488355328) :
    Calls Tryz.prog 111 #[.slice A n c] w (RetNew 5 n (bv l) w) := by
  have hm := h.max
  have hl := h.len
  have he := fun (A : Option Addr) (n c : Nat) => Go.Lib.run_eql_slice_nil (P := Tryz.prog) w 38 5 A n c 0 0 Tryz.underlying38
  rcases A with _ | ad
  · have h0 : n = 0 := by
      rcases Nat.eq_zero_or_pos n with h0 | h0
      · exact h0
      · obtain ⟨ad, h', _⟩ := h.2.2.2 h0
        cases h'
    have hl0 : l = [] := List.eq_nil_of_length_eq_zero (by omega)
    have H0 := Lib.hid h0
    have HL := Lib.hid hl0
    clear h0 hl0 hl
    go_enter Tryz.func111, Tryz.ntmps111
    go_wp2
    go_ret
    refine ⟨_, rfl, ?_, Below.refl _ w⟩
    rw [H0.out, HL.out]
    exact World.ownsRow_nil w _ _ _
  · have HL := Lib.hid hl
    clear hl
    have ho : (w.alloc (.cells #[] 5)).ownsRow w.heap.size 5 1 (.slice (some ⟨w.heap.size, 0, none⟩) 0 0) 0 [] := World.ownsRow_lit w #[] 0 (Nat.le_refl _) (by unfold maxLen; omega) rfl
    go_enter Tryz.func111, Tryz.ntmps111
    go_wp2_with (at_builtin; refine wpList_app _ _ elB ho (h.alloc (Nat.le_refl _) _) (bv_one l) (by omega) (by omega) (by simp) rfl rfl rfl rfl ?_; intro v' w1 hown1 hg1 hat1)
    go_ret
    simp only [Nat.zero_add, List.nil_append] at hown1
    exact ⟨v', rfl, hown1, below_of_alloc_grown hg1 (fun g hg => by cases hg; exact Nat.le_refl _)⟩

theorem groups_any (n : Int) (w : World) (hn : -9223372036854775808 ≤ n ∧ n ≤ 9223372036854775807) :
    Calls Tryz.prog 112 #[.int .i64 n] w fun e w' => e = .returned (.func (.func 132) #[] #[.pointer (some ⟨w.heap.size, 0, none⟩)]) ∧ w' = w.alloc (.cells #[.int .u64 (Vi.zig n : Int)] 154) := by
  go_enter Tryz.func112, Tryz.ntmps112
  go_wp2
  go_ret
  exact ⟨rfl, by rw [zig_bits n hn]⟩
theorem bv_snoc (l : List UInt8) (b : Nat) (h : b < 256) : bv l ++ [.int .u8 (b : Int)] = bv (l ++ [UInt8.ofNat b]) := by
  rw [bv_append]
  congr 1
  simp [bv, bcell, UInt8.toNat_ofNat', Nat.mod_eq_of_lt h]
theorem one_u8 (z : Int) : ∀ u ∈ [Value.int .u8 z], u.oneCell' = true := by simp [Value.oneCell']
theorem enc_split {Z U : Nat} {pre : List UInt8} (h : Vi.enc Z = pre ++ Vi.enc U) (hU : ¬ U < 128) : Vi.enc Z = (pre ++ [UInt8.ofNat (U % 128 + 128)]) ++ Vi.enc (U / 128) := by
  rw [h, Vi.enc_ge hU]
  simp
set_option maxRecDepth 100000 in
set_option maxHeartbeats 1000000 in
theorem rputInt_any (A : Option Addr) (m c : Nat) (l : List UInt8) (n : Int) (w : World) (h : RdB w w.heap.size A m c l) (hm : m ≤ 1099511627776) (hn : -9223372036854775808 ≤ n ∧ n ≤ 9223372036854775807) :
    Calls Tryz.prog 58 #[.slice A m c, .int .i64 n] w (RetNew 5 (m + (Vi.putI n).length) (bv (l ++ Vi.putI n)) w) := by
  have h2 := h.max
  have h3 := h.le
  have ho : (w.alloc (.cells #[] 5)).ownsRow w.heap.size 5 1 (.slice (some ⟨w.heap.size, 0, none⟩) 0 0) 0 [] := World.ownsRow_lit w #[] 0 (Nat.le_refl _) (by unfold maxLen; omega) rfl
  obtain ⟨Z, hZ⟩ : ∃ Z, Z = Vi.zig n := ⟨_, rfl⟩
  have hZ64 : Z < 18446744073709551616 := by rw [hZ]; exact Vi.zig_lt hn
  have hlen := Vi.enc_len10 hZ64
  have HP : Hid (Vi.putI n = Vi.enc Z) := by show Vi.putI n = _; unfold Vi.putI; rw [hZ]
  have e1 : n < 0 → 2 * -(n + 1) + 1 = (Z : Int) := fun h => by rw [hZ]; unfold Vi.zig; rw [if_neg (by omega)]; omega
  have e2 : ¬ n < 0 → 2 * n = (Z : Int) := fun h => by rw [hZ]; unfold Vi.zig; rw [if_pos (by omega)]; omega
  have E1 := Lib.hid e1
  have E2 := Lib.hid e2
  have HLEN := Lib.hid hlen
  clear e1 e2 hZ hlen
  go_enter Tryz.func58, Tryz.ntmps58
  by_cases h0 : n < 0
  all_goals
    first
      | have d0 : decide (n < 0) = true := decide_eq_true h0
      | have d0 : decide (n < 0) = false := decide_eq_false h0
    go_wp2_with (at_builtin; refine wpList_app _ _ elB ho (h.alloc (Nat.le_refl _) _) (bv_one l) (by omega) (by omega) (by simp) rfl rfl rfl rfl ?_; intro v' w1 hown1 hg1 hat1)
    first | rw [E1.out h0] | rw [E2.out h0]
    simp only [Nat.zero_add, List.nil_append] at hown1
    have hb1 : Below w.heap.size w w1 := below_of_alloc_grown hg1 (fun g hg => by cases hg; exact Nat.le_refl _)
    clear hg1 hat1 ho E1 E2
    go_loopw [5, 6] (fun u v wr => ∃ (U : Nat) (pre : List UInt8), u = .int .u64 (U : Int) ∧ U < 18446744073709551616 ∧ Vi.enc Z = pre ++ Vi.enc U ∧ wr.ownsRow w.heap.size 5 1 v (m + pre.length) (bv (l ++ pre)) ∧ Below w.heap.size w wr) (fun u _ _ => (intOf u).toNat)
    case atStart => exact ⟨Z, [], rfl, hZ64, rfl, by simpa using hown1, hb1⟩
    case round =>
      obtain ⟨U, pre, rfl, hU, hen, hown, hb⟩ := hrel
      clear hown1 hb1
      have hpl : pre.length ≤ 10 := by have := HLEN.out; rw [hen, List.length_append] at this; omega
      have hbs := hb.size
      have hx1 : (m + pre.length + 1) * 1 ≤ 140737488355328 := by omega
      have hx1' : m + pre.length + 1 ≤ 140737488355328 := by omega
      have hx2 : ∀ o, w.heap.size ≤ (wr.alloc o).heap.size := fun o => by rw [World.size_alloc]; omega
      obtain ⟨Av, cv, rfl, _⟩ := own_rdB hown
      by_cases h128 : U < 128
      · have d1 : decide ((128 : Int) ≤ (U : Int)) = false := by simp; omega
        have d1' : decide (128 ≤ U) = false := by simp; omega
        have HF : Hid (Vi.putI n = pre ++ [UInt8.ofNat U]) := by show Vi.putI n = _; rw [HP.out, hen, Vi.enc_lt h128]
        have HEN := Lib.hid hen
        clear hen
        go_wp2_with (at_builtin; refine wpList_app _ _ elB (hown.alloc _) (Rd.one wr _ _) (one_u8 _) hx1 hx1' (hx2 _) rfl rfl rfl rfl ?_; intro v2 w2 hown2 hg2 hat2)
        go_ret
        refine ⟨v2, rfl, ?_, hb.grown (grownBy_of_alloc hg2) hb.size (own_lt hown)⟩
        rw [bv_snoc _ U (by omega)] at hown2
        rw [HF.out, List.length_append, ← List.append_assoc, ← Nat.add_assoc]
        exact hown2
      · have d1 : decide ((128 : Int) ≤ (U : Int)) = true := by simp; omega
        have d1' : decide (128 ≤ U) = true := by simp; omega
        have HF := Lib.hid (enc_split hen h128)
        clear hen
        go_wp2_with (at_builtin; refine wpList_app _ _ elB (hown.alloc _) (Rd.one wr _ _) (one_u8 _) hx1 hx1' (hx2 _) rfl rfl rfl rfl ?_; intro v2 w2 hown2 hg2 hat2)
        go_roundw
        case rel =>
          refine ⟨U / 128, pre ++ [UInt8.ofNat (U % 128 + 128)], by go_num, by omega, HF.out, ?_, hb.grown (grownBy_of_alloc hg2) hb.size (own_lt hown)⟩
          have e : ((U : Int) % 128 + 128) = ((U % 128 + 128 : Nat) : Int) := by omega
          rw [e, bv_snoc _ _ (by omega)] at hown2
          rw [List.length_append, ← List.append_assoc, ← Nat.add_assoc]
          exact hown2
        case measure => simp [intOf]; omega
end Go.Proofs.YtfockoihmoljfaaGreatDoor

/-
  The iterator of PutInt.
-/
namespace Go.Proofs.YtfockoihmoljfaaGreatDoor
open Go.RowKit Go.Shelf
set_option linter.unusedVariables false
set_option linter.unusedSimpArgs false
attribute [local go_sem] Oper.semAt_some

/-- What a round keeps for the iterator: what lay below n₀, and its box. -/
def KpB (n₀ Bb : Nat) (A B : World) : Prop := Below n₀ A B ∧ B.heap[Bb]? = A.heap[Bb]?
def StG (Bb : Nat) (A B : World) : Prop := A.grownBy B (some Bb)
def gY (Z : Nat) (i : Nat) (args : Array Value) (W : World) : Prop := ∃ b : UInt8, (Vi.enc Z)[i]? = some b ∧ args = #[.int .u8 (b.toNat : Int)]
/-- The number in the iterator's box. -/
def boxU (Bb : Nat) (W : World) : Nat := match W.cell? ⟨Bb, 0, none⟩ with | some v => (intOf v).toNat | none => 0

theorem or128_nat : ∀ a : Fin 256, (a.val ||| 128) = a.val % 128 + 128 := by decide +kernel
theorem or128 (U : Nat) : bits .or .u8 ((U : Int) % 256) 128 = ((U % 128 + 128 : Nat) : Int) := by
  have h1 := u8_or_nat (U % 256) 128 (Nat.mod_lt _ (by decide)) (by decide)
  have h2 := or128_nat ⟨U % 256, Nat.mod_lt _ (by decide)⟩
  simp only at h2
  rw [h2] at h1
  have e : ((U % 256 : Nat) : Int) = (U : Int) % 256 := by omega
  rw [e] at h1
  rw [show (128 : Int) = ((128 : Nat) : Int) from rfl, h1]
  omega
theorem enc_at {Z U : Nat} {pre : List UInt8} (h : Vi.enc Z = pre ++ Vi.enc U) : (Vi.enc Z)[pre.length]? = (Vi.enc U)[0]? := by
  rw [h, List.getElem?_append_right (Nat.le_refl _), Nat.sub_self]
theorem enc_more {Z U : Nat} {pre : List UInt8} (h : Vi.enc Z = pre ++ Vi.enc U) : pre.length < (Vi.enc Z).length := by
  rw [h, List.length_append]
  have := Vi.enc_pos U
  omega
theorem u8_ofNat (b : Nat) (h : b < 256) : (((UInt8.ofNat b).toNat : Nat) : Int) = (b : Int) := by
  rw [UInt8.toNat_ofNat', Nat.mod_eq_of_lt h]

set_option maxRecDepth 100000 in
set_option maxHeartbeats 1000000 in
theorem groups1_iter (Bb n₀ Z : Nat) (w : World) (hbox : Boxed w Bb 154 (.int .u64 (Z : Int))) (hZ : Z < 18446744073709551616) (hn₀ : n₀ ≤ w.heap.size) :
    IterT Tryz.prog 132 #[.pointer (some ⟨Bb, 0, none⟩)] (StG Bb) (KpB n₀ Bb) (Vi.enc Z).length (gY Z) w := by
  intro l0 J W hKw hJ hY h0
  have hbW : Boxed W Bb 154 (.int .u64 (Z : Int)) := hKw.2.trans hbox
  refine callsIn_of_wp Tryz.func132 rfl trivial ?_ rfl
  simp only [Tryz.ntmps132, List.size_toArray, List.length_cons, List.length_nil, Nat.reduceAdd, Nat.reduceSub, Array.replicate_succ, Array.replicate_zero, List.push_toArray, List.append_toArray, List.nil_append, List.cons_append]
  gi_wp2
  gi_loopw [3] (fun _ wr => ∃ (U : Nat) (pre : List UInt8), U < 18446744073709551616 ∧ Vi.enc Z = pre ++ Vi.enc U ∧ J pre.length wr ∧ Boxed wr Bb 154 (.int .u64 (U : Int))) (fun _ wr => boxU Bb wr)
  case atStart => exact ⟨Z, [], hZ, rfl, h0, hbW⟩
  case round =>
    obtain ⟨U, pre, hU, hen, hJs, hbx⟩ := hrel
    have hcell := hbx.cell
    have hfrz := hbx.frozen
    have HM : Hid (boxU Bb wr = U) := by show boxU Bb wr = U; unfold boxU; rw [hcell]; simp [intOf]
    have hlt := enc_more hen
    by_cases h128 : U < 128
    · have d1 : decide ((127 : Int) < (U : Int)) = false := by simp; omega
      have d1' : decide (127 < U) = false := by simp; omega
      have d2 : decide ((U : Int) < 128) = true := by simp; omega
      have d2' : decide (U < 128) = true := by simp; omega
      have hyy := hY pre.length #[.int .u8 (U : Int)] wr hlt hJs ⟨UInt8.ofNat U, by rw [enc_at hen, Vi.enc_lt h128]; rfl, by rw [u8_ofNat U (by omega)]⟩
      obtain ⟨fn, tmps, assign, body, hy, hR⟩ := hyy
      have HR := Lib.hid hR
      have HE : Hid (pre.length + 1 = (Vi.enc Z).length) := by show pre.length + 1 = _; rw [hen, Vi.enc_lt h128, List.length_append]; rfl
      clear hR hY hJ hen hlt
      gi_wp2
      refine ⟨fun _ h => (by cases h), ?_⟩
      gi_wp2
      refine HR.out.mono ?_
      rintro e W3 ⟨rfl, hJ3, hk3⟩
      gi_wp2
      refine bodyPost_end (results_none rfl _ _ _) rfl ?_
      exact ⟨⟨_, rfl⟩, by rw [← HE.out]; exact hJ3⟩
    · have d1 : decide ((127 : Int) < (U : Int)) = true := by simp; omega
      have d1' : decide (127 < U) = true := by simp; omega
      have hyy := hY pre.length #[.int .u8 (bits .or .u8 ((U : Int) % 256) 128)] wr hlt hJs ⟨UInt8.ofNat (U % 128 + 128), by rw [enc_at hen, Vi.enc_ge h128]; rfl, by rw [u8_ofNat _ (by omega), or128]⟩
      obtain ⟨fn, tmps, assign, body, hy, hR⟩ := hyy
      have HR := Lib.hid hR
      have HE := Lib.hid (enc_split hen h128)
      have HJ := Lib.hid hJ
      clear hR hY hJ hen hlt
      gi_wp2
      refine HR.out.mono ?_
      rintro e W3 ⟨rfl, hJ3, hk3⟩
      have hbx3 : Boxed W3 Bb 154 (.int .u64 (U : Int)) := hk3.2.trans hbx
      have c3 := hbx3.cell
      have f3 := hbx3.frozen
      gi_wp2
      go_roundw
      case rel => exact ⟨U / 128, pre ++ [UInt8.ofNat (U % 128 + 128)], by omega, HE.out, by rw [List.length_append]; exact HJ.out _ _ _ hJ3 (grownBy_setCell' _ _ _), hbx3.set _⟩
      case measure =>
        have HM2 : boxU Bb (W3.setCell ⟨Bb, 0, none⟩ (.int .u64 (((U / 128 : Nat) : Int)))) = U / 128 := by
          unfold boxU
          rw [(hbx3.set (.int .u64 (((U / 128 : Nat) : Int)))).cell]
          simp [intOf]
          omega
        have e : ((U / 128 : Nat) : Int) = (U : Int) / 128 := by omega
        rw [e] at HM2
        rw [HM.out]
        first | (rw [HM2]; omega) | (simp only [HM2]; omega)

/-- Between two rounds: the box of the slice, what it owns, apart from the iterator's box Bb. -/
def putIv (l s : List UInt8) (B Bb B0 : Nat) (w : World) (i : Nat) (W : World) : Prop :=
  ∃ v, Boxed W B 38 v ∧ W.ownsRow B0 5 1 v (l.length + i) (bv (l ++ s.take i)) ∧ v.ownBlock ≠ some Bb ∧ Below B0 w W ∧ Bb < W.heap.size
theorem putIv_st {l s : List UInt8} {B Bb B0 : Nat} {w : World} {i : Nat} {X Y : World} (hB : B ≠ Bb) (h : putIv l s B Bb B0 w i X) (hw : B0 ≤ Bb) (hs0 : B0 ≤ w.heap.size) (hst : StG Bb X Y) : putIv l s B Bb B0 w i Y := by
  obtain ⟨v, h1, h2, h3, h4, h5⟩ := h
  refine ⟨v, h1.kept hst (fun e => hB (Option.some.inj e)), h2.kept hst ?_, h3, h4.grown hst (Nat.le_trans hs0 h4.size) (fun g hg => by cases hg; exact hw), Nat.lt_of_lt_of_le h5 hst.size⟩
  cases hv : v.ownBlock with
  | none => exact .inl rfl
  | some g => exact .inr (by rw [← hv]; exact h3)
theorem putIv_put {l s : List UInt8} {B Bb B0 : Nat} {w : World} {i B1 : Nat} (hB : B0 ≤ B1) : Puts B1 (putIv l s B Bb B0 w i) := by
  rintro A r o o' ⟨v, h1, h2, h3, h4, h5⟩ hr ho hc
  exact ⟨v, boxed_put h1 o' ho hc, ownsRow_putObj h2 o' ho hc, h3, below_put h4 o' (by omega) ho, by simpa using h5⟩
theorem gY_put {Z i B : Nat} {args : Array Value} : Puts B (gY Z i args) := by
  rintro A r o o' ⟨b, h1, h2⟩ hr ho hc
  exact ⟨b, h1, h2⟩
theorem take_snoc {s : List UInt8} {i : Nat} {b : UInt8} (h : s[i]? = some b) : s.take (i + 1) = s.take i ++ [b] := by
  obtain ⟨hi, rfl⟩ := List.getElem?_eq_some_iff.1 h
  exact List.take_succ_eq_append_getElem hi
/-- One round's worth: the world behind 'b = append(b, c)'. -/
theorem put_step {l s : List UInt8} {B Bb B0 : Nat} {w W w1 : World} {i : Nat} {b : UInt8} {v v' : Value}
    (hb : Boxed W B 38 v) (hrow : W.ownsRow B0 5 1 v (l.length + i) (bv (l ++ s.take i))) (hne : v.ownBlock ≠ some Bb) (hB : Below B0 w W) (hs0 : B0 ≤ w.heap.size) (hBb : Bb < W.heap.size) (hBB : B ≠ Bb) (hwB : B0 ≤ B)
    (hx : s[i]? = some b) (hown' : w1.ownsRow B0 5 1 v' (l.length + i + 1) (bv (l ++ s.take i) ++ [.int .u8 (b.toNat : Int)])) (hgr : (W.alloc (.cells #[.int .u8 (b.toNat : Int)] 5)).grownBy w1 v.ownBlock)
    (hat : v'.ownBlock = v.ownBlock ∨ v'.ownBlock = some (W.alloc (.cells #[.int .u8 (b.toNat : Int)] 5)).heap.size) :
    Boxed w1 B 38 v ∧ (∀ B₀, KeepsFrom B₀ W (w1.setCell ⟨B, 0, none⟩ v')) ∧ ((w1.setCell ⟨B, 0, none⟩ v').heap[Bb]? = W.heap[Bb]?) ∧ putIv l s B Bb B0 w (i + 1) (w1.setCell ⟨B, 0, none⟩ v') ∧ Below B0 W (w1.setCell ⟨B, 0, none⟩ v') := by
  obtain ⟨b1, b2, b3, b4, b5⟩ := hb.appended (by decide) hrow (Nat.le_trans hs0 hB.size) hwB hown' hgr
  refine ⟨b1, fun B₀ => b4.from B₀, ?_, ⟨v', b2, ?_, ?_, hB.trans b5, ?_⟩, b5⟩
  · have e1 : w1.heap[Bb]? = W.heap[Bb]? := (hgr.block _ (by simp; omega) (fun e => hne e.symm)).trans (Below.heap_alloc _ _ _ hBb)
    rw [← e1]
    exact heap_setCell_other _ _ _ _ (by simpa using fun e => hBB e.symm)
  · rw [take_snoc hx, ← List.append_assoc, bv_append]
    exact b3
  · rcases hat with h | h
    · rw [h]; exact hne
    · rw [h]; simp; omega
  · have := b5.size
    have e : (w1.setCell ⟨B, 0, none⟩ v').heap.size = w1.heap.size := by simp
    have := hgr.size
    simp at this
    omega

set_option maxRecDepth 100000 in
set_option maxHeartbeats 1000000 in
theorem putInt_any (A : Option Addr) (m c : Nat) (l : List UInt8) (n : Int) (w : World) (h : RdB w w.heap.size A m c l) (hm : m ≤ 1099511627776) (hn : -9223372036854775808 ≤ n ∧ n ≤ 9223372036854775807) :
    Calls Tryz.prog 47 #[.slice A m c, .int .i64 n] w (RetNew 5 (m + (Vi.putI n).length) (bv (l ++ Vi.putI n)) w) := by
  have hlen := Lib.hid h.len
  have hb1 := (Below.refl w.heap.size w).alloc (Nat.le_refl _) (.cells #[.slice A m c] 38)
  have hp1 := (h.below hb1).more hb1.size
  have x1 : Boxed (w.alloc (.cells #[.slice A m c] 38)) w.heap.size 38 (.slice A m c) := Boxed.new w _ _
  refine (callsIn_wide (n := 3)).1 ?_
  refine callsIn_of_wp_marks Tryz.func47 rfl trivial ?_ rfl
  simp only [Tryz.ntmps47, List.size_toArray, List.length_cons, List.length_nil, Nat.reduceAdd, Nat.reduceSub, Array.replicate_succ, Array.replicate_zero, List.push_toArray, List.append_toArray, List.nil_append, List.cons_append]
  gi_wp2_with fail
  refine ⟨trivial, ?_⟩
  refine CallsIn.mono (callsIn_wide.2 (cloneB_any A m c l _ hp1 (by omega))) ?_
  rintro e w2 ⟨v2, rfl, hown2, hb2⟩
  obtain ⟨A2, c2, rfl, _⟩ := own_rdB hown2
  have x2 := boxed_below x1 hb2
  have hbw2 : Below w.heap.size w w2 := hb1.trans (hb2.mono hb1.size)
  have hown3 : w2.ownsRow w.heap.size 5 1 (.slice A2 m c2) m (bv l) := own_mono hown2 hb1.size
  have hlt2 : w.heap.size < w2.heap.size := x2.lt
  have k1 := x2.cell
  have k2 := x2.frozen
  clear hown2 hb2 x1 hp1 hb1
  gi_wp2_with fail
  refine ⟨trivial, ?_⟩
  refine CallsIn.mono (callsIn_wide.2 (groups_any n _ hn)) ?_
  rintro e W0 ⟨rfl, hW0⟩
  obtain ⟨Z, hZ⟩ : ∃ Z, Z = Vi.zig n := ⟨_, rfl⟩
  have hZ64 : Z < 18446744073709551616 := by rw [hZ]; exact Vi.zig_lt hn
  have HP : Hid (Vi.putI n = Vi.enc Z) := by show Vi.putI n = _; unfold Vi.putI; rw [hZ]
  rw [← hZ] at hW0
  have HLEN := Lib.hid (Vi.enc_len10 hZ64)
  have es : (w2.setCell ⟨w.heap.size, 0, none⟩ (.slice A2 m c2)).heap.size = w2.heap.size := by simp
  have hs0 : W0.heap.size = w2.heap.size + 1 := by rw [hW0, World.size_alloc, es]
  have hB0 : Below w.heap.size w W0 := by rw [hW0]; exact (hbw2.setCell (p := ⟨w.heap.size, 0, none⟩) (Nat.le_refl _) _).alloc (by rw [es]; omega) _
  have y1 : Boxed W0 w.heap.size 38 (.slice A2 m c2) := by rw [hW0]; exact (x2.set _).alloc _
  have y2 : Boxed W0 w2.heap.size 154 (.int .u64 (Z : Int)) := by rw [hW0, ← es]; exact Boxed.new _ _ _
  have y3 : W0.ownsRow w.heap.size 5 1 (.slice A2 m c2) m (bv l) := by rw [hW0]; exact (hown3.kept (grownBy_setCell' _ _ _) (.inr (x2.not_row (by decide) hown3).symm)).alloc _
  have y4 : (Value.slice A2 m c2).ownBlock ≠ some w2.heap.size := fun e => by have := (hown3.lt _ e).2; omega
  rw [es]
  clear hZ hW0 k1 k2 x2 hown3 es hbw2
  gi_wp2_with fail
  refine wpIn_rangeT (gf := 132) (lb := #[.pointer (some ⟨w2.heap.size, 0, none⟩)]) rfl (enters_of Tryz.func132 (by kernel_rfl) rfl)
    (groups1_iter w2.heap.size w.heap.size Z W0 y2 hZ64 hB0.size)
    (fun X o => World.grownBy_alloc _ _ _)
    (fun X Y k o hst hk hx _ => (hst.block k (Array.getElem?_eq_some_iff.1 hx).1 (fun e => by cases e; omega)).trans hx)
    (fun X o hs => ⟨(Below.refl _ X).alloc (by omega) o, Below.heap_alloc _ _ _ (by omega)⟩)
    (fun X Y Z h1 h2 => ⟨h1.1.trans h2.1, h2.2.trans h1.2⟩)
    (fun X r o o' hr hk _ => ⟨below_put (Below.refl _ _) o' (by omega) hk, World.putObj_heap_other (by omega)⟩)
    (fun i args => gY_put) (fun i args W hy => by obtain ⟨_, _, rfl⟩ := hy; rfl)
    (putIv l (Vi.enc Z) w.heap.size w2.heap.size w.heap.size w) (fun i X Y hi hb => putIv_st (by omega) hi (by omega) (Nat.le_refl _) hb) (fun i => putIv_put (by omega))
    ⟨_, y1, by rw [hlen.out]; simpa using y3, y4, hB0, by omega⟩
    (fun args => { tmps := #[.slice A m c, .int .i64 n, .pointer (some ⟨w.heap.size, 0, none⟩), undef, .slice none 0 0, args.getD 0 undef, .slice A m c, .slice A2 m c2, .int .i64 n,
        .func (.func 132) #[] #[.pointer (some ⟨w2.heap.size, 0, none⟩)], args.getD 0 undef, undef, undef, undef, undef, undef], defers := [] }) ?assign ?body ?done
  case assign =>
    rintro l0 i args W K ⟨b, _, rfl⟩ hK
    gi_wp2
    exact hK
  case body =>
    rintro l0 i args W hi ⟨v, z1, z2, z3, z4, z5⟩ ⟨b, hx, rfl⟩
    have hc1 := z1.cell
    have hf1 := z1.frozen
    have hsz := z4.size
    have hi10 : i ≤ 10 := by have := HLEN.out; omega
    have hlm := hlen.out
    have hx1 : (l.length + i + 1) * 1 ≤ 140737488355328 := by omega
    have hx1' : l.length + i + 1 ≤ 140737488355328 := by omega
    have hx2 : ∀ o, w.heap.size ≤ (W.alloc o).heap.size := fun o => by rw [World.size_alloc]; omega
    have HLM := Lib.hid hlm
    have HSTEP : Hid (∀ v' w1, w1.ownsRow w.heap.size 5 1 v' (l.length + i + 1) (bv (l ++ (Vi.enc Z).take i) ++ [.int .u8 (b.toNat : Int)]) → (W.alloc (.cells #[.int .u8 (b.toNat : Int)] 5)).grownBy w1 v.ownBlock → (v'.ownBlock = v.ownBlock ∨ v'.ownBlock = some (W.alloc (.cells #[.int .u8 (b.toNat : Int)] 5)).heap.size) → _) :=
      fun v' w1 a1 a2 a3 => put_step (B := w.heap.size) z1 z2 z3 z4 (Nat.le_refl _) z5 (by omega) (Nat.le_refl _) hx a1 a2 a3
    clear hlm y1 y2 y3 y4 hs0
    gi_wp2_with (gi_at_builtin; refine wpListIn_app (.tmp 11) (.tmp 13) elB (z2.alloc _) (Rd.one W _ _) (one_u8 _) hx1 hx1' (hx2 _) rfl rfl rfl rfl ?_; intro v' w1 hown1 hg1 hat1; obtain ⟨g', cap', rfl⟩ := ownsRow_succ hown1; obtain ⟨s1, s2, s3, s4, s5⟩ := HSTEP.out _ _ hown1 hg1 hat1; have t1 := s1.cell; have t2 := s1.frozen)
    exact ⟨s2 _, ⟨s5, s3⟩, s4⟩
  case done =>
    rintro W ⟨v, z1, z2, z3, z4, z5⟩ hK
    obtain ⟨Av, cv, rfl, hrv⟩ := own_rd z2
    have c1 := z1.cell
    gi_wp2
    refine ⟨by simp, .inl ⟨_, _, rfl, run_takeDeferred (w := W) hK, ?_⟩⟩
    refine ⟨.slice Av (l.length + (Vi.enc Z).length) cv, ?_, ⟨.slice Av (l.length + (Vi.enc Z).length) cv, rfl, ?_, below_put z4 _ (by have := hB0.size; omega) hK⟩⟩
    · simp [results, Tryz.results47, go_sem]
    · have := ownsRow_putObj z2 (.deferred none) hK rfl
      rw [List.take_length] at this
      rw [HP.out, ← hlen.out]
      exact this

/-- What an append onto a row that the caller owns leaves. -/
def RetOn (B0 : Nat) (t : TypeId) (k : Nat) (xs : List Value) (w : World) (e : Ending) (w' : World) : Prop :=
  ∃ v', e = .returned v' ∧ w'.ownsRow B0 t 1 v' k xs ∧ Below B0 w w'
set_option maxRecDepth 100000 in
set_option maxHeartbeats 1000000 in
theorem appSeq_any (A2 : Option Addr) (m c2 : Nat) (l : List UInt8) (Z B0 Bb : Nat) (w : World) (hown : w.ownsRow B0 5 1 (.slice A2 m c2) m (bv l)) (hbox : Boxed w Bb 154 (.int .u64 (Z : Int))) (hB0 : B0 ≤ w.heap.size) (hBb : B0 ≤ Bb) (hm : m ≤ 1099511627776) (hZ64 : Z < 18446744073709551616) :
    Calls Tryz.prog 113 #[.slice A2 m c2, .func (.func 132) #[] #[.pointer (some ⟨Bb, 0, none⟩)]] w (RetOn B0 5 (m + (Vi.enc Z).length) (bv (l ++ Vi.enc Z)) w) := by
  have hlen : Hid (l.length = m) := by show l.length = m; have := hown.1; rw [bv_length] at this; omega
  have HLEN := Lib.hid (Vi.enc_len10 hZ64)
  have hltb : Bb < w.heap.size := hbox.lt
  obtain ⟨W0, hW0⟩ : ∃ W0, W0 = w.alloc (.cells #[.slice A2 m c2] 38) := ⟨_, rfl⟩
  have hs0 : W0.heap.size = w.heap.size + 1 := by rw [hW0, World.size_alloc]
  have hb0 : Below B0 w W0 := by rw [hW0]; exact (Below.refl _ _).alloc hB0 _
  have y1 : Boxed W0 w.heap.size 38 (.slice A2 m c2) := by rw [hW0]; exact Boxed.new _ _ _
  have y2 : Boxed W0 Bb 154 (.int .u64 (Z : Int)) := by rw [hW0]; exact hbox.alloc _
  have y3 : W0.ownsRow B0 5 1 (.slice A2 m c2) m (bv l) := by rw [hW0]; exact hown.alloc _
  have y4 : (Value.slice A2 m c2).ownBlock ≠ some Bb := fun e => (hbox.not_row (by decide) hown) e.symm
  have HW := Lib.hid hW0.symm
  clear hW0
  refine (callsIn_wide (n := 3)).1 ?_
  refine callsIn_of_wp_marks Tryz.func113 rfl trivial ?_ rfl
  simp only [Tryz.ntmps113, List.size_toArray, List.length_cons, List.length_nil, Nat.reduceAdd, Nat.reduceSub, Array.replicate_succ, Array.replicate_zero, List.push_toArray, List.append_toArray, List.nil_append, List.cons_append]
  gi_wp2_with fail
  rw [HW.out]
  clear HW
  refine wpIn_rangeT (gf := 132) (lb := #[.pointer (some ⟨Bb, 0, none⟩)]) rfl (enters_of Tryz.func132 (by kernel_rfl) rfl)
    (groups1_iter Bb B0 Z W0 y2 hZ64 (by omega))
    (fun X o => World.grownBy_alloc _ _ _)
    (fun X Y k o hst hk hx _ => (hst.block k (Array.getElem?_eq_some_iff.1 hx).1 (fun e => by cases e; omega)).trans hx)
    (fun X o hs => ⟨(Below.refl _ X).alloc (by omega) o, Below.heap_alloc _ _ _ (by omega)⟩)
    (fun X Y Z h1 h2 => ⟨h1.1.trans h2.1, h2.2.trans h1.2⟩)
    (fun X r o o' hr hk _ => ⟨below_put (Below.refl _ _) o' (by omega) hk, World.putObj_heap_other (by omega)⟩)
    (fun i args => gY_put) (fun i args W hy => by obtain ⟨_, _, rfl⟩ := hy; rfl)
    (putIv l (Vi.enc Z) w.heap.size Bb B0 w) (fun i X Y hi hb => putIv_st (by omega) hi hBb hB0 hb) (fun i => putIv_put (by omega))
    ⟨_, y1, by rw [hlen.out]; simpa using y3, y4, hb0, by omega⟩
    (fun args => { tmps := #[.slice A2 m c2, .func (.func 132) #[] #[.pointer (some ⟨Bb, 0, none⟩)], .pointer (some ⟨w.heap.size, 0, none⟩), undef, .slice none 0 0, args.getD 0 undef,
        .func (.func 132) #[] #[.pointer (some ⟨Bb, 0, none⟩)], args.getD 0 undef, undef, undef, undef, undef, undef], defers := [] }) ?assign ?body ?done
  case assign =>
    rintro l0 i args W K ⟨b, _, rfl⟩ hK
    gi_wp2
    exact hK
  case body =>
    rintro l0 i args W hi ⟨v, z1, z2, z3, z4, z5⟩ ⟨b, hx, rfl⟩
    have hc1 := z1.cell
    have hf1 := z1.frozen
    have hsz := z4.size
    have hi10 : i ≤ 10 := by have := HLEN.out; omega
    have hlm := hlen.out
    have hx1 : (l.length + i + 1) * 1 ≤ 140737488355328 := by omega
    have hx1' : l.length + i + 1 ≤ 140737488355328 := by omega
    have hx2 : ∀ o, B0 ≤ (W.alloc o).heap.size := fun o => by rw [World.size_alloc]; omega
    have HSTEP : Hid (∀ v' w1, w1.ownsRow B0 5 1 v' (l.length + i + 1) (bv (l ++ (Vi.enc Z).take i) ++ [.int .u8 (b.toNat : Int)]) → (W.alloc (.cells #[.int .u8 (b.toNat : Int)] 5)).grownBy w1 v.ownBlock → (v'.ownBlock = v.ownBlock ∨ v'.ownBlock = some (W.alloc (.cells #[.int .u8 (b.toNat : Int)] 5)).heap.size) → _) :=
      fun v' w1 a1 a2 a3 => put_step (B := w.heap.size) z1 z2 z3 z4 hB0 z5 (by omega) hB0 hx a1 a2 a3
    clear hlm y1 y2 y3 y4 hs0
    gi_wp2_with (gi_at_builtin; refine wpListIn_app (.tmp 8) (.tmp 10) elB (z2.alloc _) (Rd.one W _ _) (one_u8 _) hx1 hx1' (hx2 _) rfl rfl rfl rfl ?_; intro v' w1 hown1 hg1 hat1; obtain ⟨g', cap', rfl⟩ := ownsRow_succ hown1; obtain ⟨s1, s2, s3, s4, s5⟩ := HSTEP.out _ _ hown1 hg1 hat1; have t1 := s1.cell; have t2 := s1.frozen)
    exact ⟨s2 _, ⟨s5, s3⟩, s4⟩
  case done =>
    rintro W ⟨v, z1, z2, z3, z4, z5⟩ hK
    obtain ⟨Av, cv, rfl, hrv⟩ := own_rd z2
    have c1 := z1.cell
    gi_wp2
    refine ⟨by simp, .inl ⟨_, _, rfl, run_takeDeferred (w := W) hK, ?_⟩⟩
    refine ⟨.slice Av (l.length + (Vi.enc Z).length) cv, ?_, ⟨.slice Av (l.length + (Vi.enc Z).length) cv, rfl, ?_, below_put z4 _ (by omega) hK⟩⟩
    · simp [results, Tryz.results113, go_sem]
    · have := ownsRow_putObj z2 (.deferred none) hK rfl
      rw [List.take_length] at this
      rw [← hlen.out]
      exact this
end Go.Proofs.YtfockoihmoljfaaGreatDoor

/-
  Slices of integers; PutInts, PutText; Ints.
-/
namespace Go.Proofs.YtfockoihmoljfaaGreatDoor
open Go.RowKit
set_option linter.unusedVariables false
set_option linter.unusedSimpArgs false

theorem elI : El Tryz.prog 51 3 (.int .i64 0) 8 := ⟨Tryz.underlying51, by kernel_rfl, rfl⟩

/-- The bytes of a slice of integers. -/
def Vi.putL (xs : List Int) : List UInt8 := Vi.putI xs.length ++ xs.flatMap Vi.putI
theorem putI_len {n : Int} (h : -9223372036854775808 ≤ n ∧ n ≤ 9223372036854775807) : (Vi.putI n).length ≤ 10 := Vi.enc_len10 (Vi.zig_lt h)
theorem flat_len {xs : List Int} (h : okIs xs) : (xs.flatMap Vi.putI).length ≤ 10 * xs.length := by
  induction xs with
  | nil => simp
  | cons x r ih =>
    have h1 := putI_len (h x (List.mem_cons_self ..))
    have h2 := ih (fun z hz => h z (List.mem_cons_of_mem _ hz))
    rw [List.flatMap_cons, List.length_append, List.length_cons]
    omega
theorem okIs_take {xs : List Int} (h : okIs xs) (k : Nat) : okIs (xs.take k) := fun z hz => h z (List.mem_of_mem_take hz)

set_option maxHeartbeats 1000000 in
theorem putInts_any (A : Option Addr) (m c : Nat) (l : List UInt8) (A' : Option Addr) (n c' : Nat) (xs : List Int) (w : World) (h : RdB w w.heap.size A m c l) (h' : RdI w w.heap.size A' n c' xs) (hm : m ≤ 1073741824) (hn : n ≤ 1073741824) :
    Calls Tryz.prog 51 #[.slice A m c, .slice A' n c'] w (RetNew 5 (m + (Vi.putL xs).length) (bv (l ++ Vi.putL xs)) w) := by
  have h1 := h'.max
  have h2 := h'.le
  have hlen := Lib.hid h'.len
  have hI := putI_len (n := (n : Int)) (by omega)
  obtain ⟨P, hP⟩ : ∃ P, P = Vi.putI (n : Int) := ⟨_, rfl⟩
  have HP : Hid (Vi.putL xs = P ++ xs.flatMap Vi.putI) := by show Vi.putL xs = _; unfold Vi.putL; rw [hlen.out, hP]
  go_enter Tryz.func51, Tryz.ntmps51
  go_wp2_with fail
  refine (putInt_any A m c l (n : Int) w h (by omega) (by omega)).mono ?_
  rintro e w1 ⟨v, rfl, hown, hb⟩
  rw [← hP] at hown hI
  clear hP
  go_wp2_with fail
  go_loopw [0, 13] (fun v i wr => ∃ k : Nat, k ≤ n ∧ i = .int .i64 k ∧ wr.ownsRow w.heap.size 5 1 v (m + P.length + ((xs.take k).flatMap Vi.putI).length) (bv (l ++ P ++ (xs.take k).flatMap Vi.putI)) ∧ Below w.heap.size w wr) (fun _ i _ => n - (intOf i).toNat)
  case atStart => exact ⟨0, by omega, rfl, by simpa [Nat.add_assoc] using hown, hb⟩
  case round =>
    obtain ⟨k, hk, rfl, hown', hb'⟩ := hrel
    clear hown hb
    have hfl := flat_len (okIs_take h'.2 k)
    rw [List.length_take, hlen.out] at hfl
    by_cases hkn : k < n
    · have d1 : decide ((k : Int) < (n : Int)) = true := by simp; omega
      have hkl : k < xs.length := by rw [hlen.out]; exact hkn
      obtain ⟨ad, rfl, hab, c1, o1, o2⟩ := (h'.below hb').at_ hkn hkl
      have HT : Hid ((xs.take (k + 1)).flatMap Vi.putI = (xs.take k).flatMap Vi.putI ++ Vi.putI xs[k]) := by
        show List.flatMap _ _ = _
        rw [List.take_succ_eq_append_getElem hkl, List.flatMap_append]
        simp
      generalize xs[k] = z at *
      obtain ⟨Q, hQ⟩ : ∃ Q, Q = (xs.take k).flatMap Vi.putI := ⟨_, rfl⟩
      rw [← hQ] at hown' HT hfl
      clear hQ
      obtain ⟨A5, k5, rfl, _⟩ := own_rdB hown'
      have hbs := hb'.size
      go_wp2_with fail
      refine (groups_any z wr ⟨o1, o2⟩).mono ?_
      rintro e w2 ⟨rfl, hw2⟩
      have y1 : Boxed w2 wr.heap.size 154 (.int .u64 (Vi.zig z : Int)) := by rw [hw2]; exact Boxed.new _ _ _
      have y2 : w2.ownsRow w.heap.size 5 1 (.slice A5 (m + P.length + Q.length) k5) (m + P.length + Q.length) (bv (l ++ P ++ Q)) := by rw [hw2]; exact hown'.alloc _
      have y3 : Below w.heap.size w w2 := by rw [hw2]; exact hb'.alloc hb'.size _
      have y4 : w.heap.size ≤ w2.heap.size := y3.size
      have hz64 := Vi.zig_lt ⟨o1, o2⟩
      have HZ : Hid (Vi.putI z = Vi.enc (Vi.zig z)) := rfl
      clear hw2 hown' hb'
      generalize Vi.zig z = Z at *
      go_wp2_with fail
      refine (appSeq_any A5 (m + P.length + Q.length) k5 (l ++ P ++ Q) Z w.heap.size wr.heap.size w2 y2 y1 y4 hbs (by omega) hz64).mono ?_
      rintro e w3 ⟨v3, rfl, hown3, hb3⟩
      go_wp2
      go_roundw
      case rel =>
        refine ⟨k + 1, by omega, by go_num, ?_, y3.trans hb3⟩
        rw [HT.out, HZ.out, List.length_append, ← List.append_assoc, ← Nat.add_assoc]
        exact hown3
      case measure => simp [intOf]; omega
    · obtain rfl : k = n := by omega
      have d1 : decide ((k : Int) < (k : Int)) = false := by simp
      go_wp2_with fail
      go_ret
      refine ⟨_, rfl, ?_, hb'⟩
      rw [List.take_of_length_le (by rw [hlen.out]; omega)] at hown'
      rw [HP.out, List.length_append, ← List.append_assoc, ← Nat.add_assoc]
      exact hown'

set_option maxHeartbeats 1000000 in
theorem rputInts_any (A : Option Addr) (m c : Nat) (l : List UInt8) (A' : Option Addr) (n c' : Nat) (xs : List Int) (w : World) (h : RdB w w.heap.size A m c l) (h' : RdI w w.heap.size A' n c' xs) (hm : m ≤ 1073741824) (hn : n ≤ 1073741824) :
    Calls Tryz.prog 60 #[.slice A m c, .slice A' n c'] w (RetNew 5 (m + (Vi.putL xs).length) (bv (l ++ Vi.putL xs)) w) := by
  have h1 := h'.max
  have h2 := h'.le
  have hlen := Lib.hid h'.len
  have hI := putI_len (n := (n : Int)) (by omega)
  obtain ⟨P, hP⟩ : ∃ P, P = Vi.putI (n : Int) := ⟨_, rfl⟩
  have HP : Hid (Vi.putL xs = P ++ xs.flatMap Vi.putI) := by show Vi.putL xs = _; unfold Vi.putL; rw [hlen.out, hP]
  go_enter Tryz.func60, Tryz.ntmps60
  go_wp2_with fail
  refine (rputInt_any A m c l (n : Int) w h (by omega) (by omega)).mono ?_
  rintro e w1 ⟨v, rfl, hown, hb⟩
  rw [← hP] at hown hI
  clear hP
  go_wp2_with fail
  go_loopw [5, 6] (fun v i wr => ∃ k : Nat, k ≤ n ∧ i = .int .i64 k ∧ wr.ownsRow w.heap.size 5 1 v (m + P.length + ((xs.take k).flatMap Vi.putI).length) (bv (l ++ P ++ (xs.take k).flatMap Vi.putI)) ∧ Below w.heap.size w wr) (fun _ i _ => n - (intOf i).toNat)
  case atStart => exact ⟨0, by omega, rfl, by simpa [Nat.add_assoc] using hown, hb⟩
  case round =>
    obtain ⟨k, hk, rfl, hown', hb'⟩ := hrel
    clear hown hb
    have hfl := flat_len (okIs_take h'.2 k)
    rw [List.length_take, hlen.out] at hfl
    by_cases hkn : k < n
    · have d1 : decide ((k : Int) < (n : Int)) = true := by simp; omega
      have hkl : k < xs.length := by rw [hlen.out]; exact hkn
      obtain ⟨ad, rfl, hab, c1, o1, o2⟩ := (h'.below hb').at_ hkn hkl
      have HT : Hid ((xs.take (k + 1)).flatMap Vi.putI = (xs.take k).flatMap Vi.putI ++ Vi.putI xs[k]) := by
        show List.flatMap _ _ = _
        rw [List.take_succ_eq_append_getElem hkl, List.flatMap_append]
        simp
      generalize xs[k] = z at *
      obtain ⟨Q, hQ⟩ : ∃ Q, Q = (xs.take k).flatMap Vi.putI := ⟨_, rfl⟩
      rw [← hQ] at hown' HT hfl
      clear hQ
      obtain ⟨A5, k5, rfl, r5⟩ := own_rdB hown'
      have hbs := hb'.size
      go_wp2_with fail
      refine (rputInt_any A5 (m + P.length + Q.length) k5 (l ++ P ++ Q) z wr r5 (by omega) ⟨o1, o2⟩).mono ?_
      rintro e w3 ⟨v3, rfl, hown3, hb3⟩
      generalize Vi.putI z = R at *
      go_wp2
      go_roundw
      case rel =>
        refine ⟨k + 1, by omega, by go_num, ?_, hb'.trans (hb3.mono hbs)⟩
        rw [HT.out, List.length_append, ← List.append_assoc, ← Nat.add_assoc]
        exact own_mono hown3 hbs
      case measure => simp [intOf]; omega
    · obtain rfl : k = n := by omega
      have d1 : decide ((k : Int) < (k : Int)) = false := by simp
      go_wp2_with fail
      go_ret
      refine ⟨_, rfl, ?_, hb'⟩
      rw [List.take_of_length_le (by rw [hlen.out]; omega)] at hown'
      rw [HP.out, List.length_append, ← List.append_assoc, ← Nat.add_assoc]
      exact hown'

/-- The bytes of a string. -/
def Vi.putS (s : List UInt8) : List UInt8 := Vi.putI s.length ++ s
theorem strCells_bv (s : ByteArray) : Lib.strCells s = bv s.data.toList := rfl
theorem infoU8 : ∃ i, Tryz.prog.info? 5 = some i ∧ i.zero = some (.int .u8 0) ∧ i.size = 1 ∧ i.bytes = 1 := by
  obtain ⟨i, hi, hz0, hz1, hz2⟩ := info_parts elB.i
  exact ⟨i, hi, hz0, hz1, hz2⟩

set_option maxHeartbeats 1000000 in
theorem putText_any (A : Option Addr) (m c : Nat) (l : List UInt8) (s : ByteArray) (w : World) (h : RdB w w.heap.size A m c l) (hm : m ≤ 1073741824) (hs : s.size ≤ 1073741824) :
    Calls Tryz.prog 48 #[.slice A m c, .string s] w (RetNew 5 (m + (Vi.putS s.data.toList).length) (bv (l ++ Vi.putS s.data.toList)) w) := by
  obtain ⟨i0, hi, hz0, hz1, hz2⟩ := infoU8
  have HI := Lib.hid hi
  have HZ0 := Lib.hid hz0
  have HZ1 := Lib.hid hz1
  have HZ2 := Lib.hid hz2
  clear hi hz0 hz1 hz2
  have hI := putI_len (n := (s.size : Int)) (by omega)
  obtain ⟨P, hP⟩ : ∃ P, P = Vi.putI (s.size : Int) := ⟨_, rfl⟩
  have HP : Hid (Vi.putS s.data.toList = P ++ s.data.toList) := by show Vi.putS _ = _; unfold Vi.putS; rw [hP]; rfl
  go_enter Tryz.func48, Tryz.ntmps48
  go_wp2_with fail
  refine (putInt_any A m c l (s.size : Int) w h (by omega) (by omega)).mono ?_
  rintro e w1 ⟨v, rfl, hown, hb⟩
  rw [← hP] at hown hI
  clear hP
  have hbs := hb.size
  have hx : m + P.length + s.size ≤ 140737488355328 := by omega
  have hx' : m + P.length + s.size ≤ maxLen := by unfold maxLen; omega
  obtain ⟨A5, k5, rfl, r5⟩ := own_rdB hown
  go_wp2_with (at_builtin; refine Lib.wpList_append_own_string _ rfl _ _ 38 9 rfl w.heap.size 5 i0 Tryz.underlying38 Tryz.underlying9 HI.out HZ0.out HZ1.out HZ2.out _ _ _ rfl hown s rfl hx' hx hbs ?_; intro v2 w2 hown2 hg2 hat2)
  go_ret
  refine ⟨v2, rfl, ?_, hb.grown hg2 hb.size (own_lt hown)⟩
  rw [HP.out, List.length_append, ← List.append_assoc, ← Nat.add_assoc, bv_append _ s.data.toList]
  exact hown2
set_option maxHeartbeats 1000000 in
theorem rputText_any (A : Option Addr) (m c : Nat) (l : List UInt8) (s : ByteArray) (w : World) (h : RdB w w.heap.size A m c l) (hm : m ≤ 1073741824) (hs : s.size ≤ 1073741824) :
    Calls Tryz.prog 59 #[.slice A m c, .string s] w (RetNew 5 (m + (Vi.putS s.data.toList).length) (bv (l ++ Vi.putS s.data.toList)) w) := by
  obtain ⟨i0, hi, hz0, hz1, hz2⟩ := infoU8
  have HI := Lib.hid hi
  have HZ0 := Lib.hid hz0
  have HZ1 := Lib.hid hz1
  have HZ2 := Lib.hid hz2
  clear hi hz0 hz1 hz2
  have hI := putI_len (n := (s.size : Int)) (by omega)
  obtain ⟨P, hP⟩ : ∃ P, P = Vi.putI (s.size : Int) := ⟨_, rfl⟩
  have HP : Hid (Vi.putS s.data.toList = P ++ s.data.toList) := by show Vi.putS _ = _; unfold Vi.putS; rw [hP]; rfl
  go_enter Tryz.func59, Tryz.ntmps59
  go_wp2_with fail
  refine (rputInt_any A m c l (s.size : Int) w h (by omega) (by omega)).mono ?_
  rintro e w1 ⟨v, rfl, hown, hb⟩
  rw [← hP] at hown hI
  clear hP
  have hbs := hb.size
  have hx : m + P.length + s.size ≤ 140737488355328 := by omega
  have hx' : m + P.length + s.size ≤ maxLen := by unfold maxLen; omega
  obtain ⟨A5, k5, rfl, r5⟩ := own_rdB hown
  go_wp2_with (at_builtin; refine Lib.wpList_append_own_string _ rfl _ _ 38 9 rfl w.heap.size 5 i0 Tryz.underlying38 Tryz.underlying9 HI.out HZ0.out HZ1.out HZ2.out _ _ _ rfl hown s rfl hx' hx hbs ?_; intro v2 w2 hown2 hg2 hat2)
  go_ret
  refine ⟨v2, rfl, ?_, hb.grown hg2 hb.size (own_lt hown)⟩
  rw [HP.out, List.length_append, ← List.append_assoc, ← Nat.add_assoc, bv_append _ s.data.toList]
  exact hown2
end Go.Proofs.YtfockoihmoljfaaGreatDoor

/-
  octet.GetInt.
-/
namespace Go.Proofs.YtfockoihmoljfaaGreatDoor
open Go.RowKit
set_option linter.unusedVariables false
set_option linter.unusedSimpArgs false

set_option maxRecDepth 100000 in
set_option maxHeartbeats 1000000 in
theorem getInt_any (A : Option Addr) (n c : Nat) (l : List UInt8) (a : Int) (w : World) (h : RdB w w.heap.size A n c l) (ha : -9223372036854775808 ≤ a ∧ a ≤ 9223372036854775807) :
    Calls Tryz.prog 118 #[.slice A n c, .int .i64 a] w fun e w' => e = .returned (.tuple #[.int .i64 (Vi.getI l a).1, .int .i64 (Vi.getI l a).2.1, .int .i64 (Vi.getI l a).2.2]) ∧ w = w' := by
  have hm := h.max
  have hle := h.le
  have hlen := Lib.hid h.len
  obtain ⟨R, hR⟩ : ∃ R, R = Vi.getI l a := ⟨_, rfl⟩
  rw [← hR]
  by_cases hbad : a < 0 ∨ (n : Int) < a
  · have hR2 : R = (0, 0, 1) := by rw [hR]; unfold Vi.getI; rw [if_pos (by rw [hlen.out]; exact hbad)]
    subst hR2
    clear hR
    by_cases h0 : a < 0
    · have d0 : decide (a < 0) = true := decide_eq_true h0
      go_enter Tryz.func118, Tryz.ntmps118
      go_wp2_with fail
      go_ret3
      exact ⟨rfl, rfl⟩
    · have d0 : decide (a < 0) = false := decide_eq_false h0
      have d1 : decide ((n : Int) < a) = true := decide_eq_true (by omega)
      go_enter Tryz.func118, Tryz.ntmps118
      go_wp2_with fail
      go_ret3
      exact ⟨rfl, rfl⟩
  · have d0 : decide (a < 0) = false := decide_eq_false (by omega)
    have d1 : decide ((n : Int) < a) = false := decide_eq_false (by omega)
    obtain ⟨q, rfl⟩ := Int.eq_ofNat_of_zero_le (show 0 ≤ a by omega)
    have hqn : q ≤ n := by omega
    have hR2 : R = match Vi.dec 0 0 (l.drop q) with | .short => (0, 0, 10) | .form => (0, 0, 11) | .ok u k => (Vi.unzig u, (q : Int) + k, 0) := by
      rw [hR]; unfold Vi.getI; rw [if_neg (by rw [hlen.out]; exact hbad)]; rfl
    have hcut := h.cut hqn
    have HR := Lib.hid hR2
    clear hR hR2 hbad
    rcases Nat.decEq c q with hcq | hcq
    · rw [if_neg hcq] at hcut
      go_enter Tryz.func118, Tryz.ntmps118
      go_wp2_with fail
      generalize Option.map (fun x => Addr.add x q) A = A' at *
      generalize l.drop q = s at *
      obtain ⟨m, hmq⟩ : ∃ m, m = n - q := ⟨_, rfl⟩
      rw [← hmq] at hcut ⊢
      have hm2 : q + m ≤ 9223372036854775807 := by omega
      have hls := Lib.hid hcut.len
      clear hmq hcq
      go_loop [7, 22] (fun u i => ∃ k U : Nat, k ≤ m ∧ k ≤ 9 ∧ i = .int .i64 k ∧ u = .int .u64 (U : Int) ∧ U < 128 ^ k ∧ Vi.dec 0 0 s = Vi.dec k U (s.drop k)) (fun _ i => m - (intOf i).toNat)
      case atStart => exact ⟨0, 0, by omega, by omega, rfl, rfl, by simp, rfl⟩
      case round =>
        obtain ⟨k, U, hk, hk9, rfl, rfl, hU, hdec⟩ := hrel
        have HD := Lib.hid hdec
        have HU := Lib.hid hU
        clear hdec hU
        by_cases hkm : k < m
        · have d2 : decide ((k : Int) < (m : Int)) = true := by simp; omega
          have hkl : k < s.length := by rw [hls.out]; exact hkm
          obtain ⟨ad, rfl, hab, c1⟩ := hcut.at_ hkm hkl
          have HS : Hid (s.drop k = s[k] :: s.drop (k + 1)) := List.drop_eq_getElem_cons hkl
          generalize s[k] = b at *
          obtain ⟨B, hB⟩ : ∃ B : Nat, B = b.toNat := ⟨_, rfl⟩
          have hB255 : B < 256 := by rw [hB]; exact b.toNat_lt
          rw [← hB] at c1
          have HB := Lib.hid hB
          clear hB
          have HDC : Hid (Vi.dec 0 0 s = if (k = 9 ∧ 1 < B) ∨ (0 < k ∧ B = 0) then .form else if B < 128 then .ok (U + B * 128 ^ k) (k + 1) else Vi.dec (k + 1) (U + (B - 128) * 128 ^ k) (s.drop (k + 1))) := by
            show Vi.dec 0 0 s = _
            rw [HD.out, HS.out]
            simp only [Vi.dec, HB.out]
          clear HD HS
          by_cases e9 : k = 9 ∧ 1 < B
          · have hR3 : R = (0, 0, 11) := by rw [HR.out, HDC.out, if_pos (.inl e9)]
            subst hR3
            have f9 : ((k : Int) == 9) = true := by simp; omega
            have f1 : decide ((1 : Int) < (B : Int)) = true := by simp; omega
            clear e9 HDC HR
            go_wp2_with fail
            go_ret3
            exact ⟨rfl, rfl⟩
          · by_cases e0 : 0 < k ∧ B = 0
            · have hR3 : R = (0, 0, 11) := by rw [HR.out, HDC.out, if_pos (.inr e0)]
              subst hR3
              have f0 : decide ((0 : Int) < (k : Int)) = true := by simp; omega
              have f0' : decide (0 < k) = true := by simp; omega
              have f1 : ((B : Int) == 0) = true := by simp; omega
              have f2 : decide ((1 : Int) < (B : Int)) = false := by simp; omega
              clear HDC HR
              by_cases k9 : k = 9
              · have f9 : ((k : Int) == 9) = true := by simp; omega
                clear e0 e9 k9
                go_wp2_with fail
                go_ret3
                exact ⟨rfl, rfl⟩
              · have f9 : ((k : Int) == 9) = false := by simp; omega
                clear e0 e9
                go_wp2_with fail
                go_ret3
                exact ⟨rfl, rfl⟩
            · have HW := Lib.hid (or_step U B k HU.out hB255 hk9 (fun e => by omega))
              have hW64 := Lib.hid (step_lt64 U (B % 128) k HU.out hk9 (by omega) (fun e => by omega))
              have HX : Hid (Vi.dec 0 0 s = if B < 128 then .ok (U + B * 128 ^ k) (k + 1) else Vi.dec (k + 1) (U + (B - 128) * 128 ^ k) (s.drop (k + 1))) := by
                show Vi.dec 0 0 s = _
                rw [HDC.out, if_neg (by omega)]
              clear HDC
              by_cases hlast : B < 128
              · have hR3 : R = (Vi.unzig (U + B * 128 ^ k), (q : Int) + ((k + 1 : Nat) : Int), 0) := by rw [HR.out, HX.out, if_pos hlast]
                have HV : Hid (bits .xor .i64 (wrap64 (((U + (B % 128) * 128 ^ k : Nat) : Int) / 2)) (wrap64 (-wrap64 (bits .and .u64 ((U + (B % 128) * 128 ^ k : Nat) : Int) 1))) = Vi.unzig (U + B * 128 ^ k)) := by
                  have := get_val _ hW64.out
                  rw [Nat.mod_eq_of_lt hlast] at this ⊢
                  exact this
                clear HX hW64 HU
                subst hR3
                clear HR
                have f2 : decide ((B : Int) < 128) = true := by simp; omega
                rcases Nat.eq_zero_or_pos k with kz | kz
                · have f9 : ((k : Int) == 9) = false := by simp; omega
                  have f0 : decide ((0 : Int) < (k : Int)) = false := by simp; omega
                  have f0' : decide (0 < k) = false := by simp; omega
                  have KZ := Lib.hid kz
                  clear kz e9 e0
                  go_wp2_with fail
                  rw [HW.out, HV.out]
                  go_ret3
                  refine ⟨?_, rfl⟩
                  simp
                  omega
                · have f0 : decide ((0 : Int) < (k : Int)) = true := by simp; omega
                  have f0' : decide (0 < k) = true := by simp; omega
                  have f1 : ((B : Int) == 0) = false := by simp; omega
                  by_cases k9 : k = 9
                  · have f9 : ((k : Int) == 9) = true := by simp; omega
                    have b1 : decide ((1 : Int) < (B : Int)) = false := by simp; omega
                    have K9 := Lib.hid k9
                    clear k9 e9 e0
                    go_wp2_with fail
                    rw [HW.out, HV.out]
                    go_ret3
                    refine ⟨?_, rfl⟩
                    simp
                    omega
                  · have f9 : ((k : Int) == 9) = false := by simp; omega
                    clear e9 e0
                    go_wp2_with fail
                    rw [HW.out, HV.out]
                    go_ret3
                    refine ⟨?_, rfl⟩
                    simp
                    omega
              · have HP : Hid (U + (B % 128) * 128 ^ k < 128 ^ (k + 1)) := pow_step U (B % 128) k HU.out (by omega)
                have HX2 : Hid (Vi.dec 0 0 s = Vi.dec (k + 1) (U + (B % 128) * 128 ^ k) (s.drop (k + 1))) := by
                  show Vi.dec 0 0 s = _
                  rw [HX.out, if_neg hlast, show B % 128 = B - 128 by omega]
                have hk8 : k ≤ 8 := by omega
                clear HX hW64 HU
                have f2 : decide ((B : Int) < 128) = false := by simp; omega
                rcases Nat.eq_zero_or_pos k with kz | kz
                · have f9 : ((k : Int) == 9) = false := by simp; omega
                  have f0 : decide ((0 : Int) < (k : Int)) = false := by simp; omega
                  have f0' : decide (0 < k) = false := by simp; omega
                  have KZ := Lib.hid kz
                  clear kz e9 e0
                  go_wp2
                  rw [HW.out]
                  go_round
                  case rel => exact ⟨k + 1, _, by omega, by omega, by go_num, rfl, HP.out, HX2.out⟩
                  case measure => simp [intOf]; omega
                · have f0 : decide ((0 : Int) < (k : Int)) = true := by simp; omega
                  have f0' : decide (0 < k) = true := by simp; omega
                  have f1 : ((B : Int) == 0) = false := by simp; omega
                  by_cases k9 : k = 9
                  · have f9 : ((k : Int) == 9) = true := by simp; omega
                    have b1 : decide ((1 : Int) < (B : Int)) = false := by simp; omega
                    have K9 := Lib.hid k9
                    clear k9 e9 e0
                    go_wp2
                    rw [HW.out]
                    go_round
                    case rel => exact ⟨k + 1, _, by omega, by omega, by go_num, rfl, HP.out, HX2.out⟩
                    case measure => simp [intOf]; omega
                  · have f9 : ((k : Int) == 9) = false := by simp; omega
                    clear e9 e0
                    go_wp2
                    rw [HW.out]
                    go_round
                    case rel => exact ⟨k + 1, _, by omega, by omega, by go_num, rfl, HP.out, HX2.out⟩
                    case measure => simp [intOf]; omega

        · obtain rfl : k = m := by omega
          have d2 : decide ((k : Int) < (k : Int)) = false := by simp
          have hR3 : R = (0, 0, 10) := by rw [HR.out, HD.out, List.drop_of_length_le (by rw [hls.out]; omega)]; rfl
          subst hR3
          go_wp2_with fail
          go_ret3
          exact ⟨rfl, rfl⟩
    · subst hcq
      have hR3 : R = (0, 0, 10) := by rw [HR.out, List.drop_of_length_le (by rw [hlen.out]; omega)]; rfl
      subst hR3
      obtain rfl : n = c := by omega
      clear HR
      go_enter Tryz.func118, Tryz.ntmps118
      go_wp2_with fail
      refine wp_loop_rounds 1 ?_
      rw [rounds_succ]
      have d2 : decide ((0 : Int) < ((n - n : Nat) : Int)) = false := by simp
      go_wp2_with fail
      go_ret3
      exact ⟨rfl, rfl⟩
end Go.Proofs.YtfockoihmoljfaaGreatDoor

/-
  The reference's GetInt.
-/
namespace Go.Proofs.YtfockoihmoljfaaGreatDoor
open Go.RowKit
set_option linter.unusedVariables false
set_option linter.unusedSimpArgs false

set_option maxRecDepth 100000 in
set_option maxHeartbeats 1000000 in
theorem rgetInt_any (A : Option Addr) (n c : Nat) (l : List UInt8) (a : Int) (w : World) (h : RdB w w.heap.size A n c l) (ha : -9223372036854775808 ≤ a ∧ a ≤ 9223372036854775807) (hn : n ≤ 1099511627776) :
    Calls Tryz.prog 138 #[.slice A n c, .int .i64 a] w fun e w' => e = .returned (.tuple #[.int .i64 (Vi.getI l a).1, .int .i64 (Vi.getI l a).2.1, .int .i64 (Vi.getI l a).2.2]) ∧ w = w' := by
  have hm := h.max
  have hle := h.le
  have hlen := Lib.hid h.len
  obtain ⟨R, hR⟩ : ∃ R, R = Vi.getI l a := ⟨_, rfl⟩
  rw [← hR]
  by_cases hbad : a < 0 ∨ (n : Int) < a
  · have hR2 : R = (0, 0, 1) := by rw [hR]; unfold Vi.getI; rw [if_pos (by rw [hlen.out]; exact hbad)]
    subst hR2
    clear hR
    by_cases h0 : a < 0
    · have d0 : decide (a < 0) = true := decide_eq_true h0
      go_enter Tryz.func138, Tryz.ntmps138
      go_wp2_with fail
      go_ret3
      exact ⟨rfl, rfl⟩
    · have d0 : decide (a < 0) = false := decide_eq_false h0
      have d1 : decide ((n : Int) < a) = true := decide_eq_true (by omega)
      go_enter Tryz.func138, Tryz.ntmps138
      go_wp2_with fail
      go_ret3
      exact ⟨rfl, rfl⟩
  · have d0 : decide (a < 0) = false := decide_eq_false (by omega)
    have d1 : decide ((n : Int) < a) = false := decide_eq_false (by omega)
    obtain ⟨q, rfl⟩ := Int.eq_ofNat_of_zero_le (show 0 ≤ a by omega)
    have hqn : q ≤ n := by omega
    have hR2 : R = match Vi.dec 0 0 (l.drop q) with | .short => (0, 0, 10) | .form => (0, 0, 11) | .ok u k => (Vi.unzig u, (q : Int) + k, 0) := by
      rw [hR]; unfold Vi.getI; rw [if_neg (by rw [hlen.out]; exact hbad)]; rfl
    have HR := Lib.hid hR2
    clear hR hR2 hbad
    go_enter Tryz.func138, Tryz.ntmps138
    go_wp2_with fail
    go_loop [7, 8, 9] (fun u t i => ∃ k U T : Nat, q + k ≤ n ∧ k ≤ 9 ∧ i = .int .i64 k ∧ u = .int .u64 (U : Int) ∧ t = .int .u64 (T : Int) ∧ T = 128 ^ k ∧ U < T ∧ Vi.dec 0 0 (l.drop q) = Vi.dec k U (l.drop (q + k))) (fun _ _ i => n - (intOf i).toNat)
    case atStart => exact ⟨0, 0, 1, by omega, by omega, rfl, rfl, rfl, rfl, by omega, rfl⟩
    case round =>
      obtain ⟨k, U, T, hk, hk9, rfl, rfl, rfl, hT, hU, hdec⟩ := hrel
      have HD := Lib.hid hdec
      have HT := Lib.hid hT
      have HU := Lib.hid hU
      clear hdec hT hU
      have d11 : decide ((k : Int) < 11) = true := by simp; omega
      by_cases hkm : q + k < n
      · have d2 : ((q : Int) + (k : Int) == (n : Int)) = false := by simp; omega
        have hkl : q + k < l.length := by rw [hlen.out]; exact hkm
        obtain ⟨ad, rfl, hab, c1⟩ := h.at_ hkm hkl
        have HS : Hid (l.drop (q + k) = l[q + k] :: l.drop (q + (k + 1))) := List.drop_eq_getElem_cons hkl
        generalize l[q + k] = b at *
        obtain ⟨B, hB⟩ : ∃ B : Nat, B = b.toNat := ⟨_, rfl⟩
        have hB255 : B < 256 := by rw [hB]; exact b.toNat_lt
        rw [← hB] at c1
        have HB := Lib.hid hB
        clear hB
        have HDC : Hid (Vi.dec 0 0 (l.drop q) = if (k = 9 ∧ 1 < B) ∨ (0 < k ∧ B = 0) then .form else if B < 128 then .ok (U + B * 128 ^ k) (k + 1) else Vi.dec (k + 1) (U + (B - 128) * 128 ^ k) (l.drop (q + (k + 1)))) := by
          show Vi.dec 0 0 (l.drop q) = _
          rw [HD.out, HS.out]
          simp only [Vi.dec, HB.out]
        clear HD HS
        by_cases e9 : k = 9 ∧ 1 < B
        · have hR3 : R = (0, 0, 11) := by rw [HR.out, HDC.out, if_pos (.inl e9)]
          subst hR3
          have f9 : ((k : Int) == 9) = true := by simp; omega
          have f1 : decide ((1 : Int) < (B : Int)) = true := by simp; omega
          clear e9 HDC HR
          go_wp2_with fail
          go_ret3
          exact ⟨rfl, rfl⟩
        · by_cases e0 : 0 < k ∧ B = 0
          · have hR3 : R = (0, 0, 11) := by rw [HR.out, HDC.out, if_pos (.inr e0)]
            subst hR3
            have f0 : decide ((0 : Int) < (k : Int)) = true := by simp; omega
            have f0' : decide (0 < k) = true := by simp; omega
            have f1 : ((B : Int) == 0) = true := by simp; omega
            have f2 : decide ((1 : Int) < (B : Int)) = false := by simp; omega
            clear HDC HR
            by_cases k9 : k = 9
            · have f9 : ((k : Int) == 9) = true := by simp; omega
              clear e0 e9 k9
              go_wp2_with fail
              go_ret3
              exact ⟨rfl, rfl⟩
            · have f9 : ((k : Int) == 9) = false := by simp; omega
              clear e0 e9
              go_wp2_with fail
              go_ret3
              exact ⟨rfl, rfl⟩
          · have hUk : U < 128 ^ k := by rw [← HT.out]; exact HU.out
            have hX64 := step_lt64 U (B % 128) k hUk hk9 (by omega) (fun e => by omega)
            obtain ⟨X, hX⟩ : ∃ X, X = U + (B % 128) * 128 ^ k := ⟨_, rfl⟩
            rw [← hX] at hX64
            have hW : IntKind.u64.wrap ((U : Int) + IntKind.u64.wrap ((B : Int) % 128 * (T : Int))) = (X : Int) := by
              have hlt : (B % 128) * T < 18446744073709551616 := by rw [HT.out]; omega
              have e1 : ((B : Int) % 128 * (T : Int)) = (((B % 128) * T : Nat) : Int) := by push_cast; rfl
              rw [e1, wrapu64_in _ hlt]
              have e2 : (U : Int) + (((B % 128) * T : Nat) : Int) = ((X : Nat) : Int) := by rw [hX, HT.out]; push_cast; rfl
              rw [e2, wrapu64_in _ hX64]
            have HX : Hid (Vi.dec 0 0 (l.drop q) = if B < 128 then .ok (U + B * 128 ^ k) (k + 1) else Vi.dec (k + 1) (U + (B - 128) * 128 ^ k) (l.drop (q + (k + 1)))) := by
              show Vi.dec 0 0 (l.drop q) = _
              rw [HDC.out, if_neg (by omega)]
            clear HDC hUk
            by_cases hlast : B < 128
            · have hR3 : R = (Vi.unzig X, (q : Int) + ((k + 1 : Nat) : Int), 0) := by rw [HR.out, HX.out, if_pos hlast, hX, Nat.mod_eq_of_lt hlast]
              have f2 : decide ((B : Int) < 128) = true := by simp; omega
              have xb : (X : Int) ≤ 18446744073709551615 := by omega
              clear HX HU hX
              subst hR3
              clear HR
              rcases Nat.mod_two_eq_zero_or_one X with hm2 | hm2
              · have HV : Hid (Vi.unzig X = (X : Int) / 2) := by show Vi.unzig X = _; unfold Vi.unzig; rw [if_pos hm2]; omega
                have g1 : ((X : Int) % 2 == 1) = false := by simp; omega
                clear hm2
                rcases Nat.eq_zero_or_pos k with kz | kz
                · have f9 : ((k : Int) == 9) = false := by simp; omega
                  have f0 : decide ((0 : Int) < (k : Int)) = false := by simp; omega
                  have f0' : decide (0 < k) = false := by simp; omega
                  clear kz e9 e0
                  by_cases bz : B = 0
                  · have f1 : ((B : Int) == 0) = true := by simp; omega
                    clear bz
                    go_wp2_with fail
                    go_ret3
                    refine ⟨?_, rfl⟩
                    rw [HV.out]
                    simp
                    omega
                  · have f1 : ((B : Int) == 0) = false := by simp; omega
                    go_wp2_with fail
                    go_ret3
                    refine ⟨?_, rfl⟩
                    rw [HV.out]
                    simp
                    omega
                · have f0 : decide ((0 : Int) < (k : Int)) = true := by simp; omega
                  have f0' : decide (0 < k) = true := by simp; omega
                  have f1 : ((B : Int) == 0) = false := by simp; omega
                  by_cases k9 : k = 9
                  · have f9 : ((k : Int) == 9) = true := by simp; omega
                    have b1 : decide ((1 : Int) < (B : Int)) = false := by simp; omega
                    clear k9 e9 e0
                    go_wp2_with fail
                    go_ret3
                    refine ⟨?_, rfl⟩
                    rw [HV.out]
                    simp
                    omega
                  · have f9 : ((k : Int) == 9) = false := by simp; omega
                    clear e9 e0
                    go_wp2_with fail
                    go_ret3
                    refine ⟨?_, rfl⟩
                    rw [HV.out]
                    simp
                    omega
              · have HV : Hid (Vi.unzig X = -((X : Int) / 2) - 1) := by show Vi.unzig X = _; unfold Vi.unzig; rw [if_neg (by omega)]; omega
                have g1 : ((X : Int) % 2 == 1) = true := by simp; omega
                clear hm2
                rcases Nat.eq_zero_or_pos k with kz | kz
                · have f9 : ((k : Int) == 9) = false := by simp; omega
                  have f0 : decide ((0 : Int) < (k : Int)) = false := by simp; omega
                  have f0' : decide (0 < k) = false := by simp; omega
                  clear kz e9 e0
                  by_cases bz : B = 0
                  · have f1 : ((B : Int) == 0) = true := by simp; omega
                    clear bz
                    go_wp2_with fail
                    go_ret3
                    refine ⟨?_, rfl⟩
                    rw [HV.out]
                    simp
                    omega
                  · have f1 : ((B : Int) == 0) = false := by simp; omega
                    go_wp2_with fail
                    go_ret3
                    refine ⟨?_, rfl⟩
                    rw [HV.out]
                    simp
                    omega
                · have f0 : decide ((0 : Int) < (k : Int)) = true := by simp; omega
                  have f0' : decide (0 < k) = true := by simp; omega
                  have f1 : ((B : Int) == 0) = false := by simp; omega
                  by_cases k9 : k = 9
                  · have f9 : ((k : Int) == 9) = true := by simp; omega
                    have b1 : decide ((1 : Int) < (B : Int)) = false := by simp; omega
                    clear k9 e9 e0
                    go_wp2_with fail
                    go_ret3
                    refine ⟨?_, rfl⟩
                    rw [HV.out]
                    simp
                    omega
                  · have f9 : ((k : Int) == 9) = false := by simp; omega
                    clear e9 e0
                    go_wp2_with fail
                    go_ret3
                    refine ⟨?_, rfl⟩
                    rw [HV.out]
                    simp
                    omega
            · have f2 : decide ((B : Int) < 128) = false := by simp; omega
              have HP : Hid (X < T * 128) := by
                have := pow_step U (B % 128) k (by rw [← HT.out]; exact HU.out) (by omega)
                rw [← hX, Nat.pow_succ, ← HT.out] at this
                exact this
              have HX2 : Hid (Vi.dec 0 0 (l.drop q) = Vi.dec (k + 1) X (l.drop (q + (k + 1)))) := by
                show Vi.dec 0 0 (l.drop q) = _
                rw [HX.out, if_neg hlast, hX, show B % 128 = B - 128 by omega]
              have hk8 : k ≤ 8 := by omega
              have hT57 : T ≤ 72057594037927936 := by rw [HT.out]; exact Nat.le_trans (Nat.pow_le_pow_right (by decide) hk8) (by decide)
              have hwT : IntKind.u64.wrap ((T : Int) * 128) = ((T * 128 : Nat) : Int) := by
                have := wrapu64_in (T * 128) (by omega)
                rw [← this]; push_cast; rfl
              clear HX HU hX
              rcases Nat.eq_zero_or_pos k with kz | kz
              · have f9 : ((k : Int) == 9) = false := by simp; omega
                have f0 : decide ((0 : Int) < (k : Int)) = false := by simp; omega
                have f0' : decide (0 < k) = false := by simp; omega
                clear kz e9 e0
                by_cases bz : B = 0
                · have f1 : ((B : Int) == 0) = true := by simp; omega
                  clear bz
                  go_wp2
                  go_round
                  case rel => exact ⟨k + 1, X, T * 128, by omega, by omega, by go_num, rfl, by first | rfl | (push_cast; rfl), by rw [HT.out, Nat.pow_succ], HP.out, HX2.out⟩
                  case measure => simp [intOf]; omega
                · have f1 : ((B : Int) == 0) = false := by simp; omega
                  go_wp2
                  go_round
                  case rel => exact ⟨k + 1, X, T * 128, by omega, by omega, by go_num, rfl, by first | rfl | (push_cast; rfl), by rw [HT.out, Nat.pow_succ], HP.out, HX2.out⟩
                  case measure => simp [intOf]; omega
              · have f0 : decide ((0 : Int) < (k : Int)) = true := by simp; omega
                have f0' : decide (0 < k) = true := by simp; omega
                have f1 : ((B : Int) == 0) = false := by simp; omega
                by_cases k9 : k = 9
                · have f9 : ((k : Int) == 9) = true := by simp; omega
                  have b1 : decide ((1 : Int) < (B : Int)) = false := by simp; omega
                  clear k9 e9 e0
                  go_wp2
                  go_round
                  case rel => exact ⟨k + 1, X, T * 128, by omega, by omega, by go_num, rfl, by first | rfl | (push_cast; rfl), by rw [HT.out, Nat.pow_succ], HP.out, HX2.out⟩
                  case measure => simp [intOf]; omega
                · have f9 : ((k : Int) == 9) = false := by simp; omega
                  clear e9 e0
                  go_wp2
                  go_round
                  case rel => exact ⟨k + 1, X, T * 128, by omega, by omega, by go_num, rfl, by first | rfl | (push_cast; rfl), by rw [HT.out, Nat.pow_succ], HP.out, HX2.out⟩
                  case measure => simp [intOf]; omega

      · have d2 : ((q : Int) + (k : Int) == (n : Int)) = true := by simp; omega
        have hR3 : R = (0, 0, 10) := by rw [HR.out, HD.out, List.drop_of_length_le (by rw [hlen.out]; omega)]; rfl
        subst hR3
        go_wp2_with fail
        go_ret3
        exact ⟨rfl, rfl⟩
end Go.Proofs.YtfockoihmoljfaaGreatDoor

