/-
  What the bit operations of octet come to.
-/
import Derived.Test.YtojbjaklngdlcaaGreatDoorVarint
import Derived.Laws.BitsAllLaws
import Derived.Laws.Bits64
namespace Go.Proofs.YtojbjaklngdlcaaGreatDoor
open Go.RowKit

theorem and127 (B : Nat) (h : B < 256) : bits .and .u8 (B : Int) 127 = ((B % 128 : Nat) : Int) := by
  have := u8_and_nat B 127 h (by decide)
  rw [nat_mask7] at this
  exact this
theorem wrapu64_in (n : Nat) (h : n < 18446744073709551616) : IntKind.u64.wrap (n : Int) = (n : Int) := by
  rw [IntKind.wrap_u64]
  omega
theorem pow_step (U B k : Nat) (hU : U < 128 ^ k) (hB : B < 128) : U + B * 128 ^ k < 128 ^ (k + 1) := by
  have : (B + 1) * 128 ^ k ≤ 128 * 128 ^ k := Nat.mul_le_mul_right _ (by omega)
  rw [Nat.pow_succ, Nat.mul_comm (128 ^ k) 128]
  rw [Nat.add_mul] at this
  omega
theorem pow_le64 {k : Nat} (hk : k ≤ 9) : 128 ^ k ≤ 9223372036854775808 := by
  have : 128 ^ k ≤ 128 ^ 9 := Nat.pow_le_pow_right (by decide) hk
  exact Nat.le_trans this (by decide)
theorem step_lt64 (U B k : Nat) (hU : U < 128 ^ k) (hk : k ≤ 9) (hB : B < 128) (h9 : k = 9 → B ≤ 1) : U + B * 128 ^ k < 18446744073709551616 := by
  by_cases e : k = 9
  · subst e
    have := h9 rfl
    have e9 : (128 : Nat) ^ 9 = 9223372036854775808 := by decide
    rw [e9] at hU ⊢
    have : B * 9223372036854775808 ≤ 1 * 9223372036854775808 := Nat.mul_le_mul_right _ this
    omega
  · have h1 := pow_step U B k hU hB
    have h2 := pow_le64 (k := k + 1) (by omega)
    omega
theorem or_step (U B k : Nat) (hU : U < 128 ^ k) (hB : B < 256) (hk : k ≤ 9) (h9 : k = 9 → B ≤ 1) :
    bits .or .u64 (U : Int) (IntKind.u64.wrap (IntKind.u64.wrap (bits .and .u8 (B : Int) 127) * 2 ^ (7 * k))) = ((U + (B % 128) * 128 ^ k : Nat) : Int) := by
  have hlt := step_lt64 U (B % 128) k hU hk (Nat.mod_lt _ (by decide)) (fun e => by have := h9 e; omega)
  have e7 : (2 : Nat) ^ (7 * k) = 128 ^ k := by rw [Nat.pow_mul]
  have e1 : IntKind.u64.wrap (bits .and .u8 (B : Int) 127) = ((B % 128 : Nat) : Int) := by rw [and127 B hB]; exact wrapu64_in _ (by omega)
  have e2 : ((B % 128 : Nat) : Int) * 2 ^ (7 * k) = ((B % 128 * 128 ^ k : Nat) : Int) := by rw [← e7]; push_cast; rfl
  rw [e1, e2, wrapu64_in _ (by omega), u64_or_nat U _ (by omega) (by omega), Nat.or_comm, nat_join (7 * k) _ _ (by rw [e7]; exact Nat.mul_mod_left _ _) (by rw [e7]; exact hU), Nat.add_comm]
theorem xor_i64_zero (x : Int) (h : -9223372036854775808 ≤ x ∧ x ≤ 9223372036854775807) : bits .xor .i64 x 0 = x := by
  show IntKind.i64.wrap (((BitVec.ofInt 64 x ^^^ BitVec.ofInt 64 0).toNat : Nat) : Int) = x
  have : BitVec.ofInt 64 0 = 0#64 := rfl
  rw [this, BitVec.xor_zero, BitVec.toNat_ofInt, IntKind.wrap_i64]
  omega
theorem xor_i64_ones (x : Int) (h : -9223372036854775808 ≤ x ∧ x ≤ 9223372036854775807) : bits .xor .i64 x (-1) = -x - 1 := by
  show IntKind.i64.wrap (((BitVec.ofInt 64 x ^^^ BitVec.ofInt 64 (-1)).toNat : Nat) : Int) = -x - 1
  have : BitVec.ofInt 64 (-1) = BitVec.allOnes 64 := by decide
  rw [this, BitVec.xor_allOnes, BitVec.toNat_not, BitVec.toNat_ofInt, IntKind.wrap_i64]
  omega
theorem get_val (W : Nat) (h : W < 18446744073709551616) : bits .xor .i64 (wrap64 ((W : Int) / 2)) (wrap64 (-wrap64 (bits .and .u64 (W : Int) 1))) = Vi.unzig W := by
  have e1 : bits .and .u64 (W : Int) 1 = ((W % 2 : Nat) : Int) := by
    have := u64_and_nat W 1 h (by decide)
    rw [nat_mask1] at this
    exact this
  have e2 : wrap64 ((W : Int) / 2) = ((W / 2 : Nat) : Int) := by rw [IntWalk.wrap64_in ((W : Int) / 2) ⟨by omega, by omega⟩]; omega
  have e3 : wrap64 ((W % 2 : Nat) : Int) = ((W % 2 : Nat) : Int) := IntWalk.wrap64_in ((W % 2 : Nat) : Int) ⟨by omega, by omega⟩
  rw [e1, e2, e3]
  unfold Vi.unzig
  rcases Nat.mod_two_eq_zero_or_one W with hm | hm
  · rw [hm, if_pos rfl]
    have : wrap64 (-((0 : Nat) : Int)) = 0 := by rw [IntWalk.wrap64_in (-((0 : Nat) : Int)) ⟨by omega, by omega⟩]; rfl
    rw [this]
    exact xor_i64_zero ((W / 2 : Nat) : Int) ⟨by omega, by omega⟩
  · rw [hm, if_neg (by decide)]
    have : wrap64 (-((1 : Nat) : Int)) = -1 := IntWalk.wrap64_in (-((1 : Nat) : Int)) ⟨by omega, by omega⟩
    rw [this]
    exact xor_i64_ones ((W / 2 : Nat) : Int) ⟨by omega, by omega⟩
theorem xor_u64_ones (a : Nat) (h : a < 18446744073709551616) : bits .xor .u64 (a : Int) 18446744073709551615 = ((18446744073709551615 - a : Nat) : Int) := by
  show IntKind.u64.wrap (((BitVec.ofInt 64 (a : Int) ^^^ BitVec.ofInt 64 18446744073709551615).toNat : Nat) : Int) = _
  have : BitVec.ofInt 64 18446744073709551615 = BitVec.allOnes 64 := by decide
  rw [this, BitVec.xor_allOnes, BitVec.toNat_not, BitVec.toNat_ofInt, IntKind.wrap_u64]
  omega
theorem xor_u64_zero (a : Nat) (h : a < 18446744073709551616) : bits .xor .u64 (a : Int) 0 = (a : Int) := by
  have := u64_xor_nat a 0 h (by decide)
  rw [Nat.xor_zero] at this
  exact this
theorem zig_bits (n : Int) (h : -9223372036854775808 ≤ n ∧ n ≤ 9223372036854775807) :
    bits .xor .u64 (IntKind.u64.wrap (IntKind.u64.wrap n * 2)) (IntKind.u64.wrap (n / 9223372036854775808)) = (Vi.zig n : Int) := by
  rw [IntKind.wrap_u64, IntKind.wrap_u64, IntKind.wrap_u64]
  by_cases h0 : 0 ≤ n
  · have e1 : n / 9223372036854775808 % 18446744073709551616 = 0 := by omega
    have e2 : n % 18446744073709551616 * 2 % 18446744073709551616 = (((2 * n).toNat : Nat) : Int) := by omega
    rw [e1, e2, xor_u64_zero _ (by omega)]
    unfold Vi.zig
    rw [if_pos h0]
  · have e1 : n / 9223372036854775808 % 18446744073709551616 = 18446744073709551615 := by omega
    have e2 : n % 18446744073709551616 * 2 % 18446744073709551616 = (((2 * n + 18446744073709551616).toNat : Nat) : Int) := by omega
    rw [e1, e2, xor_u64_ones _ (by omega)]
    unfold Vi.zig
    rw [if_neg h0]
    omega
end Go.Proofs.YtojbjaklngdlcaaGreatDoor
