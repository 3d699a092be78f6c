/-
  Varints: plain laws, no program in sight.
-/
import Derived.Test.YtojbjaklngdlcaaGreatDoorLotA
namespace Go.Proofs.YtojbjaklngdlcaaGreatDoor.Vi

/-- The bytes of u, seven bits each, the lowest first. -/
def enc (u : Nat) : List UInt8 := if h : u < 128 then [UInt8.ofNat u] else UInt8.ofNat (u % 128 + 128) :: enc (u / 128)
termination_by u
decreasing_by omega
theorem enc_lt {u : Nat} (h : u < 128) : enc u = [UInt8.ofNat u] := by rw [enc, dif_pos h]
theorem enc_ge {u : Nat} (h : ¬ u < 128) : enc u = UInt8.ofNat (u % 128 + 128) :: enc (u / 128) := by rw [enc, dif_neg h]
/-- An integer as a number from 0 on. -/
def zig (n : Int) : Nat := if 0 ≤ n then (2 * n).toNat else (-2 * n - 1).toNat
def unzig (u : Nat) : Int := if u % 2 = 0 then (u / 2 : Nat) else -((u / 2 : Nat) : Int) - 1
theorem unzig_zig (n : Int) : unzig (zig n) = n := by
  unfold unzig zig
  split <;> split <;> omega
theorem zig_lt {n : Int} (h : -9223372036854775808 ≤ n ∧ n ≤ 9223372036854775807) : zig n < 18446744073709551616 := by
  unfold zig
  split <;> omega
theorem zig_unzig (u : Nat) : zig (unzig u) = u := by
  unfold unzig zig
  split <;> split <;> omega
theorem unzig_ok {u : Nat} (h : u < 18446744073709551616) : -9223372036854775808 ≤ unzig u ∧ unzig u ≤ 9223372036854775807 := by
  unfold unzig
  split <;> omega
def putI (n : Int) : List UInt8 := enc (zig n)

theorem enc_pos (u : Nat) : 0 < (enc u).length := by
  by_cases h : u < 128
  · rw [enc_lt h]; simp
  · rw [enc_ge h]; simp
theorem enc_len (k : Nat) : ∀ {u : Nat}, u < 128 ^ (k + 1) → (enc u).length ≤ k + 1 := by
  induction k with
  | zero => intro u h; rw [enc_lt (by simpa using h)]; simp
  | succ k ih =>
    intro u h
    by_cases h1 : u < 128
    · rw [enc_lt h1]; simp
    · rw [enc_ge h1]
      have : u / 128 < 128 ^ (k + 1) := by rw [Nat.div_lt_iff_lt_mul (by omega), ← Nat.pow_succ]; exact h
      have := ih this
      simp
      omega
theorem enc_len10 {u : Nat} (h : u < 18446744073709551616) : (enc u).length ≤ 10 := enc_len 9 (Nat.lt_of_lt_of_le h (by decide))

/-- What reading a varint answers: the number and how many bytes it took. -/
inductive Dec where
  | short
  | form
  | ok (u k : Nat)
deriving DecidableEq
/-- From the i-th byte on, u gathered so far. -/
def dec : Nat → Nat → List UInt8 → Dec
  | _, _, [] => .short
  | i, u, c :: r => if (i = 9 ∧ 1 < c.toNat) ∨ (0 < i ∧ c.toNat = 0) then .form else if c.toNat < 128 then .ok (u + c.toNat * 128 ^ i) (i + 1) else dec (i + 1) (u + (c.toNat - 128) * 128 ^ i) r
/-- What GetInt answers: the number, the offset behind it, the error. -/
def getI (l : List UInt8) (at_ : Int) : Int × Int × Int :=
  if at_ < 0 ∨ (l.length : Int) < at_ then (0, 0, 1)
  else match dec 0 0 (l.drop at_.toNat) with
    | .short => (0, 0, 10)
    | .form => (0, 0, 11)
    | .ok u k => (unzig u, at_ + k, 0)
end Go.Proofs.YtojbjaklngdlcaaGreatDoor.Vi
