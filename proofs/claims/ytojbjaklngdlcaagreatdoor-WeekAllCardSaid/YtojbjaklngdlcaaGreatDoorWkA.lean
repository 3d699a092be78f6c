/-
  All weeks of a school in lexicographic order: plain words, no program in sight.
-/
import Derived.Test.YtojbjaklngdlcaaGreatDoorWkP
namespace Go.Proofs.YtojbjaklngdlcaaGreatDoor.Wk
open Sc
set_option linter.unusedVariables false

/-- The number of a place. -/
def dig (R : Nat) (p : Pl) : Nat := p.1.toNat * R + p.2.toNat
/-- The place of a number. -/
def pla (R d : Nat) : Pl := (((d / R : Nat) : Int), ((d % R : Nat) : Int))
theorem dig_pla {R : Nat} (d : Nat) : dig R (pla R d) = d := by
  unfold dig pla
  simp only [Int.toNat_natCast]
  rw [Nat.mul_comm]
  exact Nat.div_add_mod d R
theorem pla_dig {S R : Nat} {p : Pl} (h : placed S R p) : pla R (dig R p) = p := by
  obtain ⟨⟨a0, a1⟩, b0, b1⟩ := h
  obtain ⟨x, y⟩ := p
  dsimp only at *
  obtain ⟨x, rfl⟩ : ∃ k : Nat, x = k := ⟨x.toNat, by omega⟩
  obtain ⟨y, rfl⟩ : ∃ k : Nat, y = k := ⟨y.toNat, by omega⟩
  unfold pla dig
  simp only [Int.toNat_natCast]
  have hy : y < R := by omega
  rw [Nat.mul_comm, Nat.mul_add_div (by omega), Nat.div_eq_of_lt hy, Nat.mul_add_mod, Nat.mod_eq_of_lt hy]
  simp
theorem dig_lt {S R : Nat} {p : Pl} (h : placed S R p) : dig R p < S * R := by
  obtain ⟨⟨a0, a1⟩, b0, b1⟩ := h
  exact mul_lt (by omega) (by omega)
theorem pla_placed {S R d : Nat} (h : d < S * R) : placed S R (pla R d) := by
  have hR : 0 < R := by
    rcases Nat.eq_zero_or_pos R with h0 | h0
    · subst h0; simp at h
    · exact h0
  refine ⟨⟨Int.natCast_nonneg _, ?_⟩, Int.natCast_nonneg _, ?_⟩
  · have : d / R < S := Nat.div_lt_of_lt_mul (by rw [Nat.mul_comm]; exact h)
    simp only [pla]; omega
  · have := Nat.mod_lt d hR
    simp only [pla]; omega
/-- The number of a week. -/
def val (S R : Nat) : List Pl → Nat
  | [] => 0
  | p :: t => dig R p * (S * R) ^ t.length + val S R t
/-- The i-th week of n lessons. -/
def dec (S R : Nat) : Nat → Nat → List Pl
  | 0, _ => []
  | n + 1, i => pla R (i / (S * R) ^ n) :: dec S R n (i % (S * R) ^ n)
theorem dec_length (S R : Nat) : ∀ n i, (dec S R n i).length = n
  | 0, _ => rfl
  | n + 1, i => by rw [dec, List.length_cons, dec_length]
theorem dec_placed {S R : Nat} : ∀ n i, i < (S * R) ^ n → ∀ p ∈ dec S R n i, placed S R p
  | 0, _, _, p, hp => by simp [dec] at hp
  | n + 1, i, h, p, hp => by
    have h0 : 0 < (S * R) ^ n := by
      rcases Nat.eq_zero_or_pos ((S * R) ^ n) with h0 | h0
      · rw [Nat.pow_succ, h0] at h; simp at h
      · exact h0
    rw [dec] at hp
    rcases List.mem_cons.1 hp with rfl | hp
    · exact pla_placed (Nat.div_lt_of_lt_mul (by rw [← Nat.pow_succ]; exact h))
    · exact dec_placed n _ (Nat.mod_lt _ h0) p hp
theorem val_lt {S R : Nat} : ∀ l : List Pl, (∀ p ∈ l, placed S R p) → val S R l < (S * R) ^ l.length
  | [], _ => by simp [val]
  | p :: t, h => by
    have h1 := val_lt t fun q hq => h q (by simp [hq])
    have h2 := mul_lt (dig_lt (h p (by simp))) h1
    rw [List.length_cons, Nat.pow_succ, Nat.mul_comm _ (S * R)]
    exact h2
theorem dec_val {S R : Nat} : ∀ l : List Pl, (∀ p ∈ l, placed S R p) → dec S R l.length (val S R l) = l
  | [], _ => rfl
  | p :: t, h => by
    have h1 := val_lt t fun q hq => h q (by simp [hq])
    have h0 : 0 < (S * R) ^ t.length := Nat.lt_of_le_of_lt (Nat.zero_le _) h1
    rw [List.length_cons, dec, val, Nat.mul_comm, Nat.mul_add_div h0, Nat.div_eq_of_lt h1, Nat.mul_add_mod, Nat.mod_eq_of_lt h1, Nat.add_zero, pla_dig (h p (by simp)), dec_val t fun q hq => h q (by simp [hq])]
theorem val_dec {S R : Nat} : ∀ n i, i < (S * R) ^ n → val S R (dec S R n i) = i
  | 0, i, h => by simp at h; simp [dec, val, h]
  | n + 1, i, h => by
    have h0 : 0 < (S * R) ^ n := by
      rcases Nat.eq_zero_or_pos ((S * R) ^ n) with h0 | h0
      · rw [Nat.pow_succ, h0] at h; simp at h
      · exact h0
    rw [dec, val, dig_pla, dec_length, val_dec n _ (Nat.mod_lt _ h0), Nat.mul_comm]
    exact Nat.div_add_mod i _
theorem val_append (S R : Nat) : ∀ l m : List Pl, val S R (l ++ m) = val S R l * (S * R) ^ m.length + val S R m
  | [], m => by simp [val]
  | p :: t, m => by
    rw [List.cons_append, val, val, val_append S R t m, List.length_append, Nat.pow_add, Nat.add_mul, Nat.mul_assoc, Nat.add_assoc]
theorem val_zeros (S R : Nat) : ∀ n, val S R (List.replicate n (0, 0)) = 0
  | 0 => rfl
  | n + 1 => by rw [List.replicate_succ, val, val_zeros S R n]; simp [dig]
theorem val_maxes {S R : Nat} (h : 0 < S * R) {q : Pl} (hq : dig R q + 1 = S * R) : ∀ n, val S R (List.replicate n q) + 1 = (S * R) ^ n
  | 0 => rfl
  | n + 1 => by
    have := val_maxes h hq n
    rw [List.replicate_succ, val, List.length_replicate, Nat.pow_succ, Nat.mul_comm _ (S * R), ← hq, Nat.add_mul, Nat.one_mul, hq]
    omega
/-- The week behind: the last n places are the greatest. -/
theorem val_next {S R : Nat} (h : 0 < S * R) {l : List Pl} {p p' q : Pl} (n : Nat) (hq : dig R q + 1 = S * R) (hp : dig R p' = dig R p + 1) :
    val S R (l ++ p' :: List.replicate n (0, 0)) = val S R (l ++ p :: List.replicate n q) + 1 := by
  have := val_maxes h hq n
  rw [val_append, val_append, val, val, val_zeros, hp, List.length_cons, List.length_cons, List.length_replicate, List.length_replicate, Nat.add_mul, Nat.one_mul]
  omega
theorem val_first (S R n : Nat) : dec S R n 0 = List.replicate n (0, 0) := by
  induction n with
  | zero => rfl
  | succ n ih => rw [dec, Nat.zero_div, Nat.zero_mod, ih, List.replicate_succ]; simp [pla]
theorem val_last {S R : Nat} (h : 0 < S * R) {q : Pl} (hq : dig R q + 1 = S * R) (n : Nat) : val S R (List.replicate n q) + 1 = (S * R) ^ n := val_maxes h hq n
/-- The next week, as the loop finds it: the place k turns, all behind it were the greatest. -/
theorem dec_next {S R L i : Nat} (hi : i < (S * R) ^ L) {l : List Pl} {x x' q : Pl} {n : Nat} (hn : l.length + 1 + n = L) (hp : dec S R L i = l ++ x :: List.replicate n q) (hq : dig R q + 1 = S * R) (hx : dig R x' = dig R x + 1) (hpl : placed S R x') :
    i + 1 < (S * R) ^ L ∧ l ++ x' :: List.replicate n (0, 0) = dec S R L (i + 1) := by
  have h0 : 0 < S * R := by omega
  have hv := val_dec (S := S) (R := R) L i hi
  rw [hp] at hv
  have hnx := val_next (S := S) (R := R) h0 (l := l) n hq hx
  rw [hv] at hnx
  have hz : placed S R (0, 0) := by
    have := pla_placed (S := S) (R := R) h0
    simpa [pla] using this
  have hall : ∀ p ∈ l ++ x' :: List.replicate n (0, 0), placed S R p := by
    intro p hp'
    rcases List.mem_append.1 hp' with h | h
    · exact dec_placed (S := S) (R := R) L i hi p (by rw [hp]; simp [h])
    · rcases List.mem_cons.1 h with rfl | h
      · exact hpl
      · rw [(List.mem_replicate.1 h).2]; exact hz
  have hlen : (l ++ x' :: List.replicate n (0, 0)).length = L := by simp; omega
  have h1 := val_lt _ hall
  have h2 := dec_val _ hall
  rw [hnx, hlen] at h1 h2
  exact ⟨h1, h2.symm⟩
theorem dec_end {S R L i : Nat} (hi : i < (S * R) ^ L) {q : Pl} (hp : dec S R L i = List.replicate L q) (hq : dig R q + 1 = S * R) : i + 1 = (S * R) ^ L := by
  have hv := val_dec (S := S) (R := R) L i hi
  rw [hp] at hv
  have := val_last (S := S) (R := R) (by omega) hq L
  omega
theorem dig_last {S R : Nat} (hS : 0 < S) (hR : 0 < R) : dig R (((S - 1 : Nat) : Int), ((R - 1 : Nat) : Int)) + 1 = S * R := by
  unfold dig
  simp only [Int.toNat_natCast]
  obtain ⟨S, rfl⟩ : ∃ k, S = k + 1 := ⟨S - 1, by omega⟩
  obtain ⟨R, rfl⟩ : ∃ k, R = k + 1 := ⟨R - 1, by omega⟩
  simp only [Nat.add_sub_cancel]
  rw [Nat.succ_mul]
  omega
end Go.Proofs.YtojbjaklngdlcaaGreatDoor.Wk
