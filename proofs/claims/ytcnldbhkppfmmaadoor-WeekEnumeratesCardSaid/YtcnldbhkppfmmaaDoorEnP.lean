/-
  The order of weeks, and what All lists: plain laws, no program in sight.
-/
import Derived.Test.YtcnldbhkppfmmaaDoorTwoP
import Derived.Test.YtcnldbhkppfmmaaDoorFew4
namespace Go.Proofs.YtcnldbhkppfmmaaDoor
open Sc
set_option linter.unusedVariables false
namespace Wk
/-- What ahead answers from place k on. -/
def lexB : List Pl → List Pl → Bool
  | [], _ => false
  | _ :: _, [] => false
  | p :: l, q :: r => if p.1 ≠ q.1 then decide (p.1 < q.1) else if p.2 ≠ q.2 then decide (p.2 < q.2) else lexB l r
theorem lexB_nil (r : List Pl) : lexB [] r = false := rfl
theorem lexB_nil' (l : List Pl) : lexB l [] = false := by cases l <;> rfl
theorem dig_lt_iff {S R : Nat} {p q : Pl} (hp : placed S R p) (hq : placed S R q) (h : dig R p < dig R q) : (p.1 ≠ q.1 ∧ p.1 < q.1) ∨ (p.1 = q.1 ∧ p.2 ≠ q.2 ∧ p.2 < q.2) := by
  obtain ⟨⟨a0, a1⟩, b0, b1⟩ := hp
  obtain ⟨⟨c0, c1⟩, d0, d1⟩ := hq
  obtain ⟨x, y⟩ := p
  obtain ⟨z, t⟩ := q
  dsimp only at *
  obtain ⟨x, rfl⟩ : ∃ k : Nat, x = k := ⟨x.toNat, by omega⟩
  obtain ⟨y, rfl⟩ : ∃ k : Nat, y = k := ⟨y.toNat, by omega⟩
  obtain ⟨z, rfl⟩ : ∃ k : Nat, z = k := ⟨z.toNat, by omega⟩
  obtain ⟨t, rfl⟩ : ∃ k : Nat, t = k := ⟨t.toNat, by omega⟩
  unfold dig at h
  simp only [Int.toNat_natCast] at h
  by_cases hxz : x = z
  · subst hxz
    exact .inr ⟨rfl, by omega, by omega⟩
  · refine .inl ⟨by omega, ?_⟩
    rcases Nat.lt_or_ge x z with hlt | hge
    · omega
    · have : (z + 1) * R ≤ x * R := Nat.mul_le_mul_right R (by omega)
      rw [Nat.succ_mul] at this
      omega
theorem lexB_val {S R : Nat} : ∀ (l r : List Pl), l.length = r.length → (∀ p ∈ l, placed S R p) → (∀ p ∈ r, placed S R p) → val S R l < val S R r → lexB l r = true
  | [], [], _, _, _, h => by simp [val] at h
  | [], _ :: _, h, _, _, _ => by simp at h
  | _ :: _, [], h, _, _, _ => by simp at h
  | p :: l, q :: r, hl, hp, hq, h => by
    have hlr : l.length = r.length := by simpa using hl
    have h1 := val_lt l fun x hx => hp x (by simp [hx])
    have h2 := val_lt r fun x hx => hq x (by simp [hx])
    rw [val, val, hlr] at h
    rw [hlr] at h1
    have hpp := hp p (by simp)
    have hqq := hq q (by simp)
    unfold lexB
    rcases Nat.lt_trichotomy (dig R p) (dig R q) with hlt | heq | hgt
    · rcases dig_lt_iff hpp hqq hlt with ⟨e1, e2⟩ | ⟨e1, e2, e3⟩
      · rw [if_pos e1]; simp; exact e2
      · rw [if_neg (by simp [e1]), if_pos e2]; simp; exact e3
    · have e : p = q := by rw [← pla_dig hpp, ← pla_dig hqq, heq]
      subst e
      rw [if_neg (by simp), if_neg (by simp)]
      exact lexB_val l r hlr (fun x hx => hp x (by simp [hx])) (fun x hx => hq x (by simp [hx])) (by omega)
    · have := Nat.mul_le_mul_right ((S * R) ^ r.length) (show dig R q + 1 ≤ dig R p by omega)
      rw [Nat.succ_mul] at this
      omega
theorem lex_next {S R L i : Nat} (h : i + 1 < (S * R) ^ L) : lexB (dec S R L i) (dec S R L (i + 1)) = true := by
  refine lexB_val _ _ (by rw [dec_length, dec_length]) (dec_placed L i (by omega)) (dec_placed L (i + 1) h) ?_
  rw [val_dec L i (by omega), val_dec L (i + 1) h]
  omega
/-- A week is listed just if it is valid. -/
theorem listed_iff {s : Sch} (h0 : chk s = 0) (u : List Pl) : (∃ i, i < (s.slots.length * s.rooms.length) ^ s.lessons.length ∧ dec s.slots.length s.rooms.length s.lessons.length i = u) ↔ wchk s u = 0 := by
  constructor
  · rintro ⟨i, hi, rfl⟩
    exact wchk_ok h0 ⟨dec_length _ _ _ _, dec_placed _ i hi⟩
  · intro h
    obtain ⟨_, hl, hp⟩ := wchk_zero h
    have h1 := val_lt u hp
    have h2 := dec_val u hp
    rw [hl] at h1 h2
    exact ⟨_, h1, h2⟩
theorem plc_eq {S R : Nat} (h1 : 0 < S) (h2 : 0 < R) (h3 : S ≤ 50) (h4 : R ≤ 50) : plc S R = S * R := by
  unfold plc
  rw [Nat.min_eq_right h3, Nat.min_eq_right h4]
  have := Nat.mul_pos h1 h2
  omega
theorem allR_many {s : Sch} (h0 : chk s = 0) (h : (s.slots.length * s.rooms.length) ^ s.lessons.length ≤ 300) : allR s 300 = ((List.range ((s.slots.length * s.rooms.length) ^ s.lessons.length)).map (dec s.slots.length s.rooms.length s.lessons.length), 0) := by
  unfold allR
  rw [if_neg (fun hh => hh h0), if_neg (by omega), if_neg (by omega)]
end Wk
end Go.Proofs.YtcnldbhkppfmmaaDoor
