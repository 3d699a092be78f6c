/-
  Varints: what was put is got back; what was got is what would be put; a part of an encoding is short. Plain laws, no program in sight.
-/
import Derived.Test.YtojbjaklngdlcaaGreatDoorBits
namespace Go.Proofs.YtojbjaklngdlcaaGreatDoor
/-- A length prefix. -/
def Vi.cnt (l : List UInt8) (a most : Int) : Int × Int × Int :=
  if (Vi.getI l a).2.2 ≠ 0 then (0, 0, (Vi.getI l a).2.2)
  else if (Vi.getI l a).1 < 0 then (0, 0, 11)
  else if most < (Vi.getI l a).1 then (0, 0, 2)
  else ((Vi.getI l a).1, (Vi.getI l a).2.1, 0)
theorem dec_bound : ∀ (s : List UInt8) (i U : Nat), ∀ u k, Vi.dec i U s = .ok u k → i < k ∧ k ≤ i + s.length := by
  intro s
  induction s with
  | nil => intro i U u k h; simp [Vi.dec] at h
  | cons c r ih =>
    intro i U u k h
    simp only [Vi.dec] at h
    split at h
    · cases h
    · split at h
      · cases h; simp
      · have := ih _ _ _ _ h
        simp
        omega
theorem dec_lt : ∀ (s : List UInt8) (i U : Nat), i ≤ 9 → U < 128 ^ i → ∀ u k, Vi.dec i U s = .ok u k → u < 18446744073709551616 ∧ k ≤ 10 := by
  intro s
  induction s with
  | nil => intro i U _ _ u k h; simp [Vi.dec] at h
  | cons c r ih =>
    intro i U hi hU u k h
    simp only [Vi.dec] at h
    split at h
    · cases h
    · rename_i hb
      have hc := c.toNat_lt
      split at h
      · rename_i hl
        cases h
        exact ⟨step_lt64 U c.toNat i hU hi hl (fun e => by omega), by omega⟩
      · rename_i hl
        refine ih (i + 1) _ (by omega) ?_ u k h
        exact pow_step U (c.toNat - 128) i hU (by omega)
/-- A number that was read: in range, behind the offset, inside the bytes. -/
theorem getI_ok {l : List UInt8} {a : Int} (h : (Vi.getI l a).2.2 = 0) : 0 ≤ a ∧ a < (Vi.getI l a).2.1 ∧ (Vi.getI l a).2.1 ≤ l.length ∧ (Vi.getI l a).2.1 ≤ a + 10 ∧ -9223372036854775808 ≤ (Vi.getI l a).1 ∧ (Vi.getI l a).1 ≤ 9223372036854775807 := by
  unfold Vi.getI at *
  split at h
  · simp at h
  · rename_i hb
    rw [if_neg hb]
    cases hd : Vi.dec 0 0 (l.drop a.toNat) with
    | short => rw [hd] at h; simp at h
    | form => rw [hd] at h; simp at h
    | ok u k =>
      have h1 := dec_bound _ _ _ _ _ hd
      have h2 := dec_lt _ 0 0 (by omega) (by simp) _ _ hd
      rw [List.length_drop] at h1
      have h3 := Vi.unzig_ok h2.1
      dsimp only
      omega
theorem cnt_ok {l : List UInt8} {a most : Int} (h : (Vi.cnt l a most).2.2 = 0) : 0 ≤ a ∧ a < (Vi.cnt l a most).2.1 ∧ (Vi.cnt l a most).2.1 ≤ l.length ∧ 0 ≤ (Vi.cnt l a most).1 ∧ (Vi.cnt l a most).1 ≤ most ∧ (Vi.cnt l a most).1 ≤ 9223372036854775807 := by
  unfold Vi.cnt at *
  split at h
  · rename_i h'; exact absurd h h'
  · rename_i h'
    have hb := getI_ok (l := l) (a := a) (by simpa using h')
    split at h
    · simp at h
    · split at h
      · simp at h
      · rename_i h1 h2
        rw [if_neg h', if_neg h1, if_neg h2]
        dsimp only
        omega
theorem getI_e (l : List UInt8) (a : Int) : (Vi.getI l a).2.2 = 0 ∨ (Vi.getI l a = (0, 0, (Vi.getI l a).2.2) ∧ ((Vi.getI l a).2.2 = 1 ∨ (Vi.getI l a).2.2 = 10 ∨ (Vi.getI l a).2.2 = 11)) := by
  unfold Vi.getI
  split
  · exact .inr ⟨rfl, .inl rfl⟩
  · split
    · exact .inr ⟨rfl, .inr (.inl rfl)⟩
    · exact .inr ⟨rfl, .inr (.inr rfl)⟩
    · exact .inl rfl

theorem putI_len {n : Int} (h : -9223372036854775808 ≤ n ∧ n ≤ 9223372036854775807) : (Vi.putI n).length ≤ 10 := Vi.enc_len10 (Vi.zig_lt h)
end Go.Proofs.YtojbjaklngdlcaaGreatDoor
namespace Go.Proofs.YtojbjaklngdlcaaGreatDoor.Vi

theorem u8_small {u : Nat} (h : u < 256) : (UInt8.ofNat u).toNat = u := by simp [UInt8.toNat_ofNat']; omega
theorem u8_back (c : UInt8) : UInt8.ofNat c.toNat = c := by simp

theorem dec_enc (u : Nat) : ∀ (i U : Nat) (r : List UInt8), u * 128 ^ i < 18446744073709551616 → (0 < i → u ≠ 0) → dec i U (enc u ++ r) = .ok (U + u * 128 ^ i) (i + (enc u).length) := by
  induction u using Nat.strongRecOn with
  | ind u ih =>
    intro i U r hu h0
    by_cases h : u < 128
    · rw [enc_lt h]
      simp only [List.cons_append, List.nil_append, dec, u8_small (show u < 256 by omega), List.length_cons, List.length_nil]
      rw [if_neg, if_pos h]
      rintro (⟨rfl, h1⟩ | ⟨h1, h2⟩)
      · have : 2 * 128 ^ 9 ≤ u * 128 ^ 9 := Nat.mul_le_mul_right _ h1
        simp at this
        omega
      · exact h0 h1 h2
    · rw [enc_ge h]
      have hp : 0 < 128 ^ i := Nat.pow_pos (by omega)
      have hm : u % 128 < 128 := Nat.mod_lt _ (by omega)
      have hq : u / 128 * 128 ^ (i + 1) + u % 128 * 128 ^ i = u * 128 ^ i := by
        rw [Nat.pow_succ, Nat.mul_comm (128 ^ i) 128, ← Nat.mul_assoc, ← Nat.add_mul]
        congr 1
        omega
      simp only [List.cons_append, dec, u8_small (show u % 128 + 128 < 256 by omega), List.length_cons]
      rw [if_neg, if_neg (by omega), ih (u / 128) (by omega) (i + 1) _ r (by omega) (fun _ => by omega)]
      · congr 1
        · rw [Nat.add_sub_cancel]; omega
        · omega
      · rintro (⟨rfl, _⟩ | ⟨_, h2⟩)
        · have : 128 * 128 ^ 9 ≤ u * 128 ^ 9 := Nat.mul_le_mul_right _ (by omega)
          simp at this
          omega
        · omega

theorem dec_part (u : Nat) : ∀ (i U j : Nat), u * 128 ^ i < 18446744073709551616 → j < (enc u).length → dec i U ((enc u).take j) = .short := by
  induction u using Nat.strongRecOn with
  | ind u ih =>
    intro i U j hu hj
    by_cases h : u < 128
    · rw [enc_lt h] at hj ⊢
      simp only [List.length_cons, List.length_nil] at hj
      obtain rfl : j = 0 := by omega
      rfl
    · rw [enc_ge h] at hj ⊢
      have hp : 0 < 128 ^ i := Nat.pow_pos (by omega)
      have hm : u % 128 < 128 := Nat.mod_lt _ (by omega)
      have hq : u / 128 * 128 ^ (i + 1) + u % 128 * 128 ^ i = u * 128 ^ i := by
        rw [Nat.pow_succ, Nat.mul_comm (128 ^ i) 128, ← Nat.mul_assoc, ← Nat.add_mul]
        congr 1
        omega
      cases j with
      | zero => rfl
      | succ j =>
        simp only [List.length_cons] at hj
        simp only [List.take_succ_cons, dec, u8_small (show u % 128 + 128 < 256 by omega)]
        rw [if_neg, if_neg (by omega), ih (u / 128) (by omega) (i + 1) _ j (by omega) (by omega)]
        rintro (⟨rfl, _⟩ | ⟨_, h2⟩)
        · have : 128 * 128 ^ 9 ≤ u * 128 ^ 9 := Nat.mul_le_mul_right _ (by omega)
          simp at this
          omega
        · omega

theorem dec_canon : ∀ (s : List UInt8) (i U u k : Nat), dec i U s = .ok u k → ∃ v, u = U + v * 128 ^ i ∧ s = enc v ++ s.drop (enc v).length ∧ k = i + (enc v).length ∧ (0 < i → v ≠ 0) := by
  intro s
  induction s with
  | nil => intro i U u k h; simp [dec] at h
  | cons c r ih =>
    intro i U u k h
    have hc := c.toNat_lt
    simp only [dec] at h
    split at h
    · cases h
    · rename_i hbad
      split at h
      · rename_i hl
        injection h with h1 h2
        refine ⟨c.toNat, h1.symm, ?_, ?_, fun hi e => hbad (.inr ⟨hi, e⟩)⟩
        · rw [enc_lt hl, u8_back]; rfl
        · rw [enc_lt hl]; simp [h2]
      · rename_i hl
        obtain ⟨v, h1, h2, h3, h4⟩ := ih _ _ _ _ h
        have hv := h4 (by omega)
        have hge : ¬ (c.toNat - 128 + 128 * v) < 128 := by omega
        have e1 : (c.toNat - 128 + 128 * v) % 128 + 128 = c.toNat := by omega
        have e2 : (c.toNat - 128 + 128 * v) / 128 = v := by omega
        refine ⟨c.toNat - 128 + 128 * v, ?_, ?_, ?_, fun _ => by omega⟩
        · rw [h1, Nat.pow_succ, Nat.add_mul, Nat.mul_comm (128 ^ i) 128, ← Nat.mul_assoc, Nat.mul_comm v 128, Nat.add_assoc]
        · rw [enc_ge hge, e1, e2, u8_back]; simpa using h2
        · rw [enc_ge hge, e1, e2]; simp; omega

theorem zig_bd {n : Int} (hn : -9223372036854775808 ≤ n ∧ n ≤ 9223372036854775807) : zig n * 128 ^ 0 < 18446744073709551616 := by have := zig_lt hn; simpa using this
theorem putI_pos (n : Int) : 0 < (putI n).length := enc_pos _
theorem drop_le {α : Type} {l r : List α} {a : Nat} (h : l.drop a = r) (hr : 0 < r.length) : a < l.length := by
  rcases Nat.lt_or_ge a l.length with h1 | h1
  · exact h1
  · rw [List.drop_eq_nil_of_le h1] at h; rw [← h] at hr; simp at hr

/-- What was put is got back. -/
theorem getI_put {l r : List UInt8} {a : Nat} {n : Int} (h : l.drop a = putI n ++ r) (hn : -9223372036854775808 ≤ n ∧ n ≤ 9223372036854775807) : getI l (a : Int) = (n, (a : Int) + (putI n).length, 0) := by
  have hp := putI_pos n
  have ha := drop_le h (by simp; omega)
  unfold getI
  rw [if_neg (by omega), Int.toNat_natCast, h, putI, dec_enc _ 0 0 r (zig_bd hn) (by omega)]
  simp [unzig_zig]
/-- A part of it is short. -/
theorem getI_part {l : List UInt8} {a j : Nat} {n : Int} (h : l.drop a = (putI n).take j) (hj : j < (putI n).length) (ha : a ≤ l.length) (hn : -9223372036854775808 ≤ n ∧ n ≤ 9223372036854775807) : getI l (a : Int) = (0, 0, 10) := by
  unfold getI
  rw [if_neg (by omega), Int.toNat_natCast, h, putI, dec_part _ 0 0 j (zig_bd hn) hj]
/-- What was got is what would be put. -/
theorem getI_canon {l : List UInt8} {a : Int} (h : (getI l a).2.2 = 0) : l.drop a.toNat = putI (getI l a).1 ++ l.drop (getI l a).2.1.toNat ∧ (getI l a).2.1 = a + (putI (getI l a).1).length := by
  have hb := getI_ok h
  unfold getI at *
  split at h
  · simp at h
  · rename_i hb'
    rw [if_neg hb'] at hb ⊢
    cases hd : dec 0 0 (l.drop a.toNat) with
    | short => rw [hd] at h; simp at h
    | form => rw [hd] at h; simp at h
    | ok u k =>
      rw [hd] at hb
      dsimp only at hb ⊢
      obtain ⟨v, h1, h2, h3, _⟩ := dec_canon _ _ _ _ _ hd
      obtain rfl : u = v := by simpa using h1
      obtain rfl : k = (enc u).length := by simpa using h3
      unfold putI
      rw [zig_unzig]
      refine ⟨?_, rfl⟩
      rw [show (a + ((enc u).length : Nat)).toNat = a.toNat + (enc u).length by omega, ← List.drop_drop]
      exact h2

theorem getI_cast {l : List UInt8} {a : Int} (h : (getI l a).2.2 = 0) : ∃ p : Nat, (getI l a).2.1 = p ∧ (p : Int) = a + (putI (getI l a).1).length := by
  have := (getI_canon h).2
  have h1 := getI_ok h
  exact ⟨(getI l a).2.1.toNat, by omega, by omega⟩

theorem cnt_put {l r : List UInt8} {a n : Nat} {most : Int} (h : l.drop a = putI n ++ r) (hn : n ≤ 9223372036854775807) (hm : (n : Int) ≤ most) : cnt l (a : Int) most = ((n : Int), (a : Int) + (putI n).length, 0) := by
  have := getI_put h (by omega)
  unfold cnt
  rw [this]
  dsimp only
  rw [if_neg (by simp), if_neg (by omega), if_neg (by omega)]
theorem cnt_part {l : List UInt8} {a j n : Nat} {most : Int} (h : l.drop a = (putI n).take j) (hj : j < (putI n).length) (ha : a ≤ l.length) (hn : n ≤ 9223372036854775807) : cnt l (a : Int) most = (0, 0, 10) := by
  have := getI_part h hj ha (by omega)
  unfold cnt
  rw [this]
  simp
theorem cnt_canon {l : List UInt8} {a most : Int} (h : (cnt l a most).2.2 = 0) : cnt l a most = getI l a ∧ (getI l a).2.2 = 0 ∧ 0 ≤ (getI l a).1 ∧ (getI l a).1 ≤ most := by
  unfold cnt at *
  split at h
  · rename_i h'; exact absurd h h'
  · rename_i h'
    split at h
    · simp at h
    · split at h
      · simp at h
      · rename_i h1 h2
        rw [if_neg h', if_neg h1, if_neg h2]
        have h0 : (getI l a).2.2 = 0 := by simpa using h'
        exact ⟨by ext <;> simp [h0], h0, by omega, by omega⟩

theorem getI_err {l : List UInt8} {a : Int} (h : (getI l a).2.2 ≠ 0) : getI l a = (0, 0, (getI l a).2.2) := by
  rcases getI_e l a with h' | h'
  · exact absurd h' h
  · exact h'.1

theorem cnt_bad {l : List UInt8} {a most : Int} (h : (getI l a).2.2 ≠ 0) : (cnt l a most).2.2 ≠ 0 := by
  unfold cnt; rw [if_pos h]; exact h
/-- The length grows with the number. -/
theorem enc_mono : ∀ (v u : Nat), u ≤ v → (enc u).length ≤ (enc v).length := by
  intro v
  induction v using Nat.strongRecOn with
  | ind v ih =>
    intro u huv
    by_cases hu : u < 128
    · rw [enc_lt hu]; exact enc_pos v
    · have hv : ¬ v < 128 := by omega
      rw [enc_ge hu, enc_ge hv]
      have := ih (v / 128) (by omega) (u / 128) (Nat.div_le_div_right huv)
      simp
      exact this
theorem enc_one {u : Nat} : (enc u).length = 1 ↔ u < 128 := by
  constructor
  · intro h
    by_cases hu : u < 128
    · exact hu
    · rw [enc_ge hu] at h
      have := enc_pos (u / 128)
      simp only [List.length_cons] at h
      omega
  · intro h; rw [enc_lt h]; rfl
theorem putI_one {n : Int} : (putI n).length = 1 ↔ (-64 ≤ n ∧ n ≤ 63) := by
  unfold putI
  rw [enc_one]
  unfold zig
  split <;> omega
end Go.Proofs.YtojbjaklngdlcaaGreatDoor.Vi
