/-
  Varints: what was put is got back; what was got is what would be put; a part of an encoding is short. Plain laws, no program in sight.
-/
import Derived.Test.YtgklnkholflabaaIntsW
namespace Go.Proofs.Ytgklnkholflabaa
theorem strOf_nil : strOf [] = ⟨#[]⟩ := rfl
theorem data_len (s : ByteArray) : s.data.toList.length = s.size := rfl
end Go.Proofs.Ytgklnkholflabaa
namespace Go.Proofs.Ytgklnkholflabaa.Vi

theorem u8_small {u : Nat} (h : u < 256) : (UInt8.ofNat u).toNat = u := by simp [UInt8.toNat_ofNat']; omega
theorem u8_back (c : UInt8) : UInt8.ofNat c.toNat = c := by simp

theorem dec_enc (u : Nat) : ∀ (i U : Nat) (r : List UInt8), u * 128 ^ i < 18446744073709551616 → (0 < i → u ≠ 0) → dec i U (enc u ++ r) = .ok (U + u * 128 ^ i) (i + (enc u).length) := by
  induction u using Nat.strongRecOn with
  | ind u ih =>
    intro i U r hu h0
    by_cases h : u < 128
    · rw [enc_lt h]
      simp only [List.cons_append, List.nil_append, dec, u8_small (show u < 256 by omega), List.length_cons, List.length_nil]
      rw [if_neg, if_pos h]
      rintro (⟨rfl, h1⟩ | ⟨h1, h2⟩)
      · have : 2 * 128 ^ 9 ≤ u * 128 ^ 9 := Nat.mul_le_mul_right _ h1
        simp at this
        omega
      · exact h0 h1 h2
    · rw [enc_ge h]
      have hp : 0 < 128 ^ i := Nat.pow_pos (by omega)
      have hm : u % 128 < 128 := Nat.mod_lt _ (by omega)
      have hq : u / 128 * 128 ^ (i + 1) + u % 128 * 128 ^ i = u * 128 ^ i := by
        rw [Nat.pow_succ, Nat.mul_comm (128 ^ i) 128, ← Nat.mul_assoc, ← Nat.add_mul]
        congr 1
        omega
      simp only [List.cons_append, dec, u8_small (show u % 128 + 128 < 256 by omega), List.length_cons]
      rw [if_neg, if_neg (by omega), ih (u / 128) (by omega) (i + 1) _ r (by omega) (fun _ => by omega)]
      · congr 1
        · rw [Nat.add_sub_cancel]; omega
        · omega
      · rintro (⟨rfl, _⟩ | ⟨_, h2⟩)
        · have : 128 * 128 ^ 9 ≤ u * 128 ^ 9 := Nat.mul_le_mul_right _ (by omega)
          simp at this
          omega
        · omega

theorem dec_part (u : Nat) : ∀ (i U j : Nat), u * 128 ^ i < 18446744073709551616 → j < (enc u).length → dec i U ((enc u).take j) = .short := by
  induction u using Nat.strongRecOn with
  | ind u ih =>
    intro i U j hu hj
    by_cases h : u < 128
    · rw [enc_lt h] at hj ⊢
      simp only [List.length_cons, List.length_nil] at hj
      obtain rfl : j = 0 := by omega
      rfl
    · rw [enc_ge h] at hj ⊢
      have hp : 0 < 128 ^ i := Nat.pow_pos (by omega)
      have hm : u % 128 < 128 := Nat.mod_lt _ (by omega)
      have hq : u / 128 * 128 ^ (i + 1) + u % 128 * 128 ^ i = u * 128 ^ i := by
        rw [Nat.pow_succ, Nat.mul_comm (128 ^ i) 128, ← Nat.mul_assoc, ← Nat.add_mul]
        congr 1
        omega
      cases j with
      | zero => rfl
      | succ j =>
        simp only [List.length_cons] at hj
        simp only [List.take_succ_cons, dec, u8_small (show u % 128 + 128 < 256 by omega)]
        rw [if_neg, if_neg (by omega), ih (u / 128) (by omega) (i + 1) _ j (by omega) (by omega)]
        rintro (⟨rfl, _⟩ | ⟨_, h2⟩)
        · have : 128 * 128 ^ 9 ≤ u * 128 ^ 9 := Nat.mul_le_mul_right _ (by omega)
          simp at this
          omega
        · omega

theorem dec_canon : ∀ (s : List UInt8) (i U u k : Nat), dec i U s = .ok u k → ∃ v, u = U + v * 128 ^ i ∧ s = enc v ++ s.drop (enc v).length ∧ k = i + (enc v).length ∧ (0 < i → v ≠ 0) := by
  intro s
  induction s with
  | nil => intro i U u k h; simp [dec] at h
  | cons c r ih =>
    intro i U u k h
    have hc := c.toNat_lt
    simp only [dec] at h
    split at h
    · cases h
    · rename_i hbad
      split at h
      · rename_i hl
        injection h with h1 h2
        refine ⟨c.toNat, h1.symm, ?_, ?_, fun hi e => hbad (.inr ⟨hi, e⟩)⟩
        · rw [enc_lt hl, u8_back]; rfl
        · rw [enc_lt hl]; simp [h2]
      · rename_i hl
        obtain ⟨v, h1, h2, h3, h4⟩ := ih _ _ _ _ h
        have hv := h4 (by omega)
        have hge : ¬ (c.toNat - 128 + 128 * v) < 128 := by omega
        have e1 : (c.toNat - 128 + 128 * v) % 128 + 128 = c.toNat := by omega
        have e2 : (c.toNat - 128 + 128 * v) / 128 = v := by omega
        refine ⟨c.toNat - 128 + 128 * v, ?_, ?_, ?_, fun _ => by omega⟩
        · rw [h1, Nat.pow_succ, Nat.add_mul, Nat.mul_comm (128 ^ i) 128, ← Nat.mul_assoc, Nat.mul_comm v 128, Nat.add_assoc]
        · rw [enc_ge hge, e1, e2, u8_back]; simpa using h2
        · rw [enc_ge hge, e1, e2]; simp; omega

theorem zig_bd {n : Int} (hn : -9223372036854775808 ≤ n ∧ n ≤ 9223372036854775807) : zig n * 128 ^ 0 < 18446744073709551616 := by have := zig_lt hn; simpa using this
theorem putI_pos (n : Int) : 0 < (putI n).length := enc_pos _
theorem drop_le {α : Type} {l r : List α} {a : Nat} (h : l.drop a = r) (hr : 0 < r.length) : a < l.length := by
  rcases Nat.lt_or_ge a l.length with h1 | h1
  · exact h1
  · rw [List.drop_eq_nil_of_le h1] at h; rw [← h] at hr; simp at hr

/-- What was put is got back. -/
theorem getI_put {l r : List UInt8} {a : Nat} {n : Int} (h : l.drop a = putI n ++ r) (hn : -9223372036854775808 ≤ n ∧ n ≤ 9223372036854775807) : getI l (a : Int) = (n, (a : Int) + (putI n).length, 0) := by
  have hp := putI_pos n
  have ha := drop_le h (by simp; omega)
  unfold getI
  rw [if_neg (by omega), Int.toNat_natCast, h, putI, dec_enc _ 0 0 r (zig_bd hn) (by omega)]
  simp [unzig_zig]
/-- A part of it is short. -/
theorem getI_part {l : List UInt8} {a j : Nat} {n : Int} (h : l.drop a = (putI n).take j) (hj : j < (putI n).length) (ha : a ≤ l.length) (hn : -9223372036854775808 ≤ n ∧ n ≤ 9223372036854775807) : getI l (a : Int) = (0, 0, 10) := by
  unfold getI
  rw [if_neg (by omega), Int.toNat_natCast, h, putI, dec_part _ 0 0 j (zig_bd hn) hj]
/-- What was got is what would be put. -/
theorem getI_canon {l : List UInt8} {a : Int} (h : (getI l a).2.2 = 0) : l.drop a.toNat = putI (getI l a).1 ++ l.drop (getI l a).2.1.toNat ∧ (getI l a).2.1 = a + (putI (getI l a).1).length := by
  have hb := getI_ok h
  unfold getI at *
  split at h
  · simp at h
  · rename_i hb'
    rw [if_neg hb'] at hb ⊢
    cases hd : dec 0 0 (l.drop a.toNat) with
    | short => rw [hd] at h; simp at h
    | form => rw [hd] at h; simp at h
    | ok u k =>
      rw [hd] at hb
      dsimp only at hb ⊢
      obtain ⟨v, h1, h2, h3, _⟩ := dec_canon _ _ _ _ _ hd
      obtain rfl : u = v := by simpa using h1
      obtain rfl : k = (enc u).length := by simpa using h3
      unfold putI
      rw [zig_unzig]
      refine ⟨?_, rfl⟩
      rw [show (a + ((enc u).length : Nat)).toNat = a.toNat + (enc u).length by omega, ← List.drop_drop]
      exact h2

theorem getI_cast {l : List UInt8} {a : Int} (h : (getI l a).2.2 = 0) : ∃ p : Nat, (getI l a).2.1 = p ∧ (p : Int) = a + (putI (getI l a).1).length := by
  have := (getI_canon h).2
  have h1 := getI_ok h
  exact ⟨(getI l a).2.1.toNat, by omega, by omega⟩

theorem cnt_put {l r : List UInt8} {a n : Nat} {most : Int} (h : l.drop a = putI n ++ r) (hn : n ≤ 9223372036854775807) (hm : (n : Int) ≤ most) : cnt l (a : Int) most = ((n : Int), (a : Int) + (putI n).length, 0) := by
  have := getI_put h (by omega)
  unfold cnt
  rw [this]
  dsimp only
  rw [if_neg (by simp), if_neg (by omega), if_neg (by omega)]
theorem cnt_part {l : List UInt8} {a j n : Nat} {most : Int} (h : l.drop a = (putI n).take j) (hj : j < (putI n).length) (ha : a ≤ l.length) (hn : n ≤ 9223372036854775807) : cnt l (a : Int) most = (0, 0, 10) := by
  have := getI_part h hj ha (by omega)
  unfold cnt
  rw [this]
  simp
theorem cnt_canon {l : List UInt8} {a most : Int} (h : (cnt l a most).2.2 = 0) : cnt l a most = getI l a ∧ (getI l a).2.2 = 0 ∧ 0 ≤ (getI l a).1 ∧ (getI l a).1 ≤ most := by
  unfold cnt at *
  split at h
  · rename_i h'; exact absurd h h'
  · rename_i h'
    split at h
    · simp at h
    · split at h
      · simp at h
      · rename_i h1 h2
        rw [if_neg h', if_neg h1, if_neg h2]
        have h0 : (getI l a).2.2 = 0 := by simpa using h'
        exact ⟨by ext <;> simp [h0], h0, by omega, by omega⟩

/-- A text. -/
theorem getS_put {l r s : List UInt8} {a : Nat} {most : Int} (h : l.drop a = putS s ++ r) (hn : s.length ≤ 9223372036854775807) (hm : (s.length : Int) ≤ most) : getS l (a : Int) most = (s, (a : Int) + (putS s).length, 0) := by
  unfold putS at h
  rw [List.append_assoc] at h
  have hc := cnt_put (n := s.length) h hn hm
  have hl := congrArg List.length h
  rw [getS_cnt, hc]
  simp only [List.length_drop, List.length_append] at hl
  dsimp only
  have hp := putI_pos s.length
  rw [if_neg (by simp), if_neg (by omega)]
  have e : ((a : Int) + ((putI s.length).length : Nat)).toNat = a + (putI s.length).length := by omega
  rw [e, ← List.drop_drop, h, List.drop_left, Int.toNat_natCast, List.take_left]
  unfold putS
  simp [Int.add_assoc]
theorem getS_part {l s : List UInt8} {a j : Nat} {most : Int} (h : l.drop a = (putS s).take j) (hj : j < (putS s).length) (ha : a ≤ l.length) (hn : s.length ≤ 9223372036854775807) (hm : (s.length : Int) ≤ most) : getS l (a : Int) most = ([], 0, 10) := by
  unfold putS at h hj
  rw [getS_cnt]
  rcases Nat.lt_or_ge j (putI s.length).length with h1 | h1
  · rw [List.take_append_of_le_length (by omega)] at h
    rw [cnt_part (n := s.length) h h1 ha hn]
    simp
  · have hl := congrArg List.length h
    rw [List.take_append, List.take_of_length_le h1] at h
    rw [cnt_put (n := s.length) h hn hm]
    simp only [List.length_drop, List.length_take, List.length_append] at hl hj
    dsimp only
    have hp := putI_pos s.length
    rw [if_neg (by simp), if_pos (by omega)]
theorem getS_canon {l : List UInt8} {a most : Int} (h : (getS l a most).2.2 = 0) : 0 ≤ a ∧ l.drop a.toNat = putS (getS l a most).1 ++ l.drop (getS l a most).2.1.toNat ∧ (getS l a most).2.1 = a + (putS (getS l a most).1).length ∧ ((getS l a most).1.length : Int) ≤ most ∧ (getS l a most).2.1 ≤ l.length ∧ (getI l a).2.1 ≤ (getS l a most).2.1 := by
  rw [getS_cnt] at *
  split at h
  · rename_i h'; exact absurd h h'
  · rename_i h'
    split at h
    · simp at h
    · rename_i h1
      rw [if_neg h', if_neg h1]
      obtain ⟨e, e0, e1, e2⟩ := cnt_canon (l := l) (a := a) (most := most) (by simpa using h')
      rw [e] at h1 ⊢
      have hb := getI_ok e0
      obtain ⟨hc, hd⟩ := getI_canon e0
      dsimp only
      have hlen : ((l.drop (getI l a).2.1.toNat).take (getI l a).1.toNat).length = (getI l a).1.toNat := by
        rw [List.length_take, List.length_drop]; omega
      have hn : (((getI l a).1.toNat : Nat) : Int) = (getI l a).1 := by omega
      unfold putS
      rw [hlen, hn]
      refine ⟨by omega, ?_, ?_, by omega, by omega, by omega⟩
      · rw [show ((getI l a).2.1 + (getI l a).1).toNat = (getI l a).2.1.toNat + (getI l a).1.toNat by omega, ← List.drop_drop, List.append_assoc, List.take_append_drop]
        exact hc
      · rw [List.length_append, hlen]; omega

/-- A list of integers. -/
theorem getN_put {l : List UInt8} : ∀ (xs : List Int) (a : Nat) (acc : List Int) (r : List UInt8), l.drop a = xs.flatMap putI ++ r → okIs xs → getN l xs.length (a : Int) acc = (acc ++ xs, (a : Int) + (xs.flatMap putI).length, 0)
  | [], a, acc, r, _, _ => by simp [getN]
  | x :: xs, a, acc, r, h, hok => by
    rw [List.flatMap_cons, List.append_assoc] at h
    have hx := getI_put h (hok x (by simp))
    have h2 : l.drop (a + (putI x).length) = xs.flatMap putI ++ r := by rw [← List.drop_drop, h, List.drop_left]
    have := getN_put xs (a + (putI x).length) (acc ++ [x]) r h2 (fun z hz => hok z (by simp [hz]))
    simp only [List.length_cons, getN]
    rw [hx]
    dsimp only
    rw [if_neg (by simp)]
    rw [show ((a : Int) + ((putI x).length : Nat)) = ((a + (putI x).length : Nat) : Int) by omega, this]
    simp [Int.add_assoc]
theorem getL_put {l r : List UInt8} {xs : List Int} {a : Nat} {most : Int} (h : l.drop a = putL xs ++ r) (hn : xs.length ≤ 9223372036854775807) (hm : (xs.length : Int) ≤ most) (hok : okIs xs) : getL l (a : Int) most = (xs, (a : Int) + (putL xs).length, 0) := by
  unfold putL at h
  rw [List.append_assoc] at h
  unfold getL
  rw [cnt_put (n := xs.length) h hn hm]
  dsimp only
  rw [if_neg (by simp)]
  have h2 : l.drop (a + (putI xs.length).length) = xs.flatMap putI ++ r := by rw [← List.drop_drop, h, List.drop_left]
  rw [show ((a : Int) + ((putI xs.length).length : Nat)) = ((a + (putI xs.length).length : Nat) : Int) by omega, Int.toNat_natCast, getN_put xs _ [] r h2 hok]
  unfold putL
  simp [Int.add_assoc]
theorem getN_part {l : List UInt8} : ∀ (xs : List Int) (a j : Nat) (acc : List Int), l.drop a = (xs.flatMap putI).take j → j < (xs.flatMap putI).length → a ≤ l.length → okIs xs → getN l xs.length (a : Int) acc = ([], 0, 10)
  | [], a, j, acc, _, hj, _, _ => by simp at hj
  | x :: xs, a, j, acc, h, hj, ha, hok => by
    rw [List.flatMap_cons] at h hj
    simp only [List.length_cons, getN]
    rcases Nat.lt_or_ge j (putI x).length with h1 | h1
    · rw [List.take_append_of_le_length (by omega)] at h
      rw [getI_part h h1 ha (hok x (by simp))]
      simp
    · have hl := congrArg List.length h
      rw [List.take_append, List.take_of_length_le h1] at h
      have hx := getI_put h (hok x (by simp))
      have h2 : l.drop (a + (putI x).length) = (xs.flatMap putI).take (j - (putI x).length) := by rw [← List.drop_drop, h, List.drop_left]
      simp only [List.length_drop, List.length_take, List.length_append] at hl hj
      have hp := putI_pos x
      have := getN_part xs (a + (putI x).length) (j - (putI x).length) (acc ++ [x]) h2 (by omega) (by omega) (fun z hz => hok z (by simp [hz]))
      rw [hx]
      dsimp only
      rw [if_neg (by simp)]
      rw [show ((a : Int) + ((putI x).length : Nat)) = ((a + (putI x).length : Nat) : Int) by omega, this]
theorem getL_part {l : List UInt8} {xs : List Int} {a j : Nat} {most : Int} (h : l.drop a = (putL xs).take j) (hj : j < (putL xs).length) (ha : a ≤ l.length) (hn : xs.length ≤ 9223372036854775807) (hm : (xs.length : Int) ≤ most) (hok : okIs xs) : getL l (a : Int) most = ([], 0, 10) := by
  unfold putL at h hj
  unfold getL
  rcases Nat.lt_or_ge j (putI xs.length).length with h1 | h1
  · rw [List.take_append_of_le_length (by omega)] at h
    rw [cnt_part (n := xs.length) h h1 ha hn]
    simp
  · have hl := congrArg List.length h
    rw [List.take_append, List.take_of_length_le h1] at h
    rw [cnt_put (n := xs.length) h hn hm]
    dsimp only
    rw [if_neg (by simp)]
    have h2 : l.drop (a + (putI xs.length).length) = (xs.flatMap putI).take (j - (putI xs.length).length) := by rw [← List.drop_drop, h, List.drop_left]
    simp only [List.length_drop, List.length_take, List.length_append] at hl hj
    have hp := putI_pos xs.length
    rw [show ((a : Int) + ((putI xs.length).length : Nat)) = ((a + (putI xs.length).length : Nat) : Int) by omega, Int.toNat_natCast, getN_part xs _ (j - (putI xs.length).length) [] h2 (by omega) (by omega) hok]
/-- n integers that were read. -/
theorem getN_canon {l : List UInt8} : ∀ (n : Nat) (p : Int) (acc : List Int), (getN l n p acc).2.2 = 0 → 0 ≤ p → p ≤ l.length → okIs acc →
    ∃ ys, (getN l n p acc).1 = acc ++ ys ∧ ys.length = n ∧ okIs (acc ++ ys) ∧ l.drop p.toNat = ys.flatMap putI ++ l.drop (getN l n p acc).2.1.toNat ∧ (getN l n p acc).2.1 = p + (ys.flatMap putI).length ∧ (getN l n p acc).2.1 ≤ l.length
  | 0, p, acc, _, hp, hp2, ha => ⟨[], by simp [getN], rfl, by simpa using ha, by simp [getN], by simp [getN], by simpa [getN] using hp2⟩
  | n + 1, p, acc, h, hp, hp2, ha => by
    simp only [getN] at h ⊢
    split at h
    · rename_i h'; exact absurd h h'
    · rename_i h'
      rw [if_neg h']
      have h0 : (getI l p).2.2 = 0 := by simpa using h'
      have hb := getI_ok h0
      obtain ⟨c1, c2⟩ := getI_canon h0
      obtain ⟨ys, y1, y2, y3, y4, y5, y6⟩ := getN_canon n (getI l p).2.1 (acc ++ [(getI l p).1]) h (by omega) (by omega) (okIs_snoc ha (by omega))
      refine ⟨(getI l p).1 :: ys, by rw [y1]; simp, by simp [y2], by simpa using y3, ?_, ?_, y6⟩
      · rw [List.flatMap_cons, List.append_assoc, ← y4]; exact c1
      · rw [List.flatMap_cons, List.length_append, y5]; omega
theorem getL_canon {l : List UInt8} {a most : Int} (h : (getL l a most).2.2 = 0) : 0 ≤ a ∧ l.drop a.toNat = putL (getL l a most).1 ++ l.drop (getL l a most).2.1.toNat ∧ (getL l a most).2.1 = a + (putL (getL l a most).1).length ∧ ((getL l a most).1.length : Int) ≤ most ∧ (getL l a most).2.1 ≤ l.length ∧ (getI l a).2.1 ≤ (getL l a most).2.1 ∧ okIs (getL l a most).1 := by
  unfold getL at *
  split at h
  · rename_i h'; exact absurd h h'
  · rename_i h'
    rw [if_neg h']
    obtain ⟨e, e0, e1, e2⟩ := cnt_canon (l := l) (a := a) (most := most) (by simpa using h')
    rw [e] at h ⊢
    have hb := getI_ok e0
    obtain ⟨hc, hd⟩ := getI_canon e0
    obtain ⟨ys, y1, y2, y3, y4, y5, y6⟩ := getN_canon _ _ [] h (by omega) (by omega) (by simp [okIs])
    rw [List.nil_append] at y1 y3
    rw [y1]
    have hn : ((ys.length : Nat) : Int) = (getI l a).1 := by omega
    unfold putL
    rw [hn]
    refine ⟨by omega, ?_, ?_, by omega, y6, by omega, y3⟩
    · rw [List.append_assoc, ← y4]; exact hc
    · rw [List.length_append, y5]; omega
theorem getN_okIs {l : List UInt8} (n : Nat) (p : Int) : okIs (getN l n p []).1 := by
  rcases Int.lt_or_le p 0 with hp | hp
  · cases n with
    | zero => simp [getN, okIs]
    | succ n =>
      simp only [getN]
      split
      · simp [okIs]
      · rename_i h'
        have := getI_ok (l := l) (a := p) (by simpa using h')
        omega
  · rcases Int.lt_or_le l.length p with hq | hq
    · cases n with
      | zero => simp [getN, okIs]
      | succ n =>
        simp only [getN]
        split
        · simp [okIs]
        · rename_i h'
          have := getI_ok (l := l) (a := p) (by simpa using h')
          omega
    · by_cases h : (getN l n p []).2.2 = 0
      · obtain ⟨ys, y1, _, y3, _⟩ := getN_canon n p [] h hp hq (by simp [okIs])
        rw [y1]; exact y3
      · rw [getN_err l n p [] h]; simp [okIs]
theorem getL_okIs (l : List UInt8) (a most : Int) : okIs (getL l a most).1 := by
  unfold getL
  split
  · simp [okIs]
  · exact getN_okIs _ _
theorem getL_err {l : List UInt8} {a most : Int} (h : (getL l a most).2.2 ≠ 0) : getL l a most = ([], 0, (getL l a most).2.2) := by
  unfold getL at *
  split
  · rfl
  · rename_i h'
    rw [if_neg h'] at h
    exact getN_err _ _ _ _ h
theorem getS_err {l : List UInt8} {a most : Int} (h : (getS l a most).2.2 ≠ 0) : getS l a most = ([], 0, (getS l a most).2.2) := by
  rw [getS_cnt] at *
  split
  · rfl
  · rename_i h'
    rw [if_neg h'] at h
    split
    · rfl
    · rename_i h2; rw [if_neg h2] at h; simp at h
theorem getI_err {l : List UInt8} {a : Int} (h : (getI l a).2.2 ≠ 0) : getI l a = (0, 0, (getI l a).2.2) := by
  rcases getI_e l a with h' | h'
  · exact absurd h' h
  · exact h'.1

theorem cnt_bad {l : List UInt8} {a most : Int} (h : (getI l a).2.2 ≠ 0) : (cnt l a most).2.2 ≠ 0 := by
  unfold cnt; rw [if_pos h]; exact h
theorem getS_bad {l : List UInt8} {a most : Int} (h : (getI l a).2.2 ≠ 0) : (getS l a most).2.2 ≠ 0 := by
  have := cnt_bad (most := most) h
  rw [getS_cnt, if_pos this]; exact this
theorem getL_bad {l : List UInt8} {a most : Int} (h : (getI l a).2.2 ≠ 0) : (getL l a most).2.2 ≠ 0 := by
  have := cnt_bad (most := most) h
  unfold getL; rw [if_pos this]; exact this
theorem putS_len (s : List UInt8) (h : s.length ≤ 9223372036854775807) : (putS s).length ≤ s.length + 10 := by
  have := putI_len (n := (s.length : Int)) (by omega)
  unfold putS
  simp
  omega
theorem putL_len {xs : List Int} (hx : okIs xs) (h : xs.length ≤ 9223372036854775807) : (putL xs).length ≤ 10 * xs.length + 10 := by
  have := putI_len (n := (xs.length : Int)) (by omega)
  have := flat_len hx
  unfold putL
  rw [List.length_append]
  omega
theorem flat_ge : ∀ (xs : List Int), xs.length ≤ (xs.flatMap putI).length
  | [] => by simp
  | x :: xs => by have := flat_ge xs; have := putI_pos x; simp only [List.flatMap_cons, List.length_append, List.length_cons]; omega
theorem putL_len2 (xs : List Int) : xs.length ≤ (putL xs).length := by
  have := flat_ge xs
  unfold putL
  rw [List.length_append]
  omega
theorem putS_pos (s : List UInt8) : 0 < (putS s).length := by have := putI_pos s.length; unfold putS; simp; omega
theorem putL_pos (xs : List Int) : 0 < (putL xs).length := by have := putI_pos xs.length; unfold putL; simp; omega

/-- The length grows with the number. -/
theorem enc_mono : ∀ (v u : Nat), u ≤ v → (enc u).length ≤ (enc v).length := by
  intro v
  induction v using Nat.strongRecOn with
  | ind v ih =>
    intro u huv
    by_cases hu : u < 128
    · rw [enc_lt hu]; exact enc_pos v
    · have hv : ¬ v < 128 := by omega
      rw [enc_ge hu, enc_ge hv]
      have := ih (v / 128) (by omega) (u / 128) (Nat.div_le_div_right huv)
      simp
      exact this
theorem enc_one {u : Nat} : (enc u).length = 1 ↔ u < 128 := by
  constructor
  · intro h
    by_cases hu : u < 128
    · exact hu
    · rw [enc_ge hu] at h
      have := enc_pos (u / 128)
      simp only [List.length_cons] at h
      omega
  · intro h; rw [enc_lt h]; rfl
theorem putI_one {n : Int} : (putI n).length = 1 ↔ (-64 ≤ n ∧ n ≤ 63) := by
  unfold putI
  rw [enc_one]
  unfold zig
  split <;> omega
theorem putI_near {m n : Int} (h : (0 ≤ m ∧ m ≤ n) ∨ (m < 0 ∧ n ≤ m)) : (putI m).length ≤ (putI n).length := by
  unfold putI
  apply enc_mono
  unfold zig
  split <;> split <;> omega
end Go.Proofs.Ytgklnkholflabaa.Vi
