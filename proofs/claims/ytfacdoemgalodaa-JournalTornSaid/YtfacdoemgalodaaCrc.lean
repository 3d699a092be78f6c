/-
  Plain mathematics of the CRC-32 of layer 2 (no program in sight): one step, eight steps, linearity, injectivity, the table's step.
-/
namespace Crc

/-- One step of the reflected CRC. -/
def stp (n : Nat) : Nat := if n % 2 = 1 then n / 2 ^^^ 3988292384 else n / 2

def stpN : Nat → Nat → Nat
  | 0, n => n
  | k + 1, n => stpN k (stp n)

theorem stpN_succ (k n : Nat) : stpN (k + 1) n = stp (stpN k n) := by
  induction k generalizing n with
  | zero => rfl
  | succ k ih => exact ih (stp n)

theorem stpN_add (j k n : Nat) : stpN (j + k) n = stpN k (stpN j n) := by
  induction j generalizing n with
  | zero => simp [stpN]
  | succ j ih => rw [Nat.succ_add]; exact ih (stp n)

theorem xor_half (a b : Nat) : (a ^^^ b) / 2 = a / 2 ^^^ b / 2 := by
  apply Nat.eq_of_testBit_eq
  intro i
  simp only [Nat.testBit_xor, Nat.testBit_div_two]

theorem xor_par (a b : Nat) : (a ^^^ b) % 2 = (a + b) % 2 := by
  have h := Nat.testBit_xor a b 0
  simp only [Nat.testBit_zero] at h
  have ha : a % 2 = 0 ∨ a % 2 = 1 := by omega
  have hb : b % 2 = 0 ∨ b % 2 = 1 := by omega
  have hx : (a ^^^ b) % 2 = 0 ∨ (a ^^^ b) % 2 = 1 := by omega
  rcases ha with ha | ha <;> rcases hb with hb | hb <;> rcases hx with hx | hx <;> rw [ha, hb, hx] at h <;> first | omega | simp at h

theorem stp_xor (a b : Nat) : stp (a ^^^ b) = stp a ^^^ stp b := by
  unfold stp
  rw [xor_half, xor_par]
  have ha : a % 2 = 0 ∨ a % 2 = 1 := by omega
  have hb : b % 2 = 0 ∨ b % 2 = 1 := by omega
  rcases ha with ha | ha <;> rcases hb with hb | hb
  · rw [if_neg (by omega), if_neg (by omega), if_neg (by omega)]
  · rw [if_pos (by omega), if_neg (by omega), if_pos (by omega), Nat.xor_assoc]
  · rw [if_pos (by omega), if_pos (by omega), if_neg (by omega), Nat.xor_assoc, Nat.xor_assoc, Nat.xor_comm (b / 2)]
  · rw [if_neg (by omega), if_pos (by omega), if_pos (by omega)]
    rw [Nat.xor_assoc, ← Nat.xor_assoc 3988292384, Nat.xor_comm 3988292384 (b / 2), Nat.xor_assoc (b / 2), Nat.xor_self, Nat.xor_zero]

theorem stpN_xor (k a b : Nat) : stpN k (a ^^^ b) = stpN k a ^^^ stpN k b := by
  induction k generalizing a b with
  | zero => rfl
  | succ k ih => simp only [stpN, stp_xor, ih]

theorem stp_even (m : Nat) : stp (2 * m) = m := by
  unfold stp; rw [if_neg (by omega)]; omega

theorem stpN_shift (k m : Nat) : stpN k (2 ^ k * m) = m := by
  induction k generalizing m with
  | zero => simp [stpN]
  | succ k ih =>
    have : 2 ^ (k + 1) * m = 2 * (2 ^ k * m) := by rw [Nat.pow_succ, Nat.mul_comm (2 ^ k) 2, Nat.mul_assoc]
    rw [stpN, this, stp_even, ih]

theorem stpN8_shift (m : Nat) : stpN 8 (256 * m) = m := stpN_shift 8 m

theorem stp_lt (n : Nat) (h : n < 4294967296) : stp n < 4294967296 := by
  unfold stp
  split
  · exact Nat.xor_lt_two_pow (n := 32) (by omega) (by decide)
  · omega

theorem stpN_lt (k n : Nat) (h : n < 4294967296) : stpN k n < 4294967296 := by
  induction k generalizing n with
  | zero => exact h
  | succ k ih => exact ih _ (stp_lt n h)

theorem xor_cancel_right {a b c : Nat} (h : a ^^^ c = b ^^^ c) : a = b := by
  have := congrArg (· ^^^ c) h
  simpa [Nat.xor_assoc] using this

theorem xor_cancel_left {a b c : Nat} (h : c ^^^ a = c ^^^ b) : a = b := by
  rw [Nat.xor_comm c a, Nat.xor_comm c b] at h; exact xor_cancel_right h

theorem stp_inj {a b : Nat} (ha : a < 4294967296) (hb : b < 4294967296) (h : stp a = stp b) : a = b := by
  unfold stp at h
  have key : ∀ x y : Nat, x < 2147483648 → y < 2147483648 → x ^^^ 3988292384 = y → False := by
    intro x y hx hy hxy
    have h1 : x ^^^ y = 3988292384 := by rw [← hxy, ← Nat.xor_assoc, Nat.xor_self, Nat.zero_xor]
    have h2 : x ^^^ y < 2 ^ 31 := Nat.xor_lt_two_pow (by omega) (by omega)
    omega
  split at h <;> split at h
  · have := xor_cancel_right h; omega
  · exact (key _ _ (by omega) (by omega) h).elim
  · exact (key _ _ (by omega) (by omega) h.symm).elim
  · omega

theorem stpN_inj (k : Nat) {a b : Nat} (ha : a < 4294967296) (hb : b < 4294967296) (h : stpN k a = stpN k b) : a = b := by
  induction k generalizing a b with
  | zero => exact h
  | succ k ih => exact stp_inj ha hb (ih (stp_lt _ ha) (stp_lt _ hb) h)

/-- One byte. -/
def upd (n : Nat) (c : UInt8) : Nat := stpN 8 (n ^^^ c.toNat)

theorem u8_lt (c : UInt8) : c.toNat < 256 := c.toNat_lt

theorem xor_lt32 {a b : Nat} (ha : a < 4294967296) (hb : b < 4294967296) : a ^^^ b < 4294967296 := Nat.xor_lt_two_pow (n := 32) ha hb

theorem upd_lt (n : Nat) (c : UInt8) (h : n < 4294967296) : upd n c < 4294967296 :=
  stpN_lt 8 _ (xor_lt32 h (by have := u8_lt c; omega))

/-- The table's step is eight steps. -/
theorem upd_table (n : Nat) (c : UInt8) : upd n c = stpN 8 ((n % 256) ^^^ c.toNat) ^^^ (n / 256) := by
  have hn : n = (n % 256) ^^^ (256 * (n / 256)) := by
    apply Nat.eq_of_testBit_eq
    intro i
    rw [Nat.testBit_xor, show (256 : Nat) = 2 ^ 8 from rfl, Nat.testBit_mod_two_pow, Nat.testBit_two_pow_mul]
    by_cases hi : i < 8
    · simp [hi, show ¬ 8 ≤ i from by omega]
    · simp only [hi, show 8 ≤ i from by omega, decide_true, decide_false, Bool.false_and, Bool.true_and, Bool.false_xor]
      rw [Nat.testBit_div_two_pow]; congr 1; omega
  unfold upd
  have h2 : n ^^^ c.toNat = ((n % 256) ^^^ c.toNat) ^^^ (256 * (n / 256)) := by
    conv => lhs; rw [hn]
    rw [Nat.xor_assoc, Nat.xor_assoc, Nat.xor_comm (256 * (n / 256))]
  rw [h2, stpN_xor, stpN8_shift]

def run (n : Nat) (l : List UInt8) : Nat := l.foldl upd n

theorem run_nil (n : Nat) : run n [] = n := rfl
theorem run_cons (n : Nat) (c : UInt8) (l : List UInt8) : run n (c :: l) = run (upd n c) l := rfl
theorem run_append (n : Nat) (l r : List UInt8) : run n (l ++ r) = run (run n l) r := List.foldl_append
theorem run_snoc (n : Nat) (l : List UInt8) (c : UInt8) : run n (l ++ [c]) = upd (run n l) c := by rw [run_append]; rfl
theorem run_lt (n : Nat) (l : List UInt8) (h : n < 4294967296) : run n l < 4294967296 := by
  induction l generalizing n with
  | nil => exact h
  | cons c l ih => exact ih _ (upd_lt n c h)

/-- The checksum. -/
def crc (l : List UInt8) : Nat := run 4294967295 l ^^^ 4294967295

theorem crc_lt (l : List UInt8) : crc l < 4294967296 := xor_lt32 (run_lt _ _ (by decide)) (by decide)

/-- Processing bytes moves any difference of states injectively. -/
theorem run_inj {a b : Nat} (l : List UInt8) (ha : a < 4294967296) (hb : b < 4294967296) (h : run a l = run b l) : a = b := by
  induction l generalizing a b with
  | nil => exact h
  | cons c l ih =>
    have h1 := ih (upd_lt a c ha) (upd_lt b c hb) h
    have hc : c.toNat < 4294967296 := by have := u8_lt c; omega
    exact xor_cancel_right (stpN_inj 8 (xor_lt32 ha hc) (xor_lt32 hb hc) h1)

/-- The little-endian word of a list of bytes. -/
def word : List UInt8 → Nat
  | [] => 0
  | c :: l => c.toNat + 256 * word l

theorem word_lt (l : List UInt8) : word l < 256 ^ l.length := by
  induction l with
  | nil => simp [word]
  | cons c l ih =>
    have := u8_lt c
    simp only [word, List.length_cons, Nat.pow_succ]
    omega

theorem add_eq_xor (c m : Nat) (h : c < 256) : c + 256 * m = c ^^^ (256 * m) := by
  apply Nat.eq_of_testBit_eq
  intro i
  rw [Nat.testBit_xor, show (256 : Nat) = 2 ^ 8 from rfl, Nat.add_comm, Nat.testBit_two_pow_mul_add m (by simpa using h), Nat.testBit_two_pow_mul]
  by_cases hi : i < 8
  · simp [hi, show ¬ 8 ≤ i from by omega]
  · have : c.testBit i = false := Nat.testBit_lt_two_pow (Nat.lt_of_lt_of_le h (by rw [show (256 : Nat) = 2 ^ 8 from rfl]; exact Nat.pow_le_pow_right (by omega) (by omega)))
    simp [hi, show 8 ≤ i from by omega, this]

theorem run_word (s : Nat) (l : List UInt8) : run s l = stpN (8 * l.length) (s ^^^ word l) := by
  induction l generalizing s with
  | nil => simp [run, stpN, word]
  | cons c l ih =>
    rw [run_cons, ih, List.length_cons, show 8 * (l.length + 1) = 8 + 8 * l.length from by omega, stpN_add]
    congr 1
    simp only [word]
    rw [add_eq_xor _ _ (u8_lt c), ← Nat.xor_assoc, stpN_xor 8, stpN8_shift]
    rfl

theorem word_inj {l r : List UInt8} (hlen : l.length = r.length) (h : word l = word r) : l = r := by
  induction l generalizing r with
  | nil => cases r with
    | nil => rfl
    | cons => simp at hlen
  | cons c l ih => cases r with
    | nil => simp at hlen
    | cons d r =>
      simp only [word] at h
      have h1 := u8_lt c; have h2 := u8_lt d
      have e1 : c.toNat = d.toNat := by omega
      have e2 : word l = word r := by omega
      rw [UInt8.toNat_inj.1 e1, ih (by simpa using hlen) e2]

/-- Up to four consecutive bytes changed: the checksum tells. -/
theorem crc_burst (p l r q : List UInt8) (hlen : l.length = r.length) (h4 : l.length ≤ 4) (h : crc (p ++ l ++ q) = crc (p ++ r ++ q)) : l = r := by
  unfold crc at h
  have h1 := xor_cancel_right h
  rw [run_append, run_append, run_append _ (p ++ r), run_append] at h1
  have hp := run_lt 4294967295 p (by decide)
  have h2 := run_inj q (run_lt _ l hp) (run_lt _ r hp) h1
  rw [run_word _ l, run_word _ r, ← hlen] at h2
  have hw : ∀ t : List UInt8, t.length ≤ 4 → word t < 4294967296 := by
    intro t ht
    have := word_lt t
    have h3 : (256 : Nat) ^ t.length ≤ 256 ^ 4 := Nat.pow_le_pow_right (by omega) ht
    omega
  have h3 := stpN_inj _ (xor_lt32 hp (hw l h4)) (xor_lt32 hp (hw r (by omega))) h2
  exact word_inj hlen (xor_cancel_left h3)

/-- The bytewise xor of three lists. -/
def xor3 (a b c : List UInt8) : List UInt8 := ((a.zip b).zip c).map fun t => t.1.1 ^^^ t.1.2 ^^^ t.2

theorem u8_xor_nat (a b : UInt8) : (a ^^^ b).toNat = a.toNat ^^^ b.toNat := UInt8.toNat_xor a b

theorem xor_swap3 (x y z a b c : Nat) : (x ^^^ y ^^^ z) ^^^ (a ^^^ b ^^^ c) = (x ^^^ a) ^^^ (y ^^^ b) ^^^ (z ^^^ c) := by
  apply Nat.eq_of_testBit_eq
  intro i
  simp only [Nat.testBit_xor]
  cases x.testBit i <;> cases y.testBit i <;> cases z.testBit i <;> cases a.testBit i <;> cases b.testBit i <;> cases c.testBit i <;> rfl

theorem run_three : ∀ (a b c : List UInt8) (x y z : Nat), a.length = b.length → b.length = c.length →
    run (x ^^^ y ^^^ z) (xor3 a b c) = run x a ^^^ run y b ^^^ run z c
  | [], [], [], x, y, z, _, _ => rfl
  | p :: a, q :: b, r :: c, x, y, z, h1, h2 => by
    have ih := run_three a b c (upd x p) (upd y q) (upd z r) (by simpa using h1) (by simpa using h2)
    have e : xor3 (p :: a) (q :: b) (r :: c) = (p ^^^ q ^^^ r) :: xor3 a b c := rfl
    rw [e, run_cons, run_cons, run_cons, run_cons, ← ih]
    congr 1
    unfold upd
    rw [u8_xor_nat, u8_xor_nat, xor_swap3, stpN_xor, stpN_xor]
  | [], _ :: _, _, _, _, _, h, _ => by simp at h
  | _ :: _, [], _, _, _, _, h, _ => by simp at h
  | [], [], _ :: _, _, _, _, _, h => by simp at h
  | _ :: _, _ :: _, [], _, _, _, _, h => by simp at h

theorem crc_three (a b c : List UInt8) (h1 : a.length = b.length) (h2 : b.length = c.length) :
    crc (xor3 a b c) = crc a ^^^ crc b ^^^ crc c := by
  unfold crc
  have h := run_three a b c 4294967295 4294967295 4294967295 h1 h2
  have e : (4294967295 ^^^ 4294967295 ^^^ 4294967295 : Nat) = 4294967295 := by decide
  rw [e] at h
  rw [h, ← xor_swap3]
  rfl

end Crc
