/-
  The plain law of a burst: up to four consecutive bytes xored with the bytes of a word change the checksum just where one of them is not zero.
-/
import Derived.Test.YtoagegphhefboaaCrc
namespace Go.Proofs.Ytoagegphhefboaa

def byteAt (q k : Nat) : UInt8 := UInt8.ofNat (q / 2 ^ (8 * k))
def burst (l : List UInt8) (p q : Nat) : Nat → List UInt8
  | 0 => l
  | k + 1 => (burst l p q k).set (p + k) ((burst l p q k).getD (p + k) 0 ^^^ byteAt q k)
def chg (q : Nat) : Nat → Bool
  | 0 => false
  | k + 1 => chg q k || byteAt q k != 0

theorem burst_length (l : List UInt8) (p q k : Nat) : (burst l p q k).length = l.length := by
  induction k with
  | zero => rfl
  | succ k ih => simp [burst, ih]

theorem burst_get (l : List UInt8) (p q k : Nat) (hk : p + k ≤ l.length) (i : Nat) :
    (burst l p q k)[i]? = if p ≤ i ∧ i < p + k then (l[i]?).map (· ^^^ byteAt q (i - p)) else l[i]? := by
  induction k generalizing i with
  | zero => simp [burst]; omega
  | succ k ih =>
    have ih' := ih (by omega)
    have hl := burst_length l p q k
    rw [burst, List.getElem?_set]
    by_cases hi : p + k = i
    · subst hi
      have h1 : (burst l p q k)[p + k]? = l[p + k]? := by rw [ih' (p + k)]; rw [if_neg (by omega)]
      have h2 : p + k < l.length := by omega
      rw [if_pos rfl, if_pos (by omega), if_pos (by omega), List.getD_eq_getElem?_getD, h1, List.getElem?_eq_getElem h2]
      simp
    · rw [if_neg hi, ih' i]
      by_cases hc : p ≤ i ∧ i < p + k
      · rw [if_pos hc, if_pos (by omega)]
      · rw [if_neg hc, if_neg (by omega)]

theorem xor_zero_iff (a b : UInt8) : a ^^^ b = a ↔ b = 0 := by
  constructor
  · intro h
    have : a ^^^ (a ^^^ b) = a ^^^ a := by rw [h]
    simpa [← UInt8.xor_assoc] using this
  · rintro rfl; simp

theorem chg_false (q k : Nat) (h : chg q k = false) : ∀ i, i < k → byteAt q i = 0 := by
  induction k with
  | zero => intro i hi; omega
  | succ k ih =>
    simp only [chg, Bool.or_eq_false_iff] at h
    intro i hi
    rcases Nat.lt_or_ge i k with h1 | h1
    · exact ih h.1 i h1
    · obtain rfl : i = k := by omega
      simpa using h.2
theorem chg_of_zero (q k : Nat) (h : ∀ i, i < k → byteAt q i = 0) : chg q k = false := by
  induction k with
  | zero => rfl
  | succ k ih =>
    simp only [chg, ih (fun i hi => h i (by omega)), Bool.false_or]
    simpa using h k (by omega)

theorem burst_eq_of_zero (l : List UInt8) (p q k : Nat) (hk : p + k ≤ l.length) (h : chg q k = false) : burst l p q k = l := by
  apply List.ext_getElem?
  intro i
  rw [burst_get l p q k hk i]
  split
  · rename_i hi
    rw [chg_false q k h (i - p) (by omega)]
    simp
  · rfl

theorem split3 (x : List UInt8) (p k : Nat) : x = x.take p ++ (x.drop p).take k ++ x.drop (p + k) := by
  rw [List.append_assoc, ← List.drop_drop, List.take_append_drop, List.take_append_drop]

theorem burst_tells (l : List UInt8) (p q k : Nat) (h4 : k ≤ 4) (hk : p + k ≤ l.length) : (((Crc.crc (burst l p q k) : Nat) : Int) != ((Crc.crc l : Nat) : Int)) = chg q k := by
  cases hc : chg q k with
  | false => rw [burst_eq_of_zero l p q k hk hc]; simp
  | true =>
    rw [bne_iff_ne]
    intro he
    have he' : Crc.crc (burst l p q k) = Crc.crc l := by omega
    have hl := burst_length l p q k
    have t1 : (burst l p q k).take p = l.take p := by
      apply List.ext_getElem?
      intro i
      rw [List.getElem?_take, List.getElem?_take, burst_get l p q k hk i]
      split
      · rw [if_neg (by omega)]
      · rfl
    have t2 : (burst l p q k).drop (p + k) = l.drop (p + k) := by
      apply List.ext_getElem?
      intro i
      rw [List.getElem?_drop, List.getElem?_drop, burst_get l p q k hk _, if_neg (by omega)]
    have e1 := split3 (burst l p q k) p k
    have e2 := split3 l p k
    rw [t1, t2] at e1
    have he2 : Crc.crc (l.take p ++ ((burst l p q k).drop p).take k ++ l.drop (p + k)) = Crc.crc (l.take p ++ (l.drop p).take k ++ l.drop (p + k)) := by rw [← e1, ← e2]; exact he'
    have hm := Crc.crc_burst (l.take p) ((burst l p q k).drop p |>.take k) ((l.drop p).take k) (l.drop (p + k))
      (by simp [hl]) (by rw [List.length_take]; omega) he2
    have hz : ∀ i, i < k → byteAt q i = 0 := by
      intro i hi
      have h1 := congrArg (·[i]?) hm
      simp only [List.getElem?_take, List.getElem?_drop, if_pos hi] at h1
      rw [burst_get l p q k hk _, if_pos (by omega), List.getElem?_eq_getElem (show p + i < l.length by omega), Option.map_some] at h1
      injection h1 with h1
      rw [show p + i - p = i from by omega] at h1
      exact (xor_zero_iff _ _).1 h1
    rw [chg_of_zero q k hz] at hc
    cases hc
end Go.Proofs.Ytoagegphhefboaa
