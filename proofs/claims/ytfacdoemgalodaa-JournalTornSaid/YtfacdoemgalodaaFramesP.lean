/-
  Plain laws of frames: what opens is a frame; scanning frames, prefixes of frames, concatenations, and frames with one byte spoilt.
-/
import Derived.Test.YtfacdoemgalodaaListW
namespace Go.Proofs.Ytfacdoemgalodaa
set_option linter.unusedVariables false

theorem num_four (n : Nat) (h : n < 4294967296) : numB (four n) = n := by
  unfold four
  rw [numB_four]
  simp only [UInt8.toNat_ofNat']
  omega

theorem frame_parts (x s : List UInt8) : (frameB x ++ s).take 4 = four x.length ∧ ((frameB x ++ s).drop 4).take 4 = four (Crc.crc x) ∧ ((frameB x ++ s).drop 8).take x.length = x ∧ (frameB x ++ s).length = 8 + x.length + s.length := by
  have e : frameB x ++ s = four x.length ++ (four (Crc.crc x) ++ (x ++ s)) := by simp [frameB, List.append_assoc]
  have h4 : (four x.length).length = 4 := rfl
  have h4' : (four (Crc.crc x)).length = 4 := rfl
  refine ⟨?_, ?_, ?_, ?_⟩
  · rw [e, List.take_append_of_le_length (by omega), List.take_of_length_le (by omega)]
  · rw [e, List.drop_append_of_le_length (by omega), List.drop_of_length_le (by omega), List.nil_append, List.take_append_of_le_length (by omega), List.take_of_length_le (by omega)]
  · have e5 : (frameB x ++ s).drop 8 = x ++ s := by
      rw [e, ← List.append_assoc, List.drop_append_of_le_length (by rw [List.length_append]; omega), List.drop_of_length_le (by rw [List.length_append]; omega), List.nil_append]
    rw [e5, List.take_append_of_le_length (by omega), List.take_of_length_le (by omega)]
  · rw [List.length_append, frameB_length]

/-- A frame opens. -/
theorem open_of_frame (l : List UInt8) (p : Nat) (x s : List UInt8) (h : l.drop p = frameB x ++ s) (hx : x.length ≤ 65536) : openI l p = ⟨0, x, p + 8 + x.length⟩ := by
  obtain ⟨e1, e2, e3, e4⟩ := frame_parts x s
  have hl : l.length - p = 8 + x.length + s.length := by rw [← List.length_drop, h]; exact e4
  unfold openI
  rw [if_neg (by omega), Int.toNat_natCast]
  unfold openB
  rw [h, e1, e2, num_four _ (by omega), num_four _ (Crc.crc_lt x), e3, e4]
  rw [if_neg (by omega), if_neg (by omega), if_neg (by omega), if_neg (by simp)]

/-- What opens is a frame. -/
theorem frame_of_open (l : List UInt8) (p : Nat) (x : List UInt8) (q : Nat) (h : openI l p = ⟨0, x, q⟩) : x.length ≤ 65536 ∧ q = p + 8 + x.length ∧ p ≤ l.length ∧ q ≤ l.length ∧ l.drop p = frameB x ++ l.drop q := by
  rcases open_cases l p with ⟨_, p', hp, hp2, hb, hn, hn2, hf⟩ | ⟨he, _⟩
  · obtain rfl : p' = p := by omega
    rw [h] at hb hn hn2 hf
    simp only at hb hn hn2 hf
    refine ⟨hb, hn, hp2, hn2, ?_⟩
    rw [hf]
    have e : (l.take q).drop p' ++ l.drop q = l.drop p' := by
      conv => rhs; rw [← List.take_append_drop q l]
      rw [List.drop_append_of_le_length (by rw [List.length_take]; omega)]
    exact e.symm
  · rw [h] at he
    exact absurd rfl he

/-- Payloads as frames, one behind the other. -/
def framesB (ls : List (List UInt8)) : List UInt8 := (ls.map frameB).flatten
theorem framesB_cons (x : List UInt8) (ls : List (List UInt8)) : framesB (x :: ls) = frameB x ++ framesB ls := rfl
theorem framesB_append (ls rs : List (List UInt8)) : framesB (ls ++ rs) = framesB ls ++ framesB rs := by simp [framesB]
/-- The offsets behind each frame. -/
def endsFrom : Nat → List (List UInt8) → List Nat
  | _, [] => []
  | p, x :: r => (p + 8 + x.length) :: endsFrom (p + 8 + x.length) r
def scFrom : Nat → List (List UInt8) → List (List UInt8 × Nat)
  | _, [] => []
  | p, x :: r => (x, p + 8 + x.length) :: scFrom (p + 8 + x.length) r
theorem scFrom_fst (p : Nat) (ls : List (List UInt8)) : (scFrom p ls).map (·.1) = ls := by
  induction ls generalizing p with
  | nil => rfl
  | cons x r ih => simp [scFrom, ih]
theorem scFrom_length (p : Nat) (ls : List (List UInt8)) : (scFrom p ls).length = ls.length := by
  have := congrArg List.length (scFrom_fst p ls)
  simpa using this
theorem scFrom_last (p : Nat) (ls : List (List UInt8)) : ((scFrom p ls).getLast?.map (·.2)).getD p = p + (framesB ls).length := by
  induction ls generalizing p with
  | nil => simp [scFrom, framesB]
  | cons x r ih =>
    rw [framesB_cons, List.length_append, frameB_length, scFrom, List.getLast?_cons]
    have := ih (p + 8 + x.length)
    cases hg : (scFrom (p + 8 + x.length) r).getLast? with
    | none =>
      rw [hg] at this
      simp only [Option.map_none, Option.getD_none, Option.map_some, Option.getD_some] at this ⊢
      omega
    | some y =>
      rw [hg] at this
      simp only [Option.map_some, Option.getD_some] at this ⊢
      omega
theorem scFrom_last0 (ls : List (List UInt8)) : ((scFrom 0 ls).getLast?.map (·.2)).getD 0 = (framesB ls).length := by
  have := scFrom_last 0 ls; omega

/-- Nothing opens at the head of t. -/
def NoFrame (t : List UInt8) : Prop := ∀ x s, x.length ≤ 65536 → t ≠ frameB x ++ s

theorem noFrame_open {l : List UInt8} {p : Nat} (h : NoFrame (l.drop p)) : (openI l p).err ≠ 0 := by
  intro he
  have h1 := frame_of_open l p (openI l p).body (openI l p).next (by
    generalize openI l p = R at he ⊢
    obtain ⟨a, b, c⟩ := R
    simp only at he
    rw [he])
  exact h _ _ h1.1 h1.2.2.2.2

theorem scan_frames (ls : List (List UInt8)) (hs : ∀ x ∈ ls, x.length ≤ 65536) (l : List UInt8) (p : Nat) (t : List UInt8) (h : l.drop p = framesB ls ++ t) (ht : NoFrame t) : ScanOK l p (scFrom p ls) := by
  induction ls generalizing p with
  | nil => exact noFrame_open (by rw [h]; simpa [framesB] using ht)
  | cons x r ih =>
    have hx := hs x (by simp)
    rw [framesB_cons, List.append_assoc] at h
    have ho := open_of_frame l p x _ h hx
    refine ⟨ho, ih (fun y hy => hs y (by simp [hy])) _ ?_⟩
    have h2 := frame_of_open l p x _ ho
    have h3 := h2.2.2.2.2
    rw [h] at h3
    exact (List.append_cancel_left h3).symm

theorem noFrame_short (t : List UInt8) (h : t.length < 8) : NoFrame t := by
  rintro x s hx rfl
  rw [List.length_append, frameB_length] at h
  omega

theorem four_inj {a b : Nat} (ha : a < 4294967296) (hb : b < 4294967296) (h : four a = four b) : a = b := by
  have := congrArg numB h
  rwa [num_four a ha, num_four b hb] at this

/-- A proper beginning of a frame does not open. -/
theorem noFrame_cut (y : List UInt8) (hy : y.length ≤ 65536) (k : Nat) (hk : k < 8 + y.length) : NoFrame ((frameB y).take k) := by
  intro x s hx he
  have hl := congrArg List.length he
  rw [List.length_take, List.length_append, frameB_length, frameB_length] at hl
  have h4 := congrArg (List.take 4) he
  have e1 := (frame_parts x s).1
  have e2 := (frame_parts y []).1
  rw [List.append_nil] at e2
  rw [e1, List.take_take, Nat.min_eq_left (by omega), e2] at h4
  have := four_inj (by omega) (by omega) h4
  omega

theorem endsFrom_length (p : Nat) (ls : List (List UInt8)) : (endsFrom p ls).length = ls.length := by
  induction ls generalizing p with
  | nil => rfl
  | cons x r ih => simp [endsFrom, ih]
theorem endsFrom_append (p : Nat) (ls rs : List (List UInt8)) : endsFrom p (ls ++ rs) = endsFrom p ls ++ endsFrom (p + (framesB ls).length) rs := by
  induction ls generalizing p with
  | nil => simp [endsFrom, framesB]
  | cons x r ih =>
    simp only [List.cons_append, endsFrom, ih, framesB_cons, List.length_append, frameB_length]
    rw [show p + 8 + x.length + (framesB r).length = p + (8 + x.length + (framesB r).length) from by omega]
theorem endsFrom_get (p : Nat) (ls : List (List UInt8)) (i : Nat) (hi : i < ls.length) : (endsFrom p ls)[i]? = some (p + (framesB (ls.take (i + 1))).length) := by
  induction ls generalizing p i with
  | nil => simp at hi
  | cons x r ih =>
    cases i with
    | zero => simp [endsFrom, framesB, frameB_length]; omega
    | succ i =>
      simp only [endsFrom, List.getElem?_cons_succ, List.take_succ_cons, framesB_cons, List.length_append, frameB_length]
      rw [ih _ i (by simpa using hi)]
      congr 1
      omega
end Go.Proofs.Ytfacdoemgalodaa
