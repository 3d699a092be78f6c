/-
  Slices of integers; PutInts, PutText; Ints.
-/
import Derived.Test.YtgklnkholflabaaIterW
import Derived.Lib.AppendStr
namespace Go.Proofs.Ytgklnkholflabaa
open Go.RowKit
set_option linter.unusedVariables false
set_option linter.unusedSimpArgs false

def iv (l : List Int) : List Value := l.map (Value.int .i64)
def okIs (l : List Int) : Prop := ∀ z ∈ l, -9223372036854775808 ≤ z ∧ z ≤ 9223372036854775807
theorem iv_one (l : List Int) : ∀ u ∈ iv l, u.oneCell' = true := by
  intro u hu
  simp only [iv, List.mem_map] at hu
  obtain ⟨c, _, rfl⟩ := hu
  rfl
theorem iv_append (l r : List Int) : iv (l ++ r) = iv l ++ iv r := List.map_append
theorem iv_length (l : List Int) : (iv l).length = l.length := List.length_map _
def RdI (w : World) (B : Nat) (A : Option Addr) (n c : Nat) (l : List Int) : Prop := Rd w B A n c (iv l) ∧ okIs l
section
variable {w w' : World} {B B' : Nat} {A : Option Addr} {n c : Nat} {l : List Int}
theorem RdI.below (h : RdI w B A n c l) (hb : Below B w w') : RdI w' B A n c l := ⟨h.1.below hb, h.2⟩
theorem RdI.more (h : RdI w B A n c l) (hB : B ≤ B') : RdI w B' A n c l := ⟨h.1.more hB, h.2⟩
theorem RdI.drewN (h : RdI w B A n c l) (m : Nat) : RdI (w.drewN m) B A n c l := h
theorem RdI.len (h : RdI w B A n c l) : l.length = n := by have := h.1.len; rwa [iv_length] at this
theorem RdI.le (h : RdI w B A n c l) : n ≤ c := h.1.le
theorem RdI.max (h : RdI w B A n c l) : c ≤ 9223372036854775807 := h.1.max
theorem RdI.nil (w : World) (B : Nat) : RdI w B none 0 0 [] := ⟨Rd.nil w B, by simp [okIs]⟩
theorem RdI.at_ (h : RdI w B A n c l) {k : Nat} (hk : k < n) (hl : k < l.length) : ∃ ad, A = some ad ∧ ad.block < B ∧ w.cell? (ad.add k) = some (.int .i64 l[k]) ∧ -9223372036854775808 ≤ l[k] ∧ l[k] ≤ 9223372036854775807 := by
  obtain ⟨ad, u, e, hb, hu, hc⟩ := h.1.at_ hk
  refine ⟨ad, e, hb, hc.trans ?_, h.2 _ (List.getElem_mem hl)⟩
  rw [← hu]; simp [iv, hl]
theorem own_rdI {base : Nat} {e : TypeId} {v : Value} (h : w.ownsRow base e 1 v n (iv l)) (hok : okIs l) : ∃ A c, v = .slice A n c ∧ RdI w w.heap.size A n c l := by
  obtain ⟨A, c, h1, h2⟩ := own_rd h
  exact ⟨A, c, h1, h2, hok⟩
end
theorem elI : El Try.prog 34 3 (.int .i64 0) 8 := ⟨Try.underlying34, by kernel_rfl, rfl⟩

/-- The bytes of a slice of integers. -/
def Vi.putL (xs : List Int) : List UInt8 := Vi.putI xs.length ++ xs.flatMap Vi.putI
theorem putI_len {n : Int} (h : -9223372036854775808 ≤ n ∧ n ≤ 9223372036854775807) : (Vi.putI n).length ≤ 10 := Vi.enc_len10 (Vi.zig_lt h)
theorem flat_len {xs : List Int} (h : okIs xs) : (xs.flatMap Vi.putI).length ≤ 10 * xs.length := by
  induction xs with
  | nil => simp
  | cons x r ih =>
    have h1 := putI_len (h x (List.mem_cons_self ..))
    have h2 := ih (fun z hz => h z (List.mem_cons_of_mem _ hz))
    rw [List.flatMap_cons, List.length_append, List.length_cons]
    omega
theorem okIs_take {xs : List Int} (h : okIs xs) (k : Nat) : okIs (xs.take k) := fun z hz => h z (List.mem_of_mem_take hz)

set_option maxHeartbeats 1000000 in
theorem putInts_any (A : Option Addr) (m c : Nat) (l : List UInt8) (A' : Option Addr) (n c' : Nat) (xs : List Int) (w : World) (h : RdB w w.heap.size A m c l) (h' : RdI w w.heap.size A' n c' xs) (hm : m ≤ 1073741824) (hn : n ≤ 1073741824) :
    Calls Try.prog 23 #[.slice A m c, .slice A' n c'] w (RetNew 5 (m + (Vi.putL xs).length) (bv (l ++ Vi.putL xs)) w) := by
  have h1 := h'.max
  have h2 := h'.le
  have hlen := Lib.hid h'.len
  have hI := putI_len (n := (n : Int)) (by omega)
  obtain ⟨P, hP⟩ : ∃ P, P = Vi.putI (n : Int) := ⟨_, rfl⟩
  have HP : Hid (Vi.putL xs = P ++ xs.flatMap Vi.putI) := by show Vi.putL xs = _; unfold Vi.putL; rw [hlen.out, hP]
  go_enter Try.func23, Try.ntmps23
  go_wp2_with fail
  refine (putInt_any A m c l (n : Int) w h (by omega) (by omega)).mono ?_
  rintro e w1 ⟨v, rfl, hown, hb⟩
  rw [← hP] at hown hI
  clear hP
  go_wp2_with fail
  go_loopw [0, 13] (fun v i wr => ∃ k : Nat, k ≤ n ∧ i = .int .i64 k ∧ wr.ownsRow w.heap.size 5 1 v (m + P.length + ((xs.take k).flatMap Vi.putI).length) (bv (l ++ P ++ (xs.take k).flatMap Vi.putI)) ∧ Below w.heap.size w wr) (fun _ i _ => n - (intOf i).toNat)
  case atStart => exact ⟨0, by omega, rfl, by simpa [Nat.add_assoc] using hown, hb⟩
  case round =>
    obtain ⟨k, hk, rfl, hown', hb'⟩ := hrel
    clear hown hb
    have hfl := flat_len (okIs_take h'.2 k)
    rw [List.length_take, hlen.out] at hfl
    by_cases hkn : k < n
    · have d1 : decide ((k : Int) < (n : Int)) = true := by simp; omega
      have hkl : k < xs.length := by rw [hlen.out]; exact hkn
      obtain ⟨ad, rfl, hab, c1, o1, o2⟩ := (h'.below hb').at_ hkn hkl
      have HT : Hid ((xs.take (k + 1)).flatMap Vi.putI = (xs.take k).flatMap Vi.putI ++ Vi.putI xs[k]) := by
        show List.flatMap _ _ = _
        rw [List.take_succ_eq_append_getElem hkl, List.flatMap_append]
        simp
      generalize xs[k] = z at *
      obtain ⟨Q, hQ⟩ : ∃ Q, Q = (xs.take k).flatMap Vi.putI := ⟨_, rfl⟩
      rw [← hQ] at hown' HT hfl
      clear hQ
      obtain ⟨A5, k5, rfl, _⟩ := own_rdB hown'
      have hbs := hb'.size
      go_wp2_with fail
      refine (groups_any z wr ⟨o1, o2⟩).mono ?_
      rintro e w2 ⟨rfl, hw2⟩
      have y1 : Boxed w2 wr.heap.size 45 (.int .u64 (Vi.zig z : Int)) := by rw [hw2]; exact Boxed.new _ _ _
      have y2 : w2.ownsRow w.heap.size 5 1 (.slice A5 (m + P.length + Q.length) k5) (m + P.length + Q.length) (bv (l ++ P ++ Q)) := by rw [hw2]; exact hown'.alloc _
      have y3 : Below w.heap.size w w2 := by rw [hw2]; exact hb'.alloc hb'.size _
      have y4 : w.heap.size ≤ w2.heap.size := y3.size
      have hz64 := Vi.zig_lt ⟨o1, o2⟩
      have HZ : Hid (Vi.putI z = Vi.enc (Vi.zig z)) := rfl
      clear hw2 hown' hb'
      generalize Vi.zig z = Z at *
      go_wp2_with fail
      refine (appSeq_any A5 (m + P.length + Q.length) k5 (l ++ P ++ Q) Z w.heap.size wr.heap.size w2 y2 y1 y4 hbs (by omega) hz64).mono ?_
      rintro e w3 ⟨v3, rfl, hown3, hb3⟩
      go_wp2
      go_roundw
      case rel =>
        refine ⟨k + 1, by omega, by go_num, ?_, y3.trans hb3⟩
        rw [HT.out, HZ.out, List.length_append, ← List.append_assoc, ← Nat.add_assoc]
        exact hown3
      case measure => simp [intOf]; omega
    · obtain rfl : k = n := by omega
      have d1 : decide ((k : Int) < (k : Int)) = false := by simp
      go_wp2_with fail
      go_ret
      refine ⟨_, rfl, ?_, hb'⟩
      rw [List.take_of_length_le (by rw [hlen.out]; omega)] at hown'
      rw [HP.out, List.length_append, ← List.append_assoc, ← Nat.add_assoc]
      exact hown'

set_option maxHeartbeats 1000000 in
theorem rputInts_any (A : Option Addr) (m c : Nat) (l : List UInt8) (A' : Option Addr) (n c' : Nat) (xs : List Int) (w : World) (h : RdB w w.heap.size A m c l) (h' : RdI w w.heap.size A' n c' xs) (hm : m ≤ 1073741824) (hn : n ≤ 1073741824) :
    Calls Try.prog 24 #[.slice A m c, .slice A' n c'] w (RetNew 5 (m + (Vi.putL xs).length) (bv (l ++ Vi.putL xs)) w) := by
  have h1 := h'.max
  have h2 := h'.le
  have hlen := Lib.hid h'.len
  have hI := putI_len (n := (n : Int)) (by omega)
  obtain ⟨P, hP⟩ : ∃ P, P = Vi.putI (n : Int) := ⟨_, rfl⟩
  have HP : Hid (Vi.putL xs = P ++ xs.flatMap Vi.putI) := by show Vi.putL xs = _; unfold Vi.putL; rw [hlen.out, hP]
  go_enter Try.func24, Try.ntmps24
  go_wp2_with fail
  refine (rputInt_any A m c l (n : Int) w h (by omega) (by omega)).mono ?_
  rintro e w1 ⟨v, rfl, hown, hb⟩
  rw [← hP] at hown hI
  clear hP
  go_wp2_with fail
  go_loopw [5, 6] (fun v i wr => ∃ k : Nat, k ≤ n ∧ i = .int .i64 k ∧ wr.ownsRow w.heap.size 5 1 v (m + P.length + ((xs.take k).flatMap Vi.putI).length) (bv (l ++ P ++ (xs.take k).flatMap Vi.putI)) ∧ Below w.heap.size w wr) (fun _ i _ => n - (intOf i).toNat)
  case atStart => exact ⟨0, by omega, rfl, by simpa [Nat.add_assoc] using hown, hb⟩
  case round =>
    obtain ⟨k, hk, rfl, hown', hb'⟩ := hrel
    clear hown hb
    have hfl := flat_len (okIs_take h'.2 k)
    rw [List.length_take, hlen.out] at hfl
    by_cases hkn : k < n
    · have d1 : decide ((k : Int) < (n : Int)) = true := by simp; omega
      have hkl : k < xs.length := by rw [hlen.out]; exact hkn
      obtain ⟨ad, rfl, hab, c1, o1, o2⟩ := (h'.below hb').at_ hkn hkl
      have HT : Hid ((xs.take (k + 1)).flatMap Vi.putI = (xs.take k).flatMap Vi.putI ++ Vi.putI xs[k]) := by
        show List.flatMap _ _ = _
        rw [List.take_succ_eq_append_getElem hkl, List.flatMap_append]
        simp
      generalize xs[k] = z at *
      obtain ⟨Q, hQ⟩ : ∃ Q, Q = (xs.take k).flatMap Vi.putI := ⟨_, rfl⟩
      rw [← hQ] at hown' HT hfl
      clear hQ
      obtain ⟨A5, k5, rfl, r5⟩ := own_rdB hown'
      have hbs := hb'.size
      go_wp2_with fail
      refine (rputInt_any A5 (m + P.length + Q.length) k5 (l ++ P ++ Q) z wr r5 (by omega) ⟨o1, o2⟩).mono ?_
      rintro e w3 ⟨v3, rfl, hown3, hb3⟩
      generalize Vi.putI z = R at *
      go_wp2
      go_roundw
      case rel =>
        refine ⟨k + 1, by omega, by go_num, ?_, hb'.trans (hb3.mono hbs)⟩
        rw [HT.out, List.length_append, ← List.append_assoc, ← Nat.add_assoc]
        exact own_mono hown3 hbs
      case measure => simp [intOf]; omega
    · obtain rfl : k = n := by omega
      have d1 : decide ((k : Int) < (k : Int)) = false := by simp
      go_wp2_with fail
      go_ret
      refine ⟨_, rfl, ?_, hb'⟩
      rw [List.take_of_length_le (by rw [hlen.out]; omega)] at hown'
      rw [HP.out, List.length_append, ← List.append_assoc, ← Nat.add_assoc]
      exact hown'

/-- The bytes of a string. -/
def Vi.putS (s : List UInt8) : List UInt8 := Vi.putI s.length ++ s
theorem strCells_bv (s : ByteArray) : Lib.strCells s = bv s.data.toList := rfl
theorem infoU8 : ∃ i, Try.prog.info? 5 = some i ∧ i.zero = some (.int .u8 0) ∧ i.size = 1 ∧ i.bytes = 1 := by
  obtain ⟨i, hi, hz0, hz1, hz2⟩ := info_parts elB.i
  exact ⟨i, hi, hz0, hz1, hz2⟩

set_option maxHeartbeats 1000000 in
theorem putText_any (A : Option Addr) (m c : Nat) (l : List UInt8) (s : ByteArray) (w : World) (h : RdB w w.heap.size A m c l) (hm : m ≤ 1073741824) (hs : s.size ≤ 1073741824) :
    Calls Try.prog 19 #[.slice A m c, .string s] w (RetNew 5 (m + (Vi.putS s.data.toList).length) (bv (l ++ Vi.putS s.data.toList)) w) := by
  obtain ⟨i0, hi, hz0, hz1, hz2⟩ := infoU8
  have HI := Lib.hid hi
  have HZ0 := Lib.hid hz0
  have HZ1 := Lib.hid hz1
  have HZ2 := Lib.hid hz2
  clear hi hz0 hz1 hz2
  have hI := putI_len (n := (s.size : Int)) (by omega)
  obtain ⟨P, hP⟩ : ∃ P, P = Vi.putI (s.size : Int) := ⟨_, rfl⟩
  have HP : Hid (Vi.putS s.data.toList = P ++ s.data.toList) := by show Vi.putS _ = _; unfold Vi.putS; rw [hP]; rfl
  go_enter Try.func19, Try.ntmps19
  go_wp2_with fail
  refine (putInt_any A m c l (s.size : Int) w h (by omega) (by omega)).mono ?_
  rintro e w1 ⟨v, rfl, hown, hb⟩
  rw [← hP] at hown hI
  clear hP
  have hbs := hb.size
  have hx : m + P.length + s.size ≤ 140737488355328 := by omega
  have hx' : m + P.length + s.size ≤ maxLen := by unfold maxLen; omega
  obtain ⟨A5, k5, rfl, r5⟩ := own_rdB hown
  go_wp2_with (at_builtin; refine Lib.wpList_append_own_string _ rfl _ _ 22 9 rfl w.heap.size 5 i0 Try.underlying22 Try.underlying9 HI.out HZ0.out HZ1.out HZ2.out _ _ _ rfl hown s rfl hx' hx hbs ?_; intro v2 w2 hown2 hg2 hat2)
  go_ret
  refine ⟨v2, rfl, ?_, hb.grown hg2 hb.size (own_lt hown)⟩
  rw [HP.out, List.length_append, ← List.append_assoc, ← Nat.add_assoc, bv_append _ s.data.toList]
  exact hown2
set_option maxHeartbeats 1000000 in
theorem rputText_any (A : Option Addr) (m c : Nat) (l : List UInt8) (s : ByteArray) (w : World) (h : RdB w w.heap.size A m c l) (hm : m ≤ 1073741824) (hs : s.size ≤ 1073741824) :
    Calls Try.prog 20 #[.slice A m c, .string s] w (RetNew 5 (m + (Vi.putS s.data.toList).length) (bv (l ++ Vi.putS s.data.toList)) w) := by
  obtain ⟨i0, hi, hz0, hz1, hz2⟩ := infoU8
  have HI := Lib.hid hi
  have HZ0 := Lib.hid hz0
  have HZ1 := Lib.hid hz1
  have HZ2 := Lib.hid hz2
  clear hi hz0 hz1 hz2
  have hI := putI_len (n := (s.size : Int)) (by omega)
  obtain ⟨P, hP⟩ : ∃ P, P = Vi.putI (s.size : Int) := ⟨_, rfl⟩
  have HP : Hid (Vi.putS s.data.toList = P ++ s.data.toList) := by show Vi.putS _ = _; unfold Vi.putS; rw [hP]; rfl
  go_enter Try.func20, Try.ntmps20
  go_wp2_with fail
  refine (rputInt_any A m c l (s.size : Int) w h (by omega) (by omega)).mono ?_
  rintro e w1 ⟨v, rfl, hown, hb⟩
  rw [← hP] at hown hI
  clear hP
  have hbs := hb.size
  have hx : m + P.length + s.size ≤ 140737488355328 := by omega
  have hx' : m + P.length + s.size ≤ maxLen := by unfold maxLen; omega
  obtain ⟨A5, k5, rfl, r5⟩ := own_rdB hown
  go_wp2_with (at_builtin; refine Lib.wpList_append_own_string _ rfl _ _ 22 9 rfl w.heap.size 5 i0 Try.underlying22 Try.underlying9 HI.out HZ0.out HZ1.out HZ2.out _ _ _ rfl hown s rfl hx' hx hbs ?_; intro v2 w2 hown2 hg2 hat2)
  go_ret
  refine ⟨v2, rfl, ?_, hb.grown hg2 hb.size (own_lt hown)⟩
  rw [HP.out, List.length_append, ← List.append_assoc, ← Nat.add_assoc, bv_append _ s.data.toList]
  exact hown2
end Go.Proofs.Ytgklnkholflabaa
