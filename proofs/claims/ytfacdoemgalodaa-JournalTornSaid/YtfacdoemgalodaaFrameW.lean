/-
  The walks of seal.put, get, Frame, slices.Clone at bytes, and of the reference's four, number, Copy, Frame, Same.
-/
import Derived.Test.YtfacdoemgalodaaSumW
import Derived.WalkSpells
namespace Go.Proofs.Ytfacdoemgalodaa
open Go.RowKit
set_option linter.unusedVariables false

theorem elB : El Try.prog 22 5 (.int .u8 0) 1 := ⟨Try.underlying22, by kernel_rfl, rfl⟩

/-- Four bytes, the greatest first. -/
def four (n : Nat) : List UInt8 := [UInt8.ofNat (n / 16777216), UInt8.ofNat (n / 65536), UInt8.ofNat (n / 256), UInt8.ofNat n]

/-- A result that the call owns. -/
def RetOwn (base : Nat) (t : TypeId) (k : Nat) (xs : List Value) (w : World) (row : Option Nat) (e : Ending) (w' : World) : Prop :=
  ∃ v', e = .returned v' ∧ w'.ownsRow base t 1 v' k xs ∧ w.grownBy w' row

theorem u8_ofNat_toNat (n : Nat) : ((UInt8.ofNat n).toNat : Int) = (n : Int) % 256 := by simp [UInt8.toNat_ofNat']

theorem four_cells (n : Nat) (hn : n < 4294967296) : bv (four n) = [.int .u8 ((n : Int) / 16777216), .int .u8 ((n : Int) / 65536 % 256), .int .u8 ((n : Int) / 256 % 256), .int .u8 ((n : Int) % 256)] := by
  unfold four bv bcell
  simp only [List.map_cons, List.map_nil, u8_ofNat_toNat]
  have e1 : (((n / 16777216 : Nat) : Int)) % 256 = (n : Int) / 16777216 := by omega
  have e2 : (((n / 65536 : Nat) : Int)) % 256 = (n : Int) / 65536 % 256 := by omega
  have e3 : (((n / 256 : Nat) : Int)) % 256 = (n : Int) / 256 % 256 := by omega
  rw [e1, e2, e3]

set_option maxHeartbeats 1000000 in
theorem put_any (base : Nat) (v : Value) (k : Nat) (xs : List Value) (n : Nat) (w : World) (hown : w.ownsRow base 5 1 v k xs) (hn : n < 4294967296) (hb : base ≤ w.heap.size) (hk : k ≤ 1073741824) :
    Calls Try.prog 56 #[v, .int .u32 n] w (RetOwn base 5 (k + 4) (xs ++ bv (four n)) w v.ownBlock) := by
  go_enter Try.func56, Try.ntmps56
  go_wp2_with (at_builtin; refine wpList_app _ _ elB (hown.alloc _) (Rd.new w _ _ 4 rfl (by omega)) (by simp [Value.oneCell']) (by omega) (by omega) (by simp; omega) rfl rfl rfl rfl ?_; intro v' w1 hown1 hg1 hat1)
  go_ret
  refine ⟨v', rfl, ?_, grownBy_of_alloc hg1⟩
  rw [four_cells n hn]
  exact hown1

/-- Big-endian: what 'get' reads. -/
def numB (l : List UInt8) : Nat := l.foldl (fun n c => n * 256 + c.toNat) 0
theorem numB_snoc (l : List UInt8) (c : UInt8) : numB (l ++ [c]) = numB l * 256 + c.toNat := by simp [numB]
theorem numB_lt : ∀ (l : List UInt8), numB l < 256 ^ l.length := by
  intro l
  have key : ∀ (l : List UInt8) (a : Nat), l.foldl (fun n c => n * 256 + c.toNat) a < (a + 1) * 256 ^ l.length := by
    intro l
    induction l with
    | nil => intro a; simp
    | cons c l ih =>
      intro a
      have h1 := ih (a * 256 + c.toNat)
      have hc := c.toNat_lt
      simp only [List.foldl_cons, List.length_cons]
      refine Nat.lt_of_lt_of_le h1 ?_
      rw [Nat.pow_succ, Nat.mul_comm (256 ^ l.length) 256, ← Nat.mul_assoc]
      exact Nat.mul_le_mul_right _ (by omega)
  have := key l 0
  simpa [numB] using this
theorem bits_or_shift (s : Nat) (x : UInt8) (h : s < 16777216) : bits .or .u32 ((s : Int) * 256) (x.toNat : Int) = ((s * 256 + x.toNat : Nat) : Int) := by
  have hx := x.toNat_lt
  have e : ((s : Int) * 256) = ((s * 256 : Nat) : Int) := by omega
  rw [e, u32_or_nat _ _ (by omega) (by omega), nat_join 8 _ _ (by omega) (by omega)]

set_option maxHeartbeats 1000000 in
theorem get_any (A : Option Addr) (n c : Nat) (l : List UInt8) (w : World) (h : RdB w w.heap.size A n c l) (h4 : 4 ≤ n) :
    Calls Try.prog 46 #[.slice A n c] w fun e w' => e = .returned (.int .u32 (numB (l.take 4) : Nat)) ∧ w = w' := by
  have hlen := Lib.hid h.len
  have hle := h.le
  have hmax := h.max
  go_enter Try.func46, Try.ntmps46
  go_wp2
  go_loop [2, 8] (fun t i => ∃ k : Nat, k ≤ 4 ∧ i = .int .i64 k ∧ t = .int .u32 (numB (l.take k) : Nat)) (fun _ i => 4 - (intOf i).toNat)
  case atStart => exact ⟨0, by omega, rfl, rfl⟩
  case round =>
    obtain ⟨k, hk, rfl, rfl⟩ := hrel
    by_cases hlt : k < 4
    · have hl : k < l.length := by have := hlen.out; omega
      obtain ⟨ad, rfl, hblk, hcell⟩ := h.at_ (show k < n by omega) hl
      have hs : Hid (numB (l.take (k + 1)) = numB (l.take k) * 256 + (l[k]).toNat) := by
        rw [List.take_succ_eq_append_getElem hl, numB_snoc]; exact rfl
      have hb : numB (l.take k) < 16777216 := by
        have h1 := numB_lt (l.take k)
        have h2 : (256 : Nat) ^ (l.take k).length ≤ 256 ^ 3 := Nat.pow_le_pow_right (by omega) (by rw [List.length_take]; omega)
        omega
      generalize numB (l.take k) = s at hb hs ⊢
      generalize l[k] = x at hcell hs ⊢
      have hx := x.toNat_lt
      have hu := Lib.hid (bits_or_shift s x hb)
      go_wp2
      go_round
      case rel => exact ⟨k + 1, by omega, by go_num, by rw [hs.out, hu.out]⟩
      case measure => simp [intOf]; omega
    · go_wp2
      go_ret
      exact ⟨by rw [show k = 4 from by omega]; rfl, rfl⟩

/-- A result in new memory of the call's own; nothing that was there has turned. -/
def RetNew (t : TypeId) (k : Nat) (xs : List Value) (w : World) (e : Ending) (w' : World) : Prop :=
  ∃ v', e = .returned v' ∧ w'.ownsRow w.heap.size t 1 v' k xs ∧ Below w.heap.size w w'

/-- slices.Clone: a copy of its own. -/
theorem cloneB_any (A : Option Addr) (n c : Nat) (l : List UInt8) (w : World) (h : RdB w w.heap.size A n c l) (hn : n ≤ 140737488355328) :
    Calls Try.prog 42 #[.slice A n c] w (RetNew 5 n (bv l) w) := by
  have hm := h.max
  have hl := h.len
  have he := fun (A : Option Addr) (n c : Nat) => Go.Lib.run_eql_slice_nil (P := Try.prog) w 22 5 A n c 0 0 Try.underlying22
  rcases A with _ | ad
  · have h0 : n = 0 := by
      rcases Nat.eq_zero_or_pos n with h0 | h0
      · exact h0
      · obtain ⟨ad, h', _⟩ := h.2.2.2 h0
        cases h'
    have hl0 : l = [] := List.eq_nil_of_length_eq_zero (by omega)
    have H0 := Lib.hid h0
    have HL := Lib.hid hl0
    clear h0 hl0 hl
    go_enter Try.func42, Try.ntmps42
    go_wp2
    go_ret
    refine ⟨_, rfl, ?_, Below.refl _ w⟩
    rw [H0.out, HL.out]
    exact World.ownsRow_nil w _ _ _
  · have HL := Lib.hid hl
    clear hl
    have ho : (w.alloc (.cells #[] 5)).ownsRow w.heap.size 5 1 (.slice (some ⟨w.heap.size, 0, none⟩) 0 0) 0 [] := World.ownsRow_lit w #[] 0 (Nat.le_refl _) (by unfold maxLen; omega) rfl
    go_enter Try.func42, Try.ntmps42
    go_wp2_with (at_builtin; refine wpList_app _ _ elB ho (h.alloc (Nat.le_refl _) _) (bv_one l) (by omega) (by omega) (by simp) rfl rfl rfl rfl ?_; intro v' w1 hown1 hg1 hat1)
    go_ret
    simp only [Nat.zero_add, List.nil_append] at hown1
    exact ⟨v', rfl, hown1, below_of_alloc_grown hg1 (fun g hg => by cases hg; exact Nat.le_refl _)⟩

/-- The reference's Copy. -/
theorem rcopy_any (A : Option Addr) (n c : Nat) (l : List UInt8) (w : World) (h : RdB w w.heap.size A n c l) (hn : n ≤ 140737488355328) :
    Calls Try.prog 70 #[.slice A n c] w (RetNew 5 n (bv l) w) := by
  have hm := h.max
  have ho : w.ownsRow w.heap.size 5 1 (.slice none 0 0) 0 [] := World.ownsRow_nil w _ _ _
  go_enter Try.func70, Try.ntmps70
  go_wp2_with (at_builtin; refine wpList_app _ _ elB ho h (bv_one l) (by omega) (by omega) (by simp) rfl rfl rfl rfl ?_; intro v' w1 hown1 hg1 hat1)
  go_ret
  simp only [Nat.zero_add, List.nil_append] at hown1
  exact ⟨v', rfl, hown1, below_of_grown hg1 (Nat.le_refl _) (fun g hg => by cases hg)⟩

/-- A frame's bytes. -/
def frameB (l : List UInt8) : List UInt8 := four l.length ++ four (Crc.crc l) ++ l
theorem four_length (n : Nat) : (four n).length = 4 := rfl
theorem frameB_length (l : List UInt8) : (frameB l).length = 8 + l.length := by simp [frameB, four_length]; omega

/-- What Frame answers. -/
def FramePost (l : List UInt8) (w : World) (e : Ending) (w' : World) : Prop :=
  (65536 < l.length ∧ e = .returned (.tuple #[.slice none 0 0, .int .i64 2]) ∧ Below w.heap.size w w') ∨
  (l.length ≤ 65536 ∧ ∃ v', e = .returned (.tuple #[v', .int .i64 0]) ∧ w'.ownsRow w.heap.size 5 1 v' (8 + l.length) (bv (frameB l)) ∧ Below w.heap.size w w')

set_option maxRecDepth 100000 in
set_option maxHeartbeats 4000000 in
theorem frame_any (A : Option Addr) (n c : Nat) (l : List UInt8) (w : World) (h : RdB w w.heap.size A n c l) :
    Calls Try.prog 40 #[.slice A n c] w (FramePost l w) := by
  have hm := h.max
  have hlen := h.len
  have hle := h.le
  by_cases hbig : 65536 < n
  · have HL := Lib.hid hlen
    clear hlen
    go_enter Try.func40, Try.ntmps40
    go_wp2
    go_ret2
    exact .inl ⟨by rw [HL.out]; exact hbig, rfl, Below.refl _ _⟩
  · obtain ⟨i0, hi, hz0, hz1, hz2⟩ := info_parts elB.i
    have HL := Lib.hid hlen
    have H2 := Lib.hid hz2
    clear hlen hz2
    go_enter Try.func40, Try.ntmps40
    go_wp2_with (first
      | (at_make; refine wpList_make_own _ rfl _ _ 22 rfl w.heap.size 5 i0 (.int .u8 0) 1 Try.underlying22 hi hz0 hz1 _ _ _ (8 + n) rfl rfl (by omega) (by rw [H2.out]; omega) (by unfold maxLen; omega) (Nat.le_refl _) ?_; intro w1 hown1 hg1))
    have hb1 : Below w.heap.size w w1 := below_of_grown hg1 (Nat.le_refl _) (fun g hg => by cases hg)
    refine (put_any w.heap.size _ 0 [] n w1 hown1 (by omega) hb1.size (by omega)).mono ?_
    rintro e w2 ⟨v2, rfl, hown2, hg2⟩
    have hb2 : Below w.heap.size w w2 := hb1.grown hg2 hb1.size (own_lt hown1)
    clear hg1 hg2 hown1
    simp only [Nat.zero_add, List.nil_append] at hown2
    go_wp2_with fail
    refine (sum_any A n c l w2 ((h.below hb2).more hb2.size)).mono ?_
    rintro e w3 ⟨rfl, hb3⟩
    have hown3 := own_below hown2 hb3
    have hb3' : Below w.heap.size w w3 := hb2.trans (hb3.mono hb2.size)
    clear hown2
    have hc := Crc.crc_lt l
    go_wp2_with fail
    refine (put_any w.heap.size v2 4 _ (Crc.crc l) w3 hown3 hc hb3'.size (by omega)).mono ?_
    rintro e w4 ⟨v4, rfl, hown4, hg4⟩
    have hb4 : Below w.heap.size w w4 := hb3'.grown hg4 hb3'.size (own_lt hown3)
    clear hown3 hg4 hb3 hb3' hb2 hb1
    go_wp2_with (at_builtin; refine wpList_app _ _ elB hown4 (h.below hb4) (bv_one l) (by omega) (by omega) hb4.size rfl rfl rfl rfl ?_; intro v' w5 hown5 hg5 hat5)
    go_ret2
    have hb5 : Below w.heap.size w w5 := hb4.grown hg5 hb4.size (own_lt hown4)
    refine .inr ⟨by rw [HL.out]; omega, v', rfl, ?_, hb5⟩
    rw [HL.out]
    have e : bv (frameB l) = bv (four n) ++ bv (four (Crc.crc l)) ++ bv l := by rw [← HL.out]; simp [frameB, bv_append]
    rw [e]
    exact hown5
end Go.Proofs.Ytfacdoemgalodaa
