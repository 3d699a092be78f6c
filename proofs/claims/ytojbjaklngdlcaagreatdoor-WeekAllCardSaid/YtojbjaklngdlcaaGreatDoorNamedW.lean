/-
  The walk of school.named.
-/
import Derived.Test.YtojbjaklngdlcaaGreatDoorSchP
import Derived.Test.YtojbjaklngdlcaaGreatDoorLotA
import Derived.Test.YtojbjaklngdlcaaGreatDoorShelf
import Derived.Laws.RangeAny
import Derived.Laws.EntriesVeiled
import Derived.Laws.Closers25
namespace Go.Proofs.YtojbjaklngdlcaaGreatDoor
open Go.RowKit Go.Shelf
set_option linter.unusedVariables false
set_option linter.unusedSimpArgs false

/-- A bool, and what it tells. -/
def Tells (p : Prop) (w : World) (e : Ending) (w' : World) : Prop := ∃ b, e = .returned (.bool b) ∧ (b = true ↔ p) ∧ Below w.heap.size w w'

namespace Sc
/-- The letters of a name, as runes. -/
def innerR (r : Nat) : Bool := (decide (97 ≤ r) && decide (r ≤ 122)) || ((decide (48 ≤ r) && decide (r ≤ 57)) || decide (r = 95))
theorem innerR_high {r : Nat} (h : 128 ≤ r) : innerR r = false := by
  unfold innerR
  simp only [Bool.or_eq_false_iff, Bool.and_eq_false_iff, decide_eq_false_iff_not]
  omega
theorem idx_iff (p : Nat → Bool) (hp : ∀ r, 128 ≤ r → p r = true) (s : ByteArray) : ∀ (f pos : Nat), s.size - pos ≤ f → (0 ≤ Lib.idxFuncFrom p true s f pos ↔ ∃ (j : Nat) (h : j < s.size), pos ≤ j ∧ p (s[j]'h).toNat = true)
  | 0, pos, hf => by
    unfold Lib.idxFuncFrom
    constructor
    · intro h; omega
    · rintro ⟨j, h, h1, _⟩; omega
  | f + 1, pos, hf => by
    unfold Lib.idxFuncFrom
    by_cases hpos : pos < s.size
    · rw [if_pos hpos]
      by_cases hc : (s[pos]'hpos).toNat < 128
      · rw [decode_ascii s pos hpos hc]
        dsimp only
        by_cases hq : p (s[pos]'hpos).toNat = true
        · rw [if_pos hq]
          exact ⟨fun _ => ⟨pos, hpos, Nat.le_refl _, hq⟩, fun _ => by omega⟩
        · rw [if_neg hq, idx_iff p hp s f (pos + 1) (by omega)]
          constructor
          · rintro ⟨j, h, h1, h2⟩; exact ⟨j, h, by omega, h2⟩
          · rintro ⟨j, h, h1, h2⟩
            refine ⟨j, h, ?_, h2⟩
            rcases Nat.lt_or_ge pos j with h3 | h3
            · exact h3
            · obtain rfl : j = pos := by omega
              exact absurd h2 hq
      · have hh := decode_high s pos hpos (by omega)
        rw [if_pos (hp _ hh.1)]
        exact ⟨fun _ => ⟨pos, hpos, Nat.le_refl _, hp _ (by omega)⟩, fun _ => by omega⟩
    · rw [if_neg hpos]
      constructor
      · intro h; omega
      · rintro ⟨j, h, h1, _⟩; omega
theorem odd_iff (s : List UInt8) : 0 ≤ Lib.idxFunc (fun r => !innerR r) true (strOf s) ↔ ¬ ∀ c ∈ s, inner c = true := by
  unfold Lib.idxFunc
  rw [idx_iff _ (fun r hr => by rw [innerR_high hr]; rfl) (strOf s) _ 0 (by omega)]
  constructor
  · rintro ⟨j, h, _, h2⟩ hall
    have hj : j < s.length := h
    have := hall s[j] (List.getElem_mem hj)
    have e : ((strOf s)[j]'h) = s[j] := rfl
    rw [e] at h2
    unfold inner at this
    unfold innerR at h2
    rw [this] at h2
    cases h2
  · intro h
    obtain ⟨c, hc⟩ := Classical.not_forall.1 h
    obtain ⟨hm, hi⟩ := Classical.not_imp.1 hc
    obtain ⟨j, hj, rfl⟩ := List.getElem_of_mem hm
    refine ⟨j, hj, Nat.zero_le _, ?_⟩
    have e : ((strOf s)[j]'hj) = s[j] := rfl
    rw [e]
    have : innerR s[j].toNat = false := by simpa [inner, innerR] using hi
    rw [this]; rfl
theorem occ_iff {l x : List UInt8} {i : Nat} : Lib.occAt l x i = true ↔ (l.drop i).take x.length = x := by
  unfold Lib.occAt
  rw [List.isPrefixOf_iff_prefix, List.prefix_iff_eq_take]
  exact eq_comm
theorem contains_iff {l x : List UInt8} (hx : x ≠ []) : Lib.contains l x = true ↔ standsIn l x := by
  unfold Lib.contains
  rw [decide_eq_true_eq]
  have hpos : 0 < x.length := List.length_pos_iff.2 hx
  rcases Lib.index_spec l x with ⟨h1, h2⟩ | ⟨i, h1, h2, h3, h4⟩
  · constructor
    · intro h; omega
    · rintro ⟨i, hi, he⟩
      have := h2 i (by omega)
      rw [occ_iff.2 he] at this
      cases this
  · rw [h1]
    refine ⟨fun _ => ⟨i, ?_, occ_iff.1 h3⟩, fun _ => by omega⟩
    have h5 := occ_iff.1 h3
    have := congrArg List.length h5
    rw [List.length_take, List.length_drop] at this
    omega
end Sc

set_option maxRecDepth 100000 in
set_option maxHeartbeats 2000000 in
theorem named1_gives (r : Nat) (W : World) : Calls Tryz.prog 73 #[.int .i32 (r : Int)] W fun e w' => e = .returned (.bool (Sc.innerR r)) ∧ w' = W := by
  have e1 : decide ((97 : Int) ≤ (r : Int)) = decide (97 ≤ r) := by congr 1; simp only [eq_iff_iff]; omega
  have e2 : decide ((r : Int) ≤ 122) = decide (r ≤ 122) := by congr 1; simp only [eq_iff_iff]; omega
  have e3 : decide ((48 : Int) ≤ (r : Int)) = decide (48 ≤ r) := by congr 1; simp only [eq_iff_iff]; omega
  have e4 : decide ((r : Int) ≤ 57) = decide (r ≤ 57) := by congr 1; simp only [eq_iff_iff]; omega
  have e5 : ((r : Int) == 95) = decide (r = 95) := by rw [Bool.eq_iff_iff]; simp; omega
  unfold Sc.innerR
  generalize decide (97 ≤ r) = b1 at *
  generalize decide (r ≤ 122) = b2 at *
  generalize decide (48 ≤ r) = b3 at *
  generalize decide (r ≤ 57) = b4 at *
  generalize decide (r = 95) = b5 at *
  cases b1 <;> cases b2 <;> cases b3 <;> cases b4 <;> cases b5 <;>
    (go_enter Tryz.func73, Tryz.ntmps73
     go_wp2
     go_ret
     exact ⟨rfl, rfl⟩)

theorem named2_pred (B : Nat) (w : World) (hb : w.heap[B]? = some (.cells #[.func (.func 73) #[] #[]] 129)) : PredAt Tryz.prog 74 #[.pointer (some ⟨B, 0, none⟩)] encR (fun r => !Sc.innerR r) w := by
  intro W r hW
  have hc : W.cell? ⟨B, 0, none⟩ = some (.func (.func 73) #[] #[]) := (hW.cell (p := ⟨B, 0, none⟩) (blk_lt hb)).trans (blk_cell hb)
  unfold FnGives encR
  go_enter Tryz.func74, Tryz.ntmps74
  go_wp2_with fail
  refine (named1_gives r _).mono ?_
  rintro e w' ⟨rfl, rfl⟩
  go_wp2
  go_ret
  exact ⟨rfl, 0, rfl⟩

theorem res_eq : (⟨(([32, 104, 97, 114, 100, 32, 115, 111, 102, 116, 32, 101, 97, 99, 104, 32, 97, 108, 108, 32, 115, 111, 109, 101, 32, 108, 101, 97, 115, 116, 32, 109, 111].append [115, 116, 32, 116, 114, 117, 101, 32, 102, 97, 108, 115, 101, 32, 97, 116, 32, 105, 110, 32, 116, 101, 97, 99, 104, 101, 115, 32, 97, 116, 116, 101, 110, 100]).append ([115, 32, 97, 119, 97, 121, 32, 115, 104, 117, 116, 32, 100, 97, 121, 32, 104, 111, 117, 114, 32, 104, 111, 117, 115, 101, 32, 115, 101, 97, 116, 115, 32, 115].append [105, 122, 101, 32, 108, 101, 115, 115, 111, 110, 32, 115, 108, 111, 116, 32, 114, 111, 111, 109, 32, 112, 101, 114, 115, 111, 110, 32, 103, 114, 111, 117, 112, 32])).toArray⟩ : ByteArray) = strOf Sc.reserved := rfl

theorem cat_eq (s : List UInt8) : ((⟨#[32]⟩ : ByteArray) ++ strOf s ++ ⟨#[32]⟩) = strOf (32 :: (s ++ [32])) := by
  apply ByteArray.ext
  rw [ByteArray.data_append, ByteArray.data_append]
  simp [strOf]
theorem empty_iff (s : List UInt8) : (strOf s).toList.isEmpty = s.isEmpty := by
  rw [← decide_eq_emptyBytes, Bool.eq_iff_iff, decide_eq_true_iff, List.isEmpty_iff]
  exact ⟨fun h => strOf_inj.1 h, fun h => by rw [h]; rfl⟩

set_option maxRecDepth 100000 in
set_option maxHeartbeats 4000000 in
theorem named_any (s : List UInt8) (m : Int) (w : World) (hm : w.cell? ⟨0, 0, none⟩ = some (.int .i64 m)) (hs : s.length ≤ 9223372036854775807) :
    Calls Tryz.prog 43 #[.string (strOf s)] w (Tells (Sc.nameOk s) w) := by
  have hbt := Below.refl w.heap.size w
  obtain ⟨V1, hV⟩ : ∃ V1, V1 = w.alloc (.cells #[.func (.func 73) #[] #[]] 129) := ⟨_, rfl⟩
  have b1 := blk_new hV
  have hb := below_new hV
  have HV := Lib.hid hV.symm
  clear hV
  have hm1 : V1.cell? ⟨0, 0, none⟩ = some (.int .i64 m) := (hb.cell (World.block_lt_of_cell? _ _ hm)).trans hm
  have done : ∀ (W : World) (b : Bool), (b = true ↔ Sc.nameOk s) → Below w.heap.size w W → Tells (Sc.nameOk s) w (.returned (.bool b)) W := fun W b h1 h2 => ⟨b, rfl, h1, h2⟩
  have hsz : Hid ((strOf s).size = s.length) := rfl
  by_cases h0 : s = []
  · have d0 : (strOf s).toList.isEmpty = true := by rw [empty_iff, h0]; rfl
    have hno : ¬ Sc.nameOk s := fun h => by obtain ⟨⟨c, r, e, _⟩, _⟩ := h; rw [h0] at e; cases e
    clear h0
    go_enter Tryz.func43, Tryz.ntmps43
    go_wp2_with fail
    rw [HV.out]
    go_ret
    exact done _ _ ⟨(fun h => by cases h), fun h => absurd h hno⟩ hb
  · obtain ⟨c, r, hcr⟩ : ∃ c r, s = c :: r := by
      cases s with
      | nil => exact absurd rfl h0
      | cons c r => exact ⟨c, r, rfl⟩
    have d0 : (strOf s).toList.isEmpty = false := by rw [empty_iff, hcr]; rfl
    have hpos : 0 < (strOf s).size := by rw [hsz.out, hcr]; simp
    have e0 : Hid ((strOf s)[0] = c) := by subst hcr; rfl
    have HCR := Lib.hid hcr
    clear hcr h0
    by_cases h1 : 64 < s.length
    · have d1 : decide (64 < ((strOf s).size : Int)) = true := by rw [hsz.out]; simp; omega
      have hno : ¬ Sc.nameOk s := fun h => by have := h.2.1; omega
      go_enter Tryz.func43, Tryz.ntmps43
      go_wp2_with fail
      rw [HV.out]
      go_ret
      exact done _ _ ⟨(fun h => by cases h), fun h => absurd h hno⟩ hb
    · have d1 : decide (64 < ((strOf s).size : Int)) = false := by rw [hsz.out]; simp; omega
      by_cases h2 : c.toNat < 97
      · have d2 : decide (((strOf s)[0].toNat : Int) < 97) = true := by rw [e0.out]; simp; omega
        have hno : ¬ Sc.nameOk s := fun h => by
          obtain ⟨⟨c', r', e, hc⟩, _⟩ := h
          rw [HCR.out] at e
          injection e with e1
          subst e1
          omega
        go_enter Tryz.func43, Tryz.ntmps43
        go_wp2_with fail
        rw [HV.out]
        go_ret
        exact done _ _ ⟨(fun h => by cases h), fun h => absurd h hno⟩ hb
      · have d2 : decide (((strOf s)[0].toNat : Int) < 97) = false := by rw [e0.out]; simp; omega
        have hp := named2_pred w.heap.size V1 b1
        have HC := Lib.hid (Tryz.strings_ContainsFunc 74 #[.pointer (some ⟨w.heap.size, 0, none⟩)] (enters_of Tryz.func74 (by kernel_rfl) rfl) _ (strOf s) V1 hp)
        clear hp
        go_enter Tryz.func43, Tryz.ntmps43
        go_wp2_with fail
        rw [HV.out]
        refine HC.out.mono ?_
        rintro e w2 ⟨rfl, hb2⟩
        have hm2 : w2.cell? ⟨0, 0, none⟩ = some (.int .i64 m) := (hb2.cell (World.block_lt_of_cell? _ _ hm1)).trans hm1
        have hbt2 := hb.trans (hb2.mono hb.size)
        clear HC
        by_cases h3 : ∀ c ∈ s, Sc.inner c = true
        · have d3 : decide (0 ≤ Lib.idxFunc (fun r => !Sc.innerR r) true (strOf s)) = false := by rw [decide_eq_false_iff_not, Sc.odd_iff]; exact fun hh => hh h3
          rw [d3]
          have hz : (strOf s).size ≤ 64 := by rw [hsz.out]; omega
          go_wp2_with fail
          rw [cat_eq]
          refine (Tryz.strings_Contains (strOf Sc.reserved) (strOf (32 :: (s ++ [32]))) m w2 (by decide) hm2).mono ?_
          rintro e w3 ⟨rfl, rfl⟩
          have hk : Sc.nameOk s ↔ Lib.contains Sc.reserved (32 :: (s ++ [32])) = false := by
            rw [← Bool.not_eq_true, Sc.contains_iff (by simp)]
            refine ⟨fun h => h.2.2.2, fun h => ⟨⟨c, r, HCR.out, by omega⟩, by omega, h3, h⟩⟩
          have he : Lib.contains (strOf Sc.reserved).data.toList (strOf (32 :: (s ++ [32]))).data.toList = Lib.contains Sc.reserved (32 :: (s ++ [32])) := rfl
          rw [he]
          generalize Lib.contains Sc.reserved (32 :: (s ++ [32])) = bq at *
          go_wp2
          go_ret
          exact done _ _ (by rw [hk]; cases bq <;> simp) hbt2
        · have d3 : decide (0 ≤ Lib.idxFunc (fun r => !Sc.innerR r) true (strOf s)) = true := by rw [decide_eq_true_iff, Sc.odd_iff]; exact h3
          have hno : ¬ Sc.nameOk s := fun h => h3 h.2.2.1
          rw [d3]
          go_wp2_with fail
          go_ret
          exact done _ _ ⟨(fun h => by cases h), fun h => absurd h hno⟩ hbt2
end Go.Proofs.YtojbjaklngdlcaaGreatDoor
