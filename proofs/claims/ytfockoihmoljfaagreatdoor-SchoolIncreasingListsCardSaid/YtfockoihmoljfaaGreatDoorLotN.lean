/-
  Words that the walks share: NamedW, ChkW, EachW, ElemW.
-/
import Derived.Test.YtfockoihmoljfaaGreatDoorLotS
import Derived.Test.YtfockoihmoljfaaGreatDoorLotA
import Derived.Test.YtfockoihmoljfaaGreatDoorShelf
import Derived.Laws.RangeAny
import Derived.Laws.EntriesVeiled
import Derived.Laws.Closers25
/-
  The walk of school.named.
-/
namespace Go.Proofs.YtfockoihmoljfaaGreatDoor
open Go.RowKit Go.Shelf
set_option linter.unusedVariables false
set_option linter.unusedSimpArgs false

/-- A bool, and what it tells. -/
def Tells (p : Prop) (w : World) (e : Ending) (w' : World) : Prop := ∃ b, e = .returned (.bool b) ∧ (b = true ↔ p) ∧ Below w.heap.size w w'

namespace Sc
/-- The letters of a name, as runes. -/
def innerR (r : Nat) : Bool := (decide (97 ≤ r) && decide (r ≤ 122)) || ((decide (48 ≤ r) && decide (r ≤ 57)) || decide (r = 95))
theorem innerR_high {r : Nat} (h : 128 ≤ r) : innerR r = false := by
  unfold innerR
  simp only [Bool.or_eq_false_iff, Bool.and_eq_false_iff, decide_eq_false_iff_not]
  omega
theorem idx_iff (p : Nat → Bool) (hp : ∀ r, 128 ≤ r → p r = true) (s : ByteArray) : ∀ (f pos : Nat), s.size - pos ≤ f → (0 ≤ Lib.idxFuncFrom p true s f pos ↔ ∃ (j : Nat) (h : j < s.size), pos ≤ j ∧ p (s[j]'h).toNat = true)
  | 0, pos, hf => by
    unfold Lib.idxFuncFrom
    constructor
    · intro h; omega
    · rintro ⟨j, h, h1, _⟩; omega
  | f + 1, pos, hf => by
    unfold Lib.idxFuncFrom
    by_cases hpos : pos < s.size
    · rw [if_pos hpos]
      by_cases hc : (s[pos]'hpos).toNat < 128
      · rw [decode_ascii s pos hpos hc]
        dsimp only
        by_cases hq : p (s[pos]'hpos).toNat = true
        · rw [if_pos hq]
          exact ⟨fun _ => ⟨pos, hpos, Nat.le_refl _, hq⟩, fun _ => by omega⟩
        · rw [if_neg hq, idx_iff p hp s f (pos + 1) (by omega)]
          constructor
          · rintro ⟨j, h, h1, h2⟩; exact ⟨j, h, by omega, h2⟩
          · rintro ⟨j, h, h1, h2⟩
            refine ⟨j, h, ?_, h2⟩
            rcases Nat.lt_or_ge pos j with h3 | h3
            · exact h3
            · obtain rfl : j = pos := by omega
              exact absurd h2 hq
      · have hh := decode_high s pos hpos (by omega)
        rw [if_pos (hp _ hh.1)]
        exact ⟨fun _ => ⟨pos, hpos, Nat.le_refl _, hp _ (by omega)⟩, fun _ => by omega⟩
    · rw [if_neg hpos]
      constructor
      · intro h; omega
      · rintro ⟨j, h, h1, _⟩; omega
theorem odd_iff (s : List UInt8) : 0 ≤ Lib.idxFunc (fun r => !innerR r) true (strOf s) ↔ ¬ ∀ c ∈ s, inner c = true := by
  unfold Lib.idxFunc
  rw [idx_iff _ (fun r hr => by rw [innerR_high hr]; rfl) (strOf s) _ 0 (by omega)]
  constructor
  · rintro ⟨j, h, _, h2⟩ hall
    have hj : j < s.length := h
    have := hall s[j] (List.getElem_mem hj)
    have e : ((strOf s)[j]'h) = s[j] := rfl
    rw [e] at h2
    unfold inner at this
    unfold innerR at h2
    rw [this] at h2
    cases h2
  · intro h
    obtain ⟨c, hc⟩ := Classical.not_forall.1 h
    obtain ⟨hm, hi⟩ := Classical.not_imp.1 hc
    obtain ⟨j, hj, rfl⟩ := List.getElem_of_mem hm
    refine ⟨j, hj, Nat.zero_le _, ?_⟩
    have e : ((strOf s)[j]'hj) = s[j] := rfl
    rw [e]
    have : innerR s[j].toNat = false := by simpa [inner, innerR] using hi
    rw [this]; rfl
theorem occ_iff {l x : List UInt8} {i : Nat} : Lib.occAt l x i = true ↔ (l.drop i).take x.length = x := by
  unfold Lib.occAt
  rw [List.isPrefixOf_iff_prefix, List.prefix_iff_eq_take]
  exact eq_comm
theorem contains_iff {l x : List UInt8} (hx : x ≠ []) : Lib.contains l x = true ↔ standsIn l x := by
  unfold Lib.contains
  rw [decide_eq_true_eq]
  have hpos : 0 < x.length := List.length_pos_iff.2 hx
  rcases Lib.index_spec l x with ⟨h1, h2⟩ | ⟨i, h1, h2, h3, h4⟩
  · constructor
    · intro h; omega
    · rintro ⟨i, hi, he⟩
      have := h2 i (by omega)
      rw [occ_iff.2 he] at this
      cases this
  · rw [h1]
    refine ⟨fun _ => ⟨i, ?_, occ_iff.1 h3⟩, fun _ => by omega⟩
    have h5 := occ_iff.1 h3
    have := congrArg List.length h5
    rw [List.length_take, List.length_drop] at this
    omega
end Sc

set_option maxRecDepth 100000 in
set_option maxHeartbeats 2000000 in
theorem named1_gives (r : Nat) (W : World) : Calls Tryz.prog 100 #[.int .i32 (r : Int)] W fun e w' => e = .returned (.bool (Sc.innerR r)) ∧ w' = W := by
  have e1 : decide ((97 : Int) ≤ (r : Int)) = decide (97 ≤ r) := by congr 1; simp only [eq_iff_iff]; omega
  have e2 : decide ((r : Int) ≤ 122) = decide (r ≤ 122) := by congr 1; simp only [eq_iff_iff]; omega
  have e3 : decide ((48 : Int) ≤ (r : Int)) = decide (48 ≤ r) := by congr 1; simp only [eq_iff_iff]; omega
  have e4 : decide ((r : Int) ≤ 57) = decide (r ≤ 57) := by congr 1; simp only [eq_iff_iff]; omega
  have e5 : ((r : Int) == 95) = decide (r = 95) := by rw [Bool.eq_iff_iff]; simp; omega
  unfold Sc.innerR
  generalize decide (97 ≤ r) = b1 at *
  generalize decide (r ≤ 122) = b2 at *
  generalize decide (48 ≤ r) = b3 at *
  generalize decide (r ≤ 57) = b4 at *
  generalize decide (r = 95) = b5 at *
  cases b1 <;> cases b2 <;> cases b3 <;> cases b4 <;> cases b5 <;>
    (go_enter Tryz.func100, Tryz.ntmps100
     go_wp2
     go_ret
     exact ⟨rfl, rfl⟩)

theorem named2_pred (B : Nat) (w : World) (hb : w.heap[B]? = some (.cells #[.func (.func 100) #[] #[]] 140)) : PredAt Tryz.prog 101 #[.pointer (some ⟨B, 0, none⟩)] encR (fun r => !Sc.innerR r) w := by
  intro W r hW
  have hc : W.cell? ⟨B, 0, none⟩ = some (.func (.func 100) #[] #[]) := (hW.cell (p := ⟨B, 0, none⟩) (blk_lt hb)).trans (blk_cell hb)
  unfold FnGives encR
  go_enter Tryz.func101, Tryz.ntmps101
  go_wp2_with fail
  refine (named1_gives r _).mono ?_
  rintro e w' ⟨rfl, rfl⟩
  go_wp2
  go_ret
  exact ⟨rfl, 0, rfl⟩

theorem res_eq : (⟨(([32, 104, 97, 114, 100, 32, 115, 111, 102, 116, 32, 101, 97, 99, 104, 32, 97, 108, 108, 32, 115, 111, 109, 101, 32, 108, 101, 97, 115, 116, 32, 109, 111].append [115, 116, 32, 116, 114, 117, 101, 32, 102, 97, 108, 115, 101, 32, 97, 116, 32, 105, 110, 32, 116, 101, 97, 99, 104, 101, 115, 32, 97, 116, 116, 101, 110, 100]).append ([115, 32, 97, 119, 97, 121, 32, 115, 104, 117, 116, 32, 100, 97, 121, 32, 104, 111, 117, 114, 32, 104, 111, 117, 115, 101, 32, 115, 101, 97, 116, 115, 32, 115].append [105, 122, 101, 32, 108, 101, 115, 115, 111, 110, 32, 115, 108, 111, 116, 32, 114, 111, 111, 109, 32, 112, 101, 114, 115, 111, 110, 32, 103, 114, 111, 117, 112, 32])).toArray⟩ : ByteArray) = strOf Sc.reserved := rfl

theorem cat_eq (s : List UInt8) : ((⟨#[32]⟩ : ByteArray) ++ strOf s ++ ⟨#[32]⟩) = strOf (32 :: (s ++ [32])) := by
  apply ByteArray.ext
  rw [ByteArray.data_append, ByteArray.data_append]
  simp [strOf]
theorem empty_iff (s : List UInt8) : (strOf s).toList.isEmpty = s.isEmpty := by
  rw [← decide_eq_emptyBytes, Bool.eq_iff_iff, decide_eq_true_iff, List.isEmpty_iff]
  exact ⟨fun h => strOf_inj.1 h, fun h => by rw [h]; rfl⟩

set_option maxRecDepth 100000 in
set_option maxHeartbeats 4000000 in
theorem named_any (s : List UInt8) (m : Int) (w : World) (hm : w.cell? ⟨0, 0, none⟩ = some (.int .i64 m)) (hs : s.length ≤ 9223372036854775807) :
    Calls Tryz.prog 33 #[.string (strOf s)] w (Tells (Sc.nameOk s) w) := by
  have hbt := Below.refl w.heap.size w
  obtain ⟨V1, hV⟩ : ∃ V1, V1 = w.alloc (.cells #[.func (.func 100) #[] #[]] 140) := ⟨_, rfl⟩
  have b1 := blk_new hV
  have hb := below_new hV
  have HV := Lib.hid hV.symm
  clear hV
  have hm1 : V1.cell? ⟨0, 0, none⟩ = some (.int .i64 m) := (hb.cell (World.block_lt_of_cell? _ _ hm)).trans hm
  have done : ∀ (W : World) (b : Bool), (b = true ↔ Sc.nameOk s) → Below w.heap.size w W → Tells (Sc.nameOk s) w (.returned (.bool b)) W := fun W b h1 h2 => ⟨b, rfl, h1, h2⟩
  have hsz : Hid ((strOf s).size = s.length) := rfl
  by_cases h0 : s = []
  · have d0 : (strOf s).toList.isEmpty = true := by rw [empty_iff, h0]; rfl
    have hno : ¬ Sc.nameOk s := fun h => by obtain ⟨⟨c, r, e, _⟩, _⟩ := h; rw [h0] at e; cases e
    clear h0
    go_enter Tryz.func33, Tryz.ntmps33
    go_wp2_with fail
    rw [HV.out]
    go_ret
    exact done _ _ ⟨(fun h => by cases h), fun h => absurd h hno⟩ hb
  · obtain ⟨c, r, hcr⟩ : ∃ c r, s = c :: r := by
      cases s with
      | nil => exact absurd rfl h0
      | cons c r => exact ⟨c, r, rfl⟩
    have d0 : (strOf s).toList.isEmpty = false := by rw [empty_iff, hcr]; rfl
    have hpos : 0 < (strOf s).size := by rw [hsz.out, hcr]; simp
    have e0 : Hid ((strOf s)[0] = c) := by subst hcr; rfl
    have HCR := Lib.hid hcr
    clear hcr h0
    by_cases h1 : 64 < s.length
    · have d1 : decide (64 < ((strOf s).size : Int)) = true := by rw [hsz.out]; simp; omega
      have hno : ¬ Sc.nameOk s := fun h => by have := h.2.1; omega
      go_enter Tryz.func33, Tryz.ntmps33
      go_wp2_with fail
      rw [HV.out]
      go_ret
      exact done _ _ ⟨(fun h => by cases h), fun h => absurd h hno⟩ hb
    · have d1 : decide (64 < ((strOf s).size : Int)) = false := by rw [hsz.out]; simp; omega
      by_cases h2 : c.toNat < 97
      · have d2 : decide (((strOf s)[0].toNat : Int) < 97) = true := by rw [e0.out]; simp; omega
        have hno : ¬ Sc.nameOk s := fun h => by
          obtain ⟨⟨c', r', e, hc⟩, _⟩ := h
          rw [HCR.out] at e
          injection e with e1
          subst e1
          omega
        go_enter Tryz.func33, Tryz.ntmps33
        go_wp2_with fail
        rw [HV.out]
        go_ret
        exact done _ _ ⟨(fun h => by cases h), fun h => absurd h hno⟩ hb
      · have d2 : decide (((strOf s)[0].toNat : Int) < 97) = false := by rw [e0.out]; simp; omega
        have hp := named2_pred w.heap.size V1 b1
        have HC := Lib.hid (Tryz.strings_ContainsFunc 101 #[.pointer (some ⟨w.heap.size, 0, none⟩)] (enters_of Tryz.func101 (by kernel_rfl) rfl) _ (strOf s) V1 hp)
        clear hp
        go_enter Tryz.func33, Tryz.ntmps33
        go_wp2_with fail
        rw [HV.out]
        refine HC.out.mono ?_
        rintro e w2 ⟨rfl, hb2⟩
        have hm2 : w2.cell? ⟨0, 0, none⟩ = some (.int .i64 m) := (hb2.cell (World.block_lt_of_cell? _ _ hm1)).trans hm1
        have hbt2 := hb.trans (hb2.mono hb.size)
        clear HC
        by_cases h3 : ∀ c ∈ s, Sc.inner c = true
        · have d3 : decide (0 ≤ Lib.idxFunc (fun r => !Sc.innerR r) true (strOf s)) = false := by rw [decide_eq_false_iff_not, Sc.odd_iff]; exact fun hh => hh h3
          rw [d3]
          have hz : (strOf s).size ≤ 64 := by rw [hsz.out]; omega
          go_wp2_with fail
          rw [cat_eq]
          refine (Tryz.strings_Contains (strOf Sc.reserved) (strOf (32 :: (s ++ [32]))) m w2 (by decide) hm2).mono ?_
          rintro e w3 ⟨rfl, rfl⟩
          have hk : Sc.nameOk s ↔ Lib.contains Sc.reserved (32 :: (s ++ [32])) = false := by
            rw [← Bool.not_eq_true, Sc.contains_iff (by simp)]
            refine ⟨fun h => h.2.2.2, fun h => ⟨⟨c, r, HCR.out, by omega⟩, by omega, h3, h⟩⟩
          have he : Lib.contains (strOf Sc.reserved).data.toList (strOf (32 :: (s ++ [32]))).data.toList = Lib.contains Sc.reserved (32 :: (s ++ [32])) := rfl
          rw [he]
          generalize Lib.contains Sc.reserved (32 :: (s ++ [32])) = bq at *
          go_wp2
          go_ret
          exact done _ _ (by rw [hk]; cases bq <;> simp) hbt2
        · have d3 : decide (0 ≤ Lib.idxFunc (fun r => !Sc.innerR r) true (strOf s)) = true := by rw [decide_eq_true_iff, Sc.odd_iff]; exact h3
          have hno : ¬ Sc.nameOk s := fun h => h3 h.2.2.1
          rw [d3]
          go_wp2_with fail
          go_ret
          exact done _ _ ⟨(fun h => by cases h), fun h => absurd h hno⟩ hbt2
end Go.Proofs.YtfockoihmoljfaaGreatDoor

/-
  The walks of places, within, Check's closures and ContainsFunc.
-/
namespace Go.Proofs.YtfockoihmoljfaaGreatDoor
open Go.RowKit
set_option linter.unusedVariables false
set_option linter.unusedSimpArgs false

set_option maxRecDepth 100000 in
set_option maxHeartbeats 2000000 in
theorem swithin_any (n m : Int) (w : World) : Calls Tryz.prog 34 #[.int .i64 n, .int .i64 m] w (TellsQ (Sc.within n m) w) := by
  unfold Sc.within
  by_cases h1 : 0 ≤ n
  · have d1 : decide (0 ≤ n) = true := by simp; omega
    by_cases h2 : n ≤ m
    · have d2 : decide (n ≤ m) = true := by simp; omega
      go_enter Tryz.func34, Tryz.ntmps34
      go_wp2
      go_ret
      exact ⟨_, rfl, ⟨fun _ => ⟨h1, h2⟩, fun _ => rfl⟩, rfl⟩
    · have d2 : decide (n ≤ m) = false := by simp; omega
      go_enter Tryz.func34, Tryz.ntmps34
      go_wp2
      go_ret
      exact ⟨_, rfl, ⟨(fun h => by cases h), fun h => by omega⟩, rfl⟩
  · have d1 : decide (0 ≤ n) = false := by simp; omega
    go_enter Tryz.func34, Tryz.ntmps34
    go_wp2
    go_ret
    exact ⟨_, rfl, ⟨(fun h => by cases h), fun h => by omega⟩, rfl⟩

set_option maxRecDepth 100000 in
set_option maxHeartbeats 4000000 in
theorem splaces_any (A : Option Addr) (n c : Nat) (l : List Int) (k : Nat) (w : World) (h : RdI w w.heap.size A n c l) :
    Calls Tryz.prog 36 #[.slice A n c, .int .i64 (k : Int)] w (TellsQ (Sc.incr l k) w) := by
  have h1 := h.max
  have h2 := h.le
  have hl := Lib.hid h.len
  go_enter Tryz.func36, Tryz.ntmps36
  go_wp2_with fail
  go_loop [5, 10] (fun p i => ∃ j : Nat, j ≤ n ∧ i = .int .i64 j ∧ p = .int .i64 ((l.take j).getLast?.getD (-1)) ∧ Sc.incr (l.take j) k) (fun _ i => n - (intOf i).toNat)
  case atStart => exact ⟨0, by omega, rfl, by simp, by simpa using Sc.incr_nil k⟩
  case round =>
    obtain ⟨j, hj, rfl, rfl, hinc⟩ := hrel
    by_cases hjn : j < n
    · have hjl : j < l.length := by rw [hl.out]; exact hjn
      obtain ⟨ad, rfl, _, x0, ok1, ok2⟩ := h.at_ hjn hjl
      have d1 : decide ((j : Int) < (n : Int)) = true := by simp; omega
      have HS := Lib.hid (Sc.incr_stop (n := k) hjl)
      have HG := Lib.hid (Sc.incr_go hjl hinc)
      have HLs := Lib.hid (Sc.last_step hjl)
      generalize (l.take j).getLast?.getD (-1) = la at *
      generalize hx : l[j] = x at *
      clear hx hinc
      by_cases p1 : x ≤ la
      · have d2 : decide (x ≤ la) = true := by simp; omega
        go_wp2_with fail
        go_ret
        exact ⟨_, rfl, ⟨(fun hh => by cases hh), fun hh => absurd hh (HS.out (by omega))⟩, rfl⟩
      · have d2 : decide (x ≤ la) = false := by simp; omega
        by_cases p2 : (k : Int) ≤ x
        · have d3 : decide ((k : Int) ≤ x) = true := by simp; omega
          go_wp2_with fail
          go_ret
          exact ⟨_, rfl, ⟨(fun hh => by cases hh), fun hh => absurd hh (HS.out (by omega))⟩, rfl⟩
        · have d3 : decide ((k : Int) ≤ x) = false := by simp; omega
          go_wp2_with fail
          go_round
          case rel => exact ⟨j + 1, by omega, by go_num, by rw [HLs.out], HG.out (by omega)⟩
          case measure => simp [intOf]; omega
    · obtain rfl : j = n := by omega
      have d1 : decide ((j : Int) < (j : Int)) = false := by simp
      have HE : Hid (Sc.incr l k) := by rw [List.take_of_length_le (by rw [hl.out]; omega)] at hinc; exact hinc
      clear hinc
      go_wp2_with fail
      go_ret
      exact ⟨_, rfl, ⟨fun _ => HE.out, fun _ => rfl⟩, rfl⟩

/-- A function value that tells of an element whether p holds. -/
def PredS {α : Type} (R : World → Nat → α → List Value → Prop) (g : Nat) (lb : Array Value) (p : α → Prop) (w : World) : Prop :=
  ∀ (W : World) (x : α) (r : List Value), Below w.heap.size w W → R W W.heap.size x r → Calls Tryz.prog g (#[.agg r.toArray] ++ lb) W (Tells (p x) W)

set_option maxRecDepth 100000 in
set_option maxHeartbeats 4000000 in
theorem group_pred (w : World) : PredS Sc.RGro 38 #[] (fun x => ¬ Sc.within x.size 1000) w := by
  rintro W ⟨nm, sz⟩ r hW ⟨rfl, _, _⟩
  have hb := (Below.refl W.heap.size W).alloc (Nat.le_refl _) (.cells #[.string (strOf nm), .int .i64 sz] 49)
  go_enter Tryz.func38, Tryz.ntmps38
  go_wp2_with fail
  refine (swithin_any sz 1000 _).mono ?_
  rintro e w2 ⟨b, rfl, hiff, rfl⟩
  go_wp2
  go_ret
  exact ⟨_, rfl, by cases b <;> simp_all, hb⟩

set_option maxRecDepth 100000 in
set_option maxHeartbeats 4000000 in
theorem person_pred (bS k : Nat) (w : World) (b1 : w.heap[bS]? = some (.cells #[.int .i64 (k : Int)] 3)) : PredS Sc.RPer 37 #[.pointer (some ⟨bS, 0, none⟩)] (fun x => ¬ Sc.incr x.away k) w := by
  rintro W ⟨nm, aw⟩ r hW ⟨A, c, rfl, hi, _⟩
  dsimp only at hi ⊢
  have m1 := hi.max
  have m2 := hi.le
  obtain ⟨V, hV⟩ : ∃ V, V = W.alloc (.cells #[.string (strOf nm), .slice A aw.length c] 57) := ⟨_, rfl⟩
  have hb := below_new hV
  have HV := Lib.hid hV.symm
  clear hV
  have c0 : V.cell? ⟨bS, 0, none⟩ = some (.int .i64 (k : Int)) := (hb.cell (p := ⟨bS, 0, none⟩) (Nat.lt_of_lt_of_le (blk_lt b1) hW.size)).trans ((hW.cell (p := ⟨bS, 0, none⟩) (blk_lt b1)).trans (blk_cell b1))
  have hi := (hi.below hb).more hb.size
  generalize aw.length = n at *
  rw [← HV.out] at c0
  go_enter Tryz.func37, Tryz.ntmps37
  go_wp2_with fail
  rw [HV.out]
  refine (splaces_any A n c aw k V hi).mono ?_
  rintro e w2 ⟨b, rfl, hiff, rfl⟩
  go_wp2
  go_ret
  exact ⟨_, rfl, by cases b <;> simp_all, hb⟩

set_option maxRecDepth 100000 in
set_option maxHeartbeats 4000000 in
theorem lesson_pred (bP p bG q : Nat) (w : World) (b1 : w.heap[bP]? = some (.cells #[.int .i64 (p : Int)] 3)) (b2 : w.heap[bG]? = some (.cells #[.int .i64 (q : Int)] 3)) :
    PredS Sc.RLes 39 #[.pointer (some ⟨bP, 0, none⟩), .pointer (some ⟨bG, 0, none⟩)] (fun x => ¬ Sc.lessonOk p q x) w := by
  rintro W ⟨nm, wh, gr⟩ r hW ⟨A, c, A', c', rfl, hi, hi', _⟩
  unfold Sc.lessonOk
  dsimp only at hi hi' ⊢
  have m1 := hi.max
  have m2 := hi.le
  have m3 := hi'.max
  have m4 := hi'.le
  obtain ⟨V, hV⟩ : ∃ V, V = W.alloc (.cells #[.string (strOf nm), .slice A wh.length c, .slice A' gr.length c'] 59) := ⟨_, rfl⟩
  have bV := blk_new hV
  have hb := below_new hV
  have HV := Lib.hid hV.symm
  clear hV
  have c1 : V.cell? ⟨bP, 0, none⟩ = some (.int .i64 (p : Int)) := (hb.cell (p := ⟨bP, 0, none⟩) (Nat.lt_of_lt_of_le (blk_lt b1) hW.size)).trans ((hW.cell (p := ⟨bP, 0, none⟩) (blk_lt b1)).trans (blk_cell b1))
  have c2 : V.cell? ⟨bG, 0, none⟩ = some (.int .i64 (q : Int)) := (hb.cell (p := ⟨bG, 0, none⟩) (Nat.lt_of_lt_of_le (blk_lt b2) hW.size)).trans ((hW.cell (p := ⟨bG, 0, none⟩) (blk_lt b2)).trans (blk_cell b2))
  have hi := (hi.below hb).more hb.size
  have hi' := (hi'.below hb).more hb.size
  generalize wh.length = n at *
  generalize gr.length = m at *
  have d0 := blk_cell (j := 0) bV
  have d1 := blk_cell (j := 1) bV
  have d2 := blk_cell (j := 2) bV
  simp only [List.getElem?_toArray, List.getElem?_cons_zero, List.getElem?_cons_succ] at d0 d1 d2
  have c1' := c1
  rw [← HV.out] at c1'
  go_enter Tryz.func39, Tryz.ntmps39
  go_wp2_with fail
  rw [HV.out]
  clear c1'
  refine (splaces_any A n c wh p V hi).mono ?_
  rintro e w2 ⟨b, rfl, hiff, rfl⟩
  cases b with
  | false =>
    have h1 : ¬ Sc.incr wh p := fun h => by have := hiff.2 h; cases this
    clear hiff
    go_wp2
    go_ret
    exact ⟨_, rfl, ⟨fun _ h => h1 h.1, fun _ => rfl⟩, hb⟩
  | true =>
    have h1 := hiff.1 rfl
    clear hiff
    go_wp2_with fail
    refine (splaces_any A' m c' gr q V hi').mono ?_
    rintro e w2 ⟨b, rfl, hiff, rfl⟩
    go_wp2
    go_ret
    exact ⟨_, rfl, by cases b <;> simp_all, hb⟩

set_option maxRecDepth 100000 in
set_option maxHeartbeats 4000000 in
theorem room_pred (bS k : Nat) (w : World) (b1 : w.heap[bS]? = some (.cells #[.int .i64 (k : Int)] 3)) : PredS Sc.RRoo 35 #[.pointer (some ⟨bS, 0, none⟩)] (fun x => ¬ Sc.roomOk k x) w := by
  rintro W ⟨nm, ho, se, sh⟩ r hW ⟨A, c, rfl, hi, _⟩
  unfold Sc.roomOk
  dsimp only at hi ⊢
  have m1 := hi.max
  have m2 := hi.le
  obtain ⟨V, hV⟩ : ∃ V, V = W.alloc (.cells #[.string (strOf nm), .int .i64 ho, .int .i64 se, .slice A sh.length c] 53) := ⟨_, rfl⟩
  have bV := blk_new hV
  have hb := below_new hV
  have HV := Lib.hid hV.symm
  clear hV
  have c1 : V.cell? ⟨bS, 0, none⟩ = some (.int .i64 (k : Int)) := (hb.cell (p := ⟨bS, 0, none⟩) (Nat.lt_of_lt_of_le (blk_lt b1) hW.size)).trans ((hW.cell (p := ⟨bS, 0, none⟩) (blk_lt b1)).trans (blk_cell b1))
  have hi := (hi.below hb).more hb.size
  generalize sh.length = n at *
  have d0 := blk_cell (j := 0) bV
  have d1 := blk_cell (j := 1) bV
  have d2 := blk_cell (j := 2) bV
  have d3 := blk_cell (j := 3) bV
  simp only [List.getElem?_toArray, List.getElem?_cons_zero, List.getElem?_cons_succ] at d0 d1 d2 d3
  go_enter Tryz.func35, Tryz.ntmps35
  go_wp2_with fail
  rw [HV.out]
  refine (swithin_any ho 7 V).mono ?_
  rintro e w2 ⟨b, rfl, hiff, rfl⟩
  cases b with
  | false =>
    have h1 : ¬ Sc.within ho 7 := fun h => by have := hiff.2 h; cases this
    clear hiff
    go_wp2
    go_ret
    exact ⟨_, rfl, ⟨fun _ h => h1 h.1, fun _ => rfl⟩, hb⟩
  | true =>
    have h1 := hiff.1 rfl
    clear hiff
    go_wp2_with fail
    refine (swithin_any se 1000 V).mono ?_
    rintro e w2 ⟨b, rfl, hiff, rfl⟩
    cases b with
    | false =>
      have h2 : ¬ Sc.within se 1000 := fun h => by have := hiff.2 h; cases this
      clear hiff
      go_wp2
      go_ret
      exact ⟨_, rfl, ⟨fun _ h => h2 h.2.1, fun _ => rfl⟩, hb⟩
    | true =>
      have h2 := hiff.1 rfl
      clear hiff
      go_wp2_with fail
      refine (splaces_any A n c sh k V hi).mono ?_
      rintro e w2 ⟨b, rfl, hiff, rfl⟩
      go_wp2
      go_ret
      exact ⟨_, rfl, by cases b <;> simp_all, hb⟩


set_option maxRecDepth 100000 in
set_option maxHeartbeats 4000000 in
theorem ifR_any (A : Option Addr) (n c : Nat) (l : List Sc.Roo) (gf : Nat) (lb : Array Value) (eg : ∀ args w, (callFunc gf args).run Tryz.prog w = .ok (.enter gf args) w) (p : Sc.Roo → Prop) (w : World) (h : RdS 4 Sc.RRoo w w.heap.size A n c l) (hp : PredS Sc.RRoo gf lb p w) :
    Calls Tryz.prog 104 #[.slice A n c, .func (.func gf) #[] lb] w fun e w' => ∃ i : Int, e = .returned (.int .i64 i) ∧ (0 ≤ i ↔ ∃ x ∈ l, p x) ∧ Below w.heap.size w w' := by
  have h1 := h.max
  have h2 := h.le
  have hl := Lib.hid (h.len (by omega))
  go_enter Tryz.func104, Tryz.ntmps104
  go_wp2_with fail
  go_loopw [8] (fun i wr => ∃ j : Nat, j ≤ n ∧ i = .int .i64 j ∧ (∀ x ∈ l.take j, ¬ p x) ∧ Below w.heap.size w wr) (fun i _ => n - (intOf i).toNat)
  case atStart => exact ⟨0, by omega, rfl, by simp, Below.refl _ _⟩
  case round =>
    obtain ⟨j, hj, rfl, hall, hbt⟩ := hrel
    have HA := Lib.hid hall
    clear hall
    by_cases hjn : j < n
    · have hjl : j < l.length := by rw [hl.out]; exact hjn
      obtain ⟨ad, r, rfl, _, hr, hR, hc⟩ := RdS.at_ (by omega) ((h.below Sc.lasts_Roo hbt).more Sc.lasts_Roo hbt.size) hjn hjl
      have d1 : decide ((j : Int) < (n : Int)) = true := by simp; omega
      have d2 : decide (j < n) = true := by simp; omega
      obtain ⟨u0, u1, u2, u3, rfl⟩ : ∃ u0 u1 u2 u3, r = [u0, u1, u2, u3] := by
        match r, hr with
        | [u0, u1, u2, u3], _ => exact ⟨u0, u1, u2, u3, rfl⟩
      have x0 := hc 0 u0 rfl
      have x1 := hc 1 u1 rfl
      have x2 := hc 2 u2 rfl
      have x3 := hc 3 u3 rfl
      rw [Nat.add_zero] at x0
      replace x1 := cell_sub x1
      replace x2 := cell_sub x2
      replace x3 := cell_sub x3
      clear hc hr
      have HC := Lib.hid (hp wr l[j] _ hbt hR)
      have HY : Hid (p l[j] → ∃ x ∈ l, p x) := fun e => ⟨_, List.getElem_mem hjl, e⟩
      have HN : Hid (¬ p l[j] → ∀ x ∈ l.take (j + 1), ¬ p x) := fun e x hx => by
        rw [List.take_succ_eq_append_getElem hjl] at hx
        rcases List.mem_append.1 hx with hx | hx
        · exact HA.out x hx
        · rw [List.mem_singleton] at hx; subst hx; exact e
      clear hR
      go_wp2_with fail
      refine HC.out.mono ?_
      rintro e w3 ⟨b, rfl, hiff, hb⟩
      have hb3 := hbt.trans (hb.mono hbt.size)
      clear HC hb hbt
      cases b with
      | true =>
        have HP := Lib.hid (HY.out (hiff.1 rfl))
        clear hiff
        go_wp2_with fail
        go_ret
        exact ⟨_, rfl, ⟨fun _ => HP.out, fun _ => by omega⟩, hb3⟩
      | false =>
        have HP := Lib.hid (HN.out (fun hh => by have := hiff.2 hh; cases this))
        clear hiff
        go_wp2_with fail
        go_roundw
        case rel => exact ⟨j + 1, by omega, by go_num, HP.out, hb3⟩
        case measure => simp [intOf]; omega
    · obtain rfl : j = n := by omega
      have d1 : decide ((j : Int) < (j : Int)) = false := by simp
      have HE : Hid (¬ ∃ x ∈ l, p x) := by
        rintro ⟨x, hx, hpx⟩
        exact HA.out x (by rw [List.take_of_length_le (by rw [hl.out]; omega)]; exact hx) hpx
      go_wp2_with fail
      go_ret
      exact ⟨_, rfl, ⟨fun hh => by omega, fun hh => absurd hh HE.out⟩, hbt⟩

set_option maxRecDepth 100000 in
theorem cfR_any (A : Option Addr) (n c : Nat) (l : List Sc.Roo) (gf : Nat) (lb : Array Value) (eg : ∀ args w, (callFunc gf args).run Tryz.prog w = .ok (.enter gf args) w) (p : Sc.Roo → Prop) (w : World) (h : RdS 4 Sc.RRoo w w.heap.size A n c l) (hp : PredS Sc.RRoo gf lb p w) :
    Calls Tryz.prog 40 #[.slice A n c, .func (.func gf) #[] lb] w (Tells (∃ x ∈ l, p x) w) := by
  go_enter Tryz.func40, Tryz.ntmps40
  go_wp2_with fail
  refine (ifR_any A n c l gf lb eg p w h hp).mono ?_
  rintro e w2 ⟨i, rfl, hiff, hb⟩
  go_wp2
  go_ret
  exact ⟨_, rfl, by rw [decide_eq_true_iff]; exact hiff, hb⟩


set_option maxRecDepth 100000 in
set_option maxHeartbeats 4000000 in
theorem ifPe_any (A : Option Addr) (n c : Nat) (l : List Sc.Per) (gf : Nat) (lb : Array Value) (eg : ∀ args w, (callFunc gf args).run Tryz.prog w = .ok (.enter gf args) w) (p : Sc.Per → Prop) (w : World) (h : RdS 2 Sc.RPer w w.heap.size A n c l) (hp : PredS Sc.RPer gf lb p w) :
    Calls Tryz.prog 105 #[.slice A n c, .func (.func gf) #[] lb] w fun e w' => ∃ i : Int, e = .returned (.int .i64 i) ∧ (0 ≤ i ↔ ∃ x ∈ l, p x) ∧ Below w.heap.size w w' := by
  have h1 := h.max
  have h2 := h.le
  have hl := Lib.hid (h.len (by omega))
  go_enter Tryz.func105, Tryz.ntmps105
  go_wp2_with fail
  go_loopw [8] (fun i wr => ∃ j : Nat, j ≤ n ∧ i = .int .i64 j ∧ (∀ x ∈ l.take j, ¬ p x) ∧ Below w.heap.size w wr) (fun i _ => n - (intOf i).toNat)
  case atStart => exact ⟨0, by omega, rfl, by simp, Below.refl _ _⟩
  case round =>
    obtain ⟨j, hj, rfl, hall, hbt⟩ := hrel
    have HA := Lib.hid hall
    clear hall
    by_cases hjn : j < n
    · have hjl : j < l.length := by rw [hl.out]; exact hjn
      obtain ⟨ad, r, rfl, _, hr, hR, hc⟩ := RdS.at_ (by omega) ((h.below Sc.lasts_Per hbt).more Sc.lasts_Per hbt.size) hjn hjl
      have d1 : decide ((j : Int) < (n : Int)) = true := by simp; omega
      have d2 : decide (j < n) = true := by simp; omega
      obtain ⟨u0, u1, rfl⟩ : ∃ u0 u1, r = [u0, u1] := by
        match r, hr with
        | [u0, u1], _ => exact ⟨u0, u1, rfl⟩
      have x0 := hc 0 u0 rfl
      have x1 := hc 1 u1 rfl
      rw [Nat.add_zero] at x0
      replace x1 := cell_sub x1
      clear hc hr
      have HC := Lib.hid (hp wr l[j] _ hbt hR)
      have HY : Hid (p l[j] → ∃ x ∈ l, p x) := fun e => ⟨_, List.getElem_mem hjl, e⟩
      have HN : Hid (¬ p l[j] → ∀ x ∈ l.take (j + 1), ¬ p x) := fun e x hx => by
        rw [List.take_succ_eq_append_getElem hjl] at hx
        rcases List.mem_append.1 hx with hx | hx
        · exact HA.out x hx
        · rw [List.mem_singleton] at hx; subst hx; exact e
      clear hR
      go_wp2_with fail
      refine HC.out.mono ?_
      rintro e w3 ⟨b, rfl, hiff, hb⟩
      have hb3 := hbt.trans (hb.mono hbt.size)
      clear HC hb hbt
      cases b with
      | true =>
        have HP := Lib.hid (HY.out (hiff.1 rfl))
        clear hiff
        go_wp2_with fail
        go_ret
        exact ⟨_, rfl, ⟨fun _ => HP.out, fun _ => by omega⟩, hb3⟩
      | false =>
        have HP := Lib.hid (HN.out (fun hh => by have := hiff.2 hh; cases this))
        clear hiff
        go_wp2_with fail
        go_roundw
        case rel => exact ⟨j + 1, by omega, by go_num, HP.out, hb3⟩
        case measure => simp [intOf]; omega
    · obtain rfl : j = n := by omega
      have d1 : decide ((j : Int) < (j : Int)) = false := by simp
      have HE : Hid (¬ ∃ x ∈ l, p x) := by
        rintro ⟨x, hx, hpx⟩
        exact HA.out x (by rw [List.take_of_length_le (by rw [hl.out]; omega)]; exact hx) hpx
      go_wp2_with fail
      go_ret
      exact ⟨_, rfl, ⟨fun hh => by omega, fun hh => absurd hh HE.out⟩, hbt⟩

set_option maxRecDepth 100000 in
theorem cfPe_any (A : Option Addr) (n c : Nat) (l : List Sc.Per) (gf : Nat) (lb : Array Value) (eg : ∀ args w, (callFunc gf args).run Tryz.prog w = .ok (.enter gf args) w) (p : Sc.Per → Prop) (w : World) (h : RdS 2 Sc.RPer w w.heap.size A n c l) (hp : PredS Sc.RPer gf lb p w) :
    Calls Tryz.prog 41 #[.slice A n c, .func (.func gf) #[] lb] w (Tells (∃ x ∈ l, p x) w) := by
  go_enter Tryz.func41, Tryz.ntmps41
  go_wp2_with fail
  refine (ifPe_any A n c l gf lb eg p w h hp).mono ?_
  rintro e w2 ⟨i, rfl, hiff, hb⟩
  go_wp2
  go_ret
  exact ⟨_, rfl, by rw [decide_eq_true_iff]; exact hiff, hb⟩


set_option maxRecDepth 100000 in
set_option maxHeartbeats 4000000 in
theorem ifG_any (A : Option Addr) (n c : Nat) (l : List Sc.Gro) (gf : Nat) (lb : Array Value) (eg : ∀ args w, (callFunc gf args).run Tryz.prog w = .ok (.enter gf args) w) (p : Sc.Gro → Prop) (w : World) (h : RdS 2 Sc.RGro w w.heap.size A n c l) (hp : PredS Sc.RGro gf lb p w) :
    Calls Tryz.prog 106 #[.slice A n c, .func (.func gf) #[] lb] w fun e w' => ∃ i : Int, e = .returned (.int .i64 i) ∧ (0 ≤ i ↔ ∃ x ∈ l, p x) ∧ Below w.heap.size w w' := by
  have h1 := h.max
  have h2 := h.le
  have hl := Lib.hid (h.len (by omega))
  go_enter Tryz.func106, Tryz.ntmps106
  go_wp2_with fail
  go_loopw [8] (fun i wr => ∃ j : Nat, j ≤ n ∧ i = .int .i64 j ∧ (∀ x ∈ l.take j, ¬ p x) ∧ Below w.heap.size w wr) (fun i _ => n - (intOf i).toNat)
  case atStart => exact ⟨0, by omega, rfl, by simp, Below.refl _ _⟩
  case round =>
    obtain ⟨j, hj, rfl, hall, hbt⟩ := hrel
    have HA := Lib.hid hall
    clear hall
    by_cases hjn : j < n
    · have hjl : j < l.length := by rw [hl.out]; exact hjn
      obtain ⟨ad, r, rfl, _, hr, hR, hc⟩ := RdS.at_ (by omega) ((h.below Sc.lasts_Gro hbt).more Sc.lasts_Gro hbt.size) hjn hjl
      have d1 : decide ((j : Int) < (n : Int)) = true := by simp; omega
      have d2 : decide (j < n) = true := by simp; omega
      obtain ⟨u0, u1, rfl⟩ : ∃ u0 u1, r = [u0, u1] := by
        match r, hr with
        | [u0, u1], _ => exact ⟨u0, u1, rfl⟩
      have x0 := hc 0 u0 rfl
      have x1 := hc 1 u1 rfl
      rw [Nat.add_zero] at x0
      replace x1 := cell_sub x1
      clear hc hr
      have HC := Lib.hid (hp wr l[j] _ hbt hR)
      have HY : Hid (p l[j] → ∃ x ∈ l, p x) := fun e => ⟨_, List.getElem_mem hjl, e⟩
      have HN : Hid (¬ p l[j] → ∀ x ∈ l.take (j + 1), ¬ p x) := fun e x hx => by
        rw [List.take_succ_eq_append_getElem hjl] at hx
        rcases List.mem_append.1 hx with hx | hx
        · exact HA.out x hx
        · rw [List.mem_singleton] at hx; subst hx; exact e
      clear hR
      go_wp2_with fail
      refine HC.out.mono ?_
      rintro e w3 ⟨b, rfl, hiff, hb⟩
      have hb3 := hbt.trans (hb.mono hbt.size)
      clear HC hb hbt
      cases b with
      | true =>
        have HP := Lib.hid (HY.out (hiff.1 rfl))
        clear hiff
        go_wp2_with fail
        go_ret
        exact ⟨_, rfl, ⟨fun _ => HP.out, fun _ => by omega⟩, hb3⟩
      | false =>
        have HP := Lib.hid (HN.out (fun hh => by have := hiff.2 hh; cases this))
        clear hiff
        go_wp2_with fail
        go_roundw
        case rel => exact ⟨j + 1, by omega, by go_num, HP.out, hb3⟩
        case measure => simp [intOf]; omega
    · obtain rfl : j = n := by omega
      have d1 : decide ((j : Int) < (j : Int)) = false := by simp
      have HE : Hid (¬ ∃ x ∈ l, p x) := by
        rintro ⟨x, hx, hpx⟩
        exact HA.out x (by rw [List.take_of_length_le (by rw [hl.out]; omega)]; exact hx) hpx
      go_wp2_with fail
      go_ret
      exact ⟨_, rfl, ⟨fun hh => by omega, fun hh => absurd hh HE.out⟩, hbt⟩

set_option maxRecDepth 100000 in
theorem cfG_any (A : Option Addr) (n c : Nat) (l : List Sc.Gro) (gf : Nat) (lb : Array Value) (eg : ∀ args w, (callFunc gf args).run Tryz.prog w = .ok (.enter gf args) w) (p : Sc.Gro → Prop) (w : World) (h : RdS 2 Sc.RGro w w.heap.size A n c l) (hp : PredS Sc.RGro gf lb p w) :
    Calls Tryz.prog 42 #[.slice A n c, .func (.func gf) #[] lb] w (Tells (∃ x ∈ l, p x) w) := by
  go_enter Tryz.func42, Tryz.ntmps42
  go_wp2_with fail
  refine (ifG_any A n c l gf lb eg p w h hp).mono ?_
  rintro e w2 ⟨i, rfl, hiff, hb⟩
  go_wp2
  go_ret
  exact ⟨_, rfl, by rw [decide_eq_true_iff]; exact hiff, hb⟩


set_option maxRecDepth 100000 in
set_option maxHeartbeats 4000000 in
theorem ifL_any (A : Option Addr) (n c : Nat) (l : List Sc.Les) (gf : Nat) (lb : Array Value) (eg : ∀ args w, (callFunc gf args).run Tryz.prog w = .ok (.enter gf args) w) (p : Sc.Les → Prop) (w : World) (h : RdS 3 Sc.RLes w w.heap.size A n c l) (hp : PredS Sc.RLes gf lb p w) :
    Calls Tryz.prog 107 #[.slice A n c, .func (.func gf) #[] lb] w fun e w' => ∃ i : Int, e = .returned (.int .i64 i) ∧ (0 ≤ i ↔ ∃ x ∈ l, p x) ∧ Below w.heap.size w w' := by
  have h1 := h.max
  have h2 := h.le
  have hl := Lib.hid (h.len (by omega))
  go_enter Tryz.func107, Tryz.ntmps107
  go_wp2_with fail
  go_loopw [8] (fun i wr => ∃ j : Nat, j ≤ n ∧ i = .int .i64 j ∧ (∀ x ∈ l.take j, ¬ p x) ∧ Below w.heap.size w wr) (fun i _ => n - (intOf i).toNat)
  case atStart => exact ⟨0, by omega, rfl, by simp, Below.refl _ _⟩
  case round =>
    obtain ⟨j, hj, rfl, hall, hbt⟩ := hrel
    have HA := Lib.hid hall
    clear hall
    by_cases hjn : j < n
    · have hjl : j < l.length := by rw [hl.out]; exact hjn
      obtain ⟨ad, r, rfl, _, hr, hR, hc⟩ := RdS.at_ (by omega) ((h.below Sc.lasts_Les hbt).more Sc.lasts_Les hbt.size) hjn hjl
      have d1 : decide ((j : Int) < (n : Int)) = true := by simp; omega
      have d2 : decide (j < n) = true := by simp; omega
      obtain ⟨u0, u1, u2, rfl⟩ : ∃ u0 u1 u2, r = [u0, u1, u2] := by
        match r, hr with
        | [u0, u1, u2], _ => exact ⟨u0, u1, u2, rfl⟩
      have x0 := hc 0 u0 rfl
      have x1 := hc 1 u1 rfl
      have x2 := hc 2 u2 rfl
      rw [Nat.add_zero] at x0
      replace x1 := cell_sub x1
      replace x2 := cell_sub x2
      clear hc hr
      have HC := Lib.hid (hp wr l[j] _ hbt hR)
      have HY : Hid (p l[j] → ∃ x ∈ l, p x) := fun e => ⟨_, List.getElem_mem hjl, e⟩
      have HN : Hid (¬ p l[j] → ∀ x ∈ l.take (j + 1), ¬ p x) := fun e x hx => by
        rw [List.take_succ_eq_append_getElem hjl] at hx
        rcases List.mem_append.1 hx with hx | hx
        · exact HA.out x hx
        · rw [List.mem_singleton] at hx; subst hx; exact e
      clear hR
      go_wp2_with fail
      refine HC.out.mono ?_
      rintro e w3 ⟨b, rfl, hiff, hb⟩
      have hb3 := hbt.trans (hb.mono hbt.size)
      clear HC hb hbt
      cases b with
      | true =>
        have HP := Lib.hid (HY.out (hiff.1 rfl))
        clear hiff
        go_wp2_with fail
        go_ret
        exact ⟨_, rfl, ⟨fun _ => HP.out, fun _ => by omega⟩, hb3⟩
      | false =>
        have HP := Lib.hid (HN.out (fun hh => by have := hiff.2 hh; cases this))
        clear hiff
        go_wp2_with fail
        go_roundw
        case rel => exact ⟨j + 1, by omega, by go_num, HP.out, hb3⟩
        case measure => simp [intOf]; omega
    · obtain rfl : j = n := by omega
      have d1 : decide ((j : Int) < (j : Int)) = false := by simp
      have HE : Hid (¬ ∃ x ∈ l, p x) := by
        rintro ⟨x, hx, hpx⟩
        exact HA.out x (by rw [List.take_of_length_le (by rw [hl.out]; omega)]; exact hx) hpx
      go_wp2_with fail
      go_ret
      exact ⟨_, rfl, ⟨fun hh => by omega, fun hh => absurd hh HE.out⟩, hbt⟩

set_option maxRecDepth 100000 in
theorem cfL_any (A : Option Addr) (n c : Nat) (l : List Sc.Les) (gf : Nat) (lb : Array Value) (eg : ∀ args w, (callFunc gf args).run Tryz.prog w = .ok (.enter gf args) w) (p : Sc.Les → Prop) (w : World) (h : RdS 3 Sc.RLes w w.heap.size A n c l) (hp : PredS Sc.RLes gf lb p w) :
    Calls Tryz.prog 43 #[.slice A n c, .func (.func gf) #[] lb] w (Tells (∃ x ∈ l, p x) w) := by
  go_enter Tryz.func43, Tryz.ntmps43
  go_wp2_with fail
  refine (ifL_any A n c l gf lb eg p w h hp).mono ?_
  rintro e w2 ⟨i, rfl, hiff, hb⟩
  go_wp2
  go_ret
  exact ⟨_, rfl, by rw [decide_eq_true_iff]; exact hiff, hb⟩

end Go.Proofs.YtfockoihmoljfaaGreatDoor

/-
  The walks of each and of the closures that name elements.
-/
namespace Go.Proofs.YtfockoihmoljfaaGreatDoor
open Go.RowKit Go.Shelf
set_option linter.unusedVariables false
set_option linter.unusedSimpArgs false

attribute [local go_sem] Oper.semAt_some
theorem run_equalIn_nilFunc {P : Program} {t : TypeId} {ps rs : Array TypeId} {v : Bool} (ht : P.underlying t = some (.func ps rs v)) (fn : Fn) (a b : Array Value) (d : Nat) (w : World) : (Op.equalIn (d + 1) t (.func fn a b) .nilFunc).run P w = .ok false w := by
  rw [Op.equalIn]
  simp only [Sem.run_bind, run_underlying ht, Result.andThen_ok, Sem.run_pure]
theorem run_neq_nilFunc {P : Program} {t : TypeId} {ps rs : Array TypeId} {v : Bool} (ht : P.underlying t = some (.func ps rs v)) (fn : Fn) (a b : Array Value) (w : World) : (binOp .neq t (.func fn a b) .nilFunc).run P w = .ok (.bool true) w := by
  have h := run_equalIn_nilFunc ht fn a b (Op.maxDepth - 1) w
  have e : Op.maxDepth - 1 + 1 = Op.maxDepth := rfl
  rw [e] at h
  simp [binOp, go_sem, Op.equal, h]
/-- What yield is handed: the index and the name. -/
def elY (ls : List (List UInt8)) (i : Nat) (args : Array Value) (W : World) : Prop := ∃ s, ls[i]? = some s ∧ args = #[.int .i64 (i : Int), .string (strOf s)]
/-- What a round keeps for the iterator: what lay below n. -/
def KpN (n : Nat) (A B : World) : Prop := Below n A B


theorem sname1_any (s : List UInt8) (u1 : Value) (u2 : Value) (w : World) (hu1 : u1.oneCell' = true) (hu2 : u2.oneCell' = true) :
    Calls Tryz.prog 89 #[.agg #[.string (strOf s), u1, u2]] w fun e w' => e = .returned (.string (strOf s)) ∧ Below w.heap.size w w' := by
  have hb := (Below.refl w.heap.size w).alloc (Nat.le_refl _) (.cells #[.string (strOf s), u1, u2] 59)
  go_enter Tryz.func89, Tryz.ntmps89
  go_wp2_with fail
  go_ret
  exact ⟨rfl, hb⟩


set_option maxRecDepth 100000 in
set_option maxHeartbeats 4000000 in
theorem seachL_in (l0 : Nat) (A : Option Addr) (n c : Nat) (l : List Sc.Les) (n₀ : Nat) (J Jx : Nat → World → Prop) (W : World) (h : RdS 3 Sc.RLes W n₀ A n c l) (hn₀ : n₀ ≤ W.heap.size)
    (hJ : ∀ i A B, J i A → Below A.heap.size A B → J i B)
    (hY : ∀ i args W1, i < l.length → J i W1 → elY (l.map (·.name)) i args W1 → YieldAt Fence.wide 1 Tryz.prog l0 args W1 fun e W' =>
      (e = .returned (.bool true) ∧ J (i + 1) W' ∧ KpN n₀ W1 W') ∨ (e = .returned (.bool false) ∧ Jx (i + 1) W'))
    (h0 : J 0 W) :
    Calls Tryz.prog 88 #[.slice A n c, .func (.func 89) #[] #[], .func (.yield l0) #[] #[]] W fun e W' => (∃ v, e = .returned v) ∧ (J l.length W' ∨ ∃ i, i ≤ l.length ∧ Jx i W') := by
  have h1 := h.max
  have h2 := h.le
  have hl := Lib.hid (h.len (by omega))
  have HJ := Lib.hid hJ
  have HY := Lib.hid hY
  clear hJ hY
  refine (callsIn_wide (n := 2)).1 ?_
  refine callsIn_of_wp Tryz.func88 rfl trivial ?_ rfl
  simp only [Tryz.ntmps88, List.size_toArray, List.length_cons, List.length_nil, Nat.reduceAdd, Nat.reduceSub, Array.replicate_succ, Array.replicate_zero, List.push_toArray, List.append_toArray, List.nil_append, List.cons_append]
  gi_wp2
  gi_loopw [11] (fun p wr => ∃ j : Nat, p = .int .i64 j ∧ j ≤ n ∧ J j wr ∧ RdS 3 Sc.RLes wr n₀ A n c l ∧ n₀ ≤ wr.heap.size) (fun p _ => n - (intOf p).toNat)
  case atStart => exact ⟨0, rfl, by omega, h0, h, hn₀⟩
  case round =>
    clear h h0
    obtain ⟨j, rfl, hj, hJs, h, hsz⟩ := hrel
    by_cases hjn : j < n
    · have hjl : j < l.length := by rw [hl.out]; exact hjn
      obtain ⟨ad, r, rfl, hadb, hr, hR, hc⟩ := RdS.at_ (by omega) h hjn hjl
      have d1 : decide ((j : Int) < (n : Int)) = true := by simp; omega
      have d2 : decide (j < n) = true := by simp; omega
      obtain ⟨A1, c1, A2, c2, rfl, _, _, _⟩ := hR
      clear hr
      have x0 := hc 0 _ rfl
      have x1 := hc 1 _ rfl
      have x2 := hc 2 _ rfl
      rw [Nat.add_zero] at x0
      replace x1 := cell_sub x1
      replace x2 := cell_sub x2
      clear hc
      have HYj := Lib.hid (fun W1 hj1 => HY.out j #[.int .i64 (j : Int), .string (strOf l[j].name)] W1 hjl hj1 ⟨_, by rw [List.getElem?_map, List.getElem?_eq_getElem hjl]; rfl, rfl⟩)
      generalize l[j] = x at *
      have hneq := fun w => run_neq_nilFunc (P := Tryz.prog) Tryz.underlying127 (.func 89) #[] #[] w
      gi_wp2_with fail
      refine ⟨trivial, ?_⟩
      refine CallsIn.mono (callsIn_wide.2 (sname1_any x.name _ _ _ rfl rfl)) ?_
      rintro e w2 ⟨rfl, hb⟩
      have hb2 : Below wr.heap.size wr w2 := ((Below.refl _ wr).alloc (Nat.le_refl _) _).trans (hb.mono (by simp))
      have hJ2 := HJ.out _ _ _ hJs hb2
      have h2w := h.below Sc.lasts_Les (hb2.mono hsz)
      have hsz2 : n₀ ≤ w2.heap.size := Nat.le_trans hsz hb2.size
      obtain ⟨fn, tmps, assign, body, hy, hR⟩ := HYj.out w2 hJ2
      have HR := Lib.hid hR
      clear hR HYj hb
      gi_wp2
      refine HR.out.mono ?_
      rintro e W3 (⟨rfl, hJ3, hk3⟩ | ⟨rfl, hJx3⟩)
      · have h3w := h2w.below Sc.lasts_Les hk3
        gi_wp2
        go_roundw
        case rel => exact ⟨j + 1, by go_num, by omega, hJ3, h3w, Nat.le_trans hsz2 hk3.size⟩
        case measure => simp [intOf]; omega
      · gi_wp2
        refine bodyPost_ret (results_none rfl _ _ _) rfl ?_
        exact ⟨⟨_, rfl⟩, .inr ⟨j + 1, hjl, hJx3⟩⟩
    · obtain rfl : j = n := by omega
      have d1 : decide ((j : Int) < (j : Int)) = false := by simp
      gi_wp2
      refine bodyPost_end (results_none rfl _ _ _) rfl ?_
      exact ⟨⟨_, rfl⟩, .inl (by rw [hl.out]; exact hJs)⟩


theorem sname2_any (s : List UInt8) (u1 : Value) (u2 : Value) (w : World) (hu1 : u1.oneCell' = true) (hu2 : u2.oneCell' = true) :
    Calls Tryz.prog 91 #[.agg #[.string (strOf s), u1, u2]] w fun e w' => e = .returned (.string (strOf s)) ∧ Below w.heap.size w w' := by
  have hb := (Below.refl w.heap.size w).alloc (Nat.le_refl _) (.cells #[.string (strOf s), u1, u2] 69)
  go_enter Tryz.func91, Tryz.ntmps91
  go_wp2_with fail
  go_ret
  exact ⟨rfl, hb⟩


set_option maxRecDepth 100000 in
set_option maxHeartbeats 4000000 in
theorem seachS_in (l0 : Nat) (A : Option Addr) (n c : Nat) (l : List Sc.Slo) (n₀ : Nat) (J Jx : Nat → World → Prop) (W : World) (h : RdS 3 Sc.RSlo W n₀ A n c l) (hn₀ : n₀ ≤ W.heap.size)
    (hJ : ∀ i A B, J i A → Below A.heap.size A B → J i B)
    (hY : ∀ i args W1, i < l.length → J i W1 → elY (l.map (·.name)) i args W1 → YieldAt Fence.wide 1 Tryz.prog l0 args W1 fun e W' =>
      (e = .returned (.bool true) ∧ J (i + 1) W' ∧ KpN n₀ W1 W') ∨ (e = .returned (.bool false) ∧ Jx (i + 1) W'))
    (h0 : J 0 W) :
    Calls Tryz.prog 90 #[.slice A n c, .func (.func 91) #[] #[], .func (.yield l0) #[] #[]] W fun e W' => (∃ v, e = .returned v) ∧ (J l.length W' ∨ ∃ i, i ≤ l.length ∧ Jx i W') := by
  have h1 := h.max
  have h2 := h.le
  have hl := Lib.hid (h.len (by omega))
  have HJ := Lib.hid hJ
  have HY := Lib.hid hY
  clear hJ hY
  refine (callsIn_wide (n := 2)).1 ?_
  refine callsIn_of_wp Tryz.func90 rfl trivial ?_ rfl
  simp only [Tryz.ntmps90, List.size_toArray, List.length_cons, List.length_nil, Nat.reduceAdd, Nat.reduceSub, Array.replicate_succ, Array.replicate_zero, List.push_toArray, List.append_toArray, List.nil_append, List.cons_append]
  gi_wp2
  gi_loopw [11] (fun p wr => ∃ j : Nat, p = .int .i64 j ∧ j ≤ n ∧ J j wr ∧ RdS 3 Sc.RSlo wr n₀ A n c l ∧ n₀ ≤ wr.heap.size) (fun p _ => n - (intOf p).toNat)
  case atStart => exact ⟨0, rfl, by omega, h0, h, hn₀⟩
  case round =>
    clear h h0
    obtain ⟨j, rfl, hj, hJs, h, hsz⟩ := hrel
    by_cases hjn : j < n
    · have hjl : j < l.length := by rw [hl.out]; exact hjn
      obtain ⟨ad, r, rfl, hadb, hr, hR, hc⟩ := RdS.at_ (by omega) h hjn hjl
      have d1 : decide ((j : Int) < (n : Int)) = true := by simp; omega
      have d2 : decide (j < n) = true := by simp; omega
      obtain ⟨rfl, _, _, _⟩ := hR
      clear hr
      have x0 := hc 0 _ rfl
      have x1 := hc 1 _ rfl
      have x2 := hc 2 _ rfl
      rw [Nat.add_zero] at x0
      replace x1 := cell_sub x1
      replace x2 := cell_sub x2
      clear hc
      have HYj := Lib.hid (fun W1 hj1 => HY.out j #[.int .i64 (j : Int), .string (strOf l[j].name)] W1 hjl hj1 ⟨_, by rw [List.getElem?_map, List.getElem?_eq_getElem hjl]; rfl, rfl⟩)
      generalize l[j] = x at *
      have hneq := fun w => run_neq_nilFunc (P := Tryz.prog) Tryz.underlying129 (.func 91) #[] #[] w
      gi_wp2_with fail
      refine ⟨trivial, ?_⟩
      refine CallsIn.mono (callsIn_wide.2 (sname2_any x.name _ _ _ rfl rfl)) ?_
      rintro e w2 ⟨rfl, hb⟩
      have hb2 : Below wr.heap.size wr w2 := ((Below.refl _ wr).alloc (Nat.le_refl _) _).trans (hb.mono (by simp))
      have hJ2 := HJ.out _ _ _ hJs hb2
      have h2w := h.below Sc.lasts_Slo (hb2.mono hsz)
      have hsz2 : n₀ ≤ w2.heap.size := Nat.le_trans hsz hb2.size
      obtain ⟨fn, tmps, assign, body, hy, hR⟩ := HYj.out w2 hJ2
      have HR := Lib.hid hR
      clear hR HYj hb
      gi_wp2
      refine HR.out.mono ?_
      rintro e W3 (⟨rfl, hJ3, hk3⟩ | ⟨rfl, hJx3⟩)
      · have h3w := h2w.below Sc.lasts_Slo hk3
        gi_wp2
        go_roundw
        case rel => exact ⟨j + 1, by go_num, by omega, hJ3, h3w, Nat.le_trans hsz2 hk3.size⟩
        case measure => simp [intOf]; omega
      · gi_wp2
        refine bodyPost_ret (results_none rfl _ _ _) rfl ?_
        exact ⟨⟨_, rfl⟩, .inr ⟨j + 1, hjl, hJx3⟩⟩
    · obtain rfl : j = n := by omega
      have d1 : decide ((j : Int) < (j : Int)) = false := by simp
      gi_wp2
      refine bodyPost_end (results_none rfl _ _ _) rfl ?_
      exact ⟨⟨_, rfl⟩, .inl (by rw [hl.out]; exact hJs)⟩


theorem sname3_any (s : List UInt8) (u1 : Value) (u2 : Value) (u3 : Value) (w : World) (hu1 : u1.oneCell' = true) (hu2 : u2.oneCell' = true) (hu3 : u3.oneCell' = true) :
    Calls Tryz.prog 93 #[.agg #[.string (strOf s), u1, u2, u3]] w fun e w' => e = .returned (.string (strOf s)) ∧ Below w.heap.size w w' := by
  have hb := (Below.refl w.heap.size w).alloc (Nat.le_refl _) (.cells #[.string (strOf s), u1, u2, u3] 53)
  go_enter Tryz.func93, Tryz.ntmps93
  go_wp2_with fail
  go_ret
  exact ⟨rfl, hb⟩


set_option maxRecDepth 100000 in
set_option maxHeartbeats 4000000 in
theorem seachR_in (l0 : Nat) (A : Option Addr) (n c : Nat) (l : List Sc.Roo) (n₀ : Nat) (J Jx : Nat → World → Prop) (W : World) (h : RdS 4 Sc.RRoo W n₀ A n c l) (hn₀ : n₀ ≤ W.heap.size)
    (hJ : ∀ i A B, J i A → Below A.heap.size A B → J i B)
    (hY : ∀ i args W1, i < l.length → J i W1 → elY (l.map (·.name)) i args W1 → YieldAt Fence.wide 1 Tryz.prog l0 args W1 fun e W' =>
      (e = .returned (.bool true) ∧ J (i + 1) W' ∧ KpN n₀ W1 W') ∨ (e = .returned (.bool false) ∧ Jx (i + 1) W'))
    (h0 : J 0 W) :
    Calls Tryz.prog 92 #[.slice A n c, .func (.func 93) #[] #[], .func (.yield l0) #[] #[]] W fun e W' => (∃ v, e = .returned v) ∧ (J l.length W' ∨ ∃ i, i ≤ l.length ∧ Jx i W') := by
  have h1 := h.max
  have h2 := h.le
  have hl := Lib.hid (h.len (by omega))
  have HJ := Lib.hid hJ
  have HY := Lib.hid hY
  clear hJ hY
  refine (callsIn_wide (n := 2)).1 ?_
  refine callsIn_of_wp Tryz.func92 rfl trivial ?_ rfl
  simp only [Tryz.ntmps92, List.size_toArray, List.length_cons, List.length_nil, Nat.reduceAdd, Nat.reduceSub, Array.replicate_succ, Array.replicate_zero, List.push_toArray, List.append_toArray, List.nil_append, List.cons_append]
  gi_wp2
  gi_loopw [11] (fun p wr => ∃ j : Nat, p = .int .i64 j ∧ j ≤ n ∧ J j wr ∧ RdS 4 Sc.RRoo wr n₀ A n c l ∧ n₀ ≤ wr.heap.size) (fun p _ => n - (intOf p).toNat)
  case atStart => exact ⟨0, rfl, by omega, h0, h, hn₀⟩
  case round =>
    clear h h0
    obtain ⟨j, rfl, hj, hJs, h, hsz⟩ := hrel
    by_cases hjn : j < n
    · have hjl : j < l.length := by rw [hl.out]; exact hjn
      obtain ⟨ad, r, rfl, hadb, hr, hR, hc⟩ := RdS.at_ (by omega) h hjn hjl
      have d1 : decide ((j : Int) < (n : Int)) = true := by simp; omega
      have d2 : decide (j < n) = true := by simp; omega
      obtain ⟨A1, c1, rfl, _, _, _, _⟩ := hR
      clear hr
      have x0 := hc 0 _ rfl
      have x1 := hc 1 _ rfl
      have x2 := hc 2 _ rfl
      have x3 := hc 3 _ rfl
      rw [Nat.add_zero] at x0
      replace x1 := cell_sub x1
      replace x2 := cell_sub x2
      replace x3 := cell_sub x3
      clear hc
      have HYj := Lib.hid (fun W1 hj1 => HY.out j #[.int .i64 (j : Int), .string (strOf l[j].name)] W1 hjl hj1 ⟨_, by rw [List.getElem?_map, List.getElem?_eq_getElem hjl]; rfl, rfl⟩)
      generalize l[j] = x at *
      have hneq := fun w => run_neq_nilFunc (P := Tryz.prog) Tryz.underlying131 (.func 93) #[] #[] w
      gi_wp2_with fail
      refine ⟨trivial, ?_⟩
      refine CallsIn.mono (callsIn_wide.2 (sname3_any x.name _ _ _ _ rfl rfl rfl)) ?_
      rintro e w2 ⟨rfl, hb⟩
      have hb2 : Below wr.heap.size wr w2 := ((Below.refl _ wr).alloc (Nat.le_refl _) _).trans (hb.mono (by simp))
      have hJ2 := HJ.out _ _ _ hJs hb2
      have h2w := h.below Sc.lasts_Roo (hb2.mono hsz)
      have hsz2 : n₀ ≤ w2.heap.size := Nat.le_trans hsz hb2.size
      obtain ⟨fn, tmps, assign, body, hy, hR⟩ := HYj.out w2 hJ2
      have HR := Lib.hid hR
      clear hR HYj hb
      gi_wp2
      refine HR.out.mono ?_
      rintro e W3 (⟨rfl, hJ3, hk3⟩ | ⟨rfl, hJx3⟩)
      · have h3w := h2w.below Sc.lasts_Roo hk3
        gi_wp2
        go_roundw
        case rel => exact ⟨j + 1, by go_num, by omega, hJ3, h3w, Nat.le_trans hsz2 hk3.size⟩
        case measure => simp [intOf]; omega
      · gi_wp2
        refine bodyPost_ret (results_none rfl _ _ _) rfl ?_
        exact ⟨⟨_, rfl⟩, .inr ⟨j + 1, hjl, hJx3⟩⟩
    · obtain rfl : j = n := by omega
      have d1 : decide ((j : Int) < (j : Int)) = false := by simp
      gi_wp2
      refine bodyPost_end (results_none rfl _ _ _) rfl ?_
      exact ⟨⟨_, rfl⟩, .inl (by rw [hl.out]; exact hJs)⟩


theorem sname4_any (s : List UInt8) (u1 : Value) (w : World) (hu1 : u1.oneCell' = true) :
    Calls Tryz.prog 95 #[.agg #[.string (strOf s), u1]] w fun e w' => e = .returned (.string (strOf s)) ∧ Below w.heap.size w w' := by
  have hb := (Below.refl w.heap.size w).alloc (Nat.le_refl _) (.cells #[.string (strOf s), u1] 57)
  go_enter Tryz.func95, Tryz.ntmps95
  go_wp2_with fail
  go_ret
  exact ⟨rfl, hb⟩


set_option maxRecDepth 100000 in
set_option maxHeartbeats 4000000 in
theorem seachP_in (l0 : Nat) (A : Option Addr) (n c : Nat) (l : List Sc.Per) (n₀ : Nat) (J Jx : Nat → World → Prop) (W : World) (h : RdS 2 Sc.RPer W n₀ A n c l) (hn₀ : n₀ ≤ W.heap.size)
    (hJ : ∀ i A B, J i A → Below A.heap.size A B → J i B)
    (hY : ∀ i args W1, i < l.length → J i W1 → elY (l.map (·.name)) i args W1 → YieldAt Fence.wide 1 Tryz.prog l0 args W1 fun e W' =>
      (e = .returned (.bool true) ∧ J (i + 1) W' ∧ KpN n₀ W1 W') ∨ (e = .returned (.bool false) ∧ Jx (i + 1) W'))
    (h0 : J 0 W) :
    Calls Tryz.prog 94 #[.slice A n c, .func (.func 95) #[] #[], .func (.yield l0) #[] #[]] W fun e W' => (∃ v, e = .returned v) ∧ (J l.length W' ∨ ∃ i, i ≤ l.length ∧ Jx i W') := by
  have h1 := h.max
  have h2 := h.le
  have hl := Lib.hid (h.len (by omega))
  have HJ := Lib.hid hJ
  have HY := Lib.hid hY
  clear hJ hY
  refine (callsIn_wide (n := 2)).1 ?_
  refine callsIn_of_wp Tryz.func94 rfl trivial ?_ rfl
  simp only [Tryz.ntmps94, List.size_toArray, List.length_cons, List.length_nil, Nat.reduceAdd, Nat.reduceSub, Array.replicate_succ, Array.replicate_zero, List.push_toArray, List.append_toArray, List.nil_append, List.cons_append]
  gi_wp2
  gi_loopw [11] (fun p wr => ∃ j : Nat, p = .int .i64 j ∧ j ≤ n ∧ J j wr ∧ RdS 2 Sc.RPer wr n₀ A n c l ∧ n₀ ≤ wr.heap.size) (fun p _ => n - (intOf p).toNat)
  case atStart => exact ⟨0, rfl, by omega, h0, h, hn₀⟩
  case round =>
    clear h h0
    obtain ⟨j, rfl, hj, hJs, h, hsz⟩ := hrel
    by_cases hjn : j < n
    · have hjl : j < l.length := by rw [hl.out]; exact hjn
      obtain ⟨ad, r, rfl, hadb, hr, hR, hc⟩ := RdS.at_ (by omega) h hjn hjl
      have d1 : decide ((j : Int) < (n : Int)) = true := by simp; omega
      have d2 : decide (j < n) = true := by simp; omega
      obtain ⟨A1, c1, rfl, _, _⟩ := hR
      clear hr
      have x0 := hc 0 _ rfl
      have x1 := hc 1 _ rfl
      rw [Nat.add_zero] at x0
      replace x1 := cell_sub x1
      clear hc
      have HYj := Lib.hid (fun W1 hj1 => HY.out j #[.int .i64 (j : Int), .string (strOf l[j].name)] W1 hjl hj1 ⟨_, by rw [List.getElem?_map, List.getElem?_eq_getElem hjl]; rfl, rfl⟩)
      generalize l[j] = x at *
      have hneq := fun w => run_neq_nilFunc (P := Tryz.prog) Tryz.underlying133 (.func 95) #[] #[] w
      gi_wp2_with fail
      refine ⟨trivial, ?_⟩
      refine CallsIn.mono (callsIn_wide.2 (sname4_any x.name _ _ rfl)) ?_
      rintro e w2 ⟨rfl, hb⟩
      have hb2 : Below wr.heap.size wr w2 := ((Below.refl _ wr).alloc (Nat.le_refl _) _).trans (hb.mono (by simp))
      have hJ2 := HJ.out _ _ _ hJs hb2
      have h2w := h.below Sc.lasts_Per (hb2.mono hsz)
      have hsz2 : n₀ ≤ w2.heap.size := Nat.le_trans hsz hb2.size
      obtain ⟨fn, tmps, assign, body, hy, hR⟩ := HYj.out w2 hJ2
      have HR := Lib.hid hR
      clear hR HYj hb
      gi_wp2
      refine HR.out.mono ?_
      rintro e W3 (⟨rfl, hJ3, hk3⟩ | ⟨rfl, hJx3⟩)
      · have h3w := h2w.below Sc.lasts_Per hk3
        gi_wp2
        go_roundw
        case rel => exact ⟨j + 1, by go_num, by omega, hJ3, h3w, Nat.le_trans hsz2 hk3.size⟩
        case measure => simp [intOf]; omega
      · gi_wp2
        refine bodyPost_ret (results_none rfl _ _ _) rfl ?_
        exact ⟨⟨_, rfl⟩, .inr ⟨j + 1, hjl, hJx3⟩⟩
    · obtain rfl : j = n := by omega
      have d1 : decide ((j : Int) < (j : Int)) = false := by simp
      gi_wp2
      refine bodyPost_end (results_none rfl _ _ _) rfl ?_
      exact ⟨⟨_, rfl⟩, .inl (by rw [hl.out]; exact hJs)⟩


theorem sname5_any (s : List UInt8) (u1 : Value) (w : World) (hu1 : u1.oneCell' = true) :
    Calls Tryz.prog 97 #[.agg #[.string (strOf s), u1]] w fun e w' => e = .returned (.string (strOf s)) ∧ Below w.heap.size w w' := by
  have hb := (Below.refl w.heap.size w).alloc (Nat.le_refl _) (.cells #[.string (strOf s), u1] 49)
  go_enter Tryz.func97, Tryz.ntmps97
  go_wp2_with fail
  go_ret
  exact ⟨rfl, hb⟩


set_option maxRecDepth 100000 in
set_option maxHeartbeats 4000000 in
theorem seachG_in (l0 : Nat) (A : Option Addr) (n c : Nat) (l : List Sc.Gro) (n₀ : Nat) (J Jx : Nat → World → Prop) (W : World) (h : RdS 2 Sc.RGro W n₀ A n c l) (hn₀ : n₀ ≤ W.heap.size)
    (hJ : ∀ i A B, J i A → Below A.heap.size A B → J i B)
    (hY : ∀ i args W1, i < l.length → J i W1 → elY (l.map (·.name)) i args W1 → YieldAt Fence.wide 1 Tryz.prog l0 args W1 fun e W' =>
      (e = .returned (.bool true) ∧ J (i + 1) W' ∧ KpN n₀ W1 W') ∨ (e = .returned (.bool false) ∧ Jx (i + 1) W'))
    (h0 : J 0 W) :
    Calls Tryz.prog 96 #[.slice A n c, .func (.func 97) #[] #[], .func (.yield l0) #[] #[]] W fun e W' => (∃ v, e = .returned v) ∧ (J l.length W' ∨ ∃ i, i ≤ l.length ∧ Jx i W') := by
  have h1 := h.max
  have h2 := h.le
  have hl := Lib.hid (h.len (by omega))
  have HJ := Lib.hid hJ
  have HY := Lib.hid hY
  clear hJ hY
  refine (callsIn_wide (n := 2)).1 ?_
  refine callsIn_of_wp Tryz.func96 rfl trivial ?_ rfl
  simp only [Tryz.ntmps96, List.size_toArray, List.length_cons, List.length_nil, Nat.reduceAdd, Nat.reduceSub, Array.replicate_succ, Array.replicate_zero, List.push_toArray, List.append_toArray, List.nil_append, List.cons_append]
  gi_wp2
  gi_loopw [11] (fun p wr => ∃ j : Nat, p = .int .i64 j ∧ j ≤ n ∧ J j wr ∧ RdS 2 Sc.RGro wr n₀ A n c l ∧ n₀ ≤ wr.heap.size) (fun p _ => n - (intOf p).toNat)
  case atStart => exact ⟨0, rfl, by omega, h0, h, hn₀⟩
  case round =>
    clear h h0
    obtain ⟨j, rfl, hj, hJs, h, hsz⟩ := hrel
    by_cases hjn : j < n
    · have hjl : j < l.length := by rw [hl.out]; exact hjn
      obtain ⟨ad, r, rfl, hadb, hr, hR, hc⟩ := RdS.at_ (by omega) h hjn hjl
      have d1 : decide ((j : Int) < (n : Int)) = true := by simp; omega
      have d2 : decide (j < n) = true := by simp; omega
      obtain ⟨rfl, _, _⟩ := hR
      clear hr
      have x0 := hc 0 _ rfl
      have x1 := hc 1 _ rfl
      rw [Nat.add_zero] at x0
      replace x1 := cell_sub x1
      clear hc
      have HYj := Lib.hid (fun W1 hj1 => HY.out j #[.int .i64 (j : Int), .string (strOf l[j].name)] W1 hjl hj1 ⟨_, by rw [List.getElem?_map, List.getElem?_eq_getElem hjl]; rfl, rfl⟩)
      generalize l[j] = x at *
      have hneq := fun w => run_neq_nilFunc (P := Tryz.prog) Tryz.underlying135 (.func 97) #[] #[] w
      gi_wp2_with fail
      refine ⟨trivial, ?_⟩
      refine CallsIn.mono (callsIn_wide.2 (sname5_any x.name _ _ rfl)) ?_
      rintro e w2 ⟨rfl, hb⟩
      have hb2 : Below wr.heap.size wr w2 := ((Below.refl _ wr).alloc (Nat.le_refl _) _).trans (hb.mono (by simp))
      have hJ2 := HJ.out _ _ _ hJs hb2
      have h2w := h.below Sc.lasts_Gro (hb2.mono hsz)
      have hsz2 : n₀ ≤ w2.heap.size := Nat.le_trans hsz hb2.size
      obtain ⟨fn, tmps, assign, body, hy, hR⟩ := HYj.out w2 hJ2
      have HR := Lib.hid hR
      clear hR HYj hb
      gi_wp2
      refine HR.out.mono ?_
      rintro e W3 (⟨rfl, hJ3, hk3⟩ | ⟨rfl, hJx3⟩)
      · have h3w := h2w.below Sc.lasts_Gro hk3
        gi_wp2
        go_roundw
        case rel => exact ⟨j + 1, by go_num, by omega, hJ3, h3w, Nat.le_trans hsz2 hk3.size⟩
        case measure => simp [intOf]; omega
      · gi_wp2
        refine bodyPost_ret (results_none rfl _ _ _) rfl ?_
        exact ⟨⟨_, rfl⟩, .inr ⟨j + 1, hjl, hJx3⟩⟩
    · obtain rfl : j = n := by omega
      have d1 : decide ((j : Int) < (j : Int)) = false := by simp
      gi_wp2
      refine bodyPost_end (results_none rfl _ _ _) rfl ?_
      exact ⟨⟨_, rfl⟩, .inl (by rw [hl.out]; exact hJs)⟩

end Go.Proofs.YtfockoihmoljfaaGreatDoor

/-
  The walks of elements and of its iterator at the sorts 1 to 5.
-/
namespace Go.Proofs.YtfockoihmoljfaaGreatDoor
open Go.RowKit Go.Shelf
set_option linter.unusedVariables false
set_option linter.unusedSimpArgs false

attribute [local go_sem] Oper.semAt_some
/-- What a round keeps for the iterator: what lay below m, and its two boxes. -/
def KpE (m bK bS : Nat) (A B : World) : Prop := Below m A B ∧ B.heap[bK]? = A.heap[bK]? ∧ B.heap[bS]? = A.heap[bS]?
theorem elements_any (f : Sc.Five) (k : Int) (w : World) :
    Calls Tryz.prog 32 #[.agg f.vals, .int .i64 k] w fun e w' => e = .returned (.func (.func 87) #[] #[.pointer (some ⟨w.heap.size + 1, 0, none⟩), .pointer (some ⟨w.heap.size, 0, none⟩)]) ∧ w' = (w.alloc (.cells f.vals 28)).alloc (.cells #[.int .i64 k] 3) := by
  unfold Sc.Five.vals
  go_enter Tryz.func32, Tryz.ntmps32
  go_wp2
  go_ret
  exact ⟨rfl, rfl⟩

set_option maxRecDepth 100000 in
set_option maxHeartbeats 4000000 in
theorem elements1_iter (bK bS m : Nat) (k : Int) (f : Sc.Five) (s : Sc.Sch) (w : World) (b1 : w.heap[bK]? = some (.cells #[.int .i64 k] 3)) (b2 : w.heap[bS]? = some (.cells f.vals 28)) (h : Sc.RdSch w m f s) (hm : m ≤ w.heap.size) (hk1 : 1 ≤ k) (hk2 : k ≤ 5) :
    Iter Tryz.prog 87 #[.pointer (some ⟨bK, 0, none⟩), .pointer (some ⟨bS, 0, none⟩)] (fun A B => Below A.heap.size A B) (KpE m bK bS) (Sc.names s k).length (elY (Sc.names s k)) w := by
  intro l0 J Jx W hKw hJ hJx hY h0
  have b1 := hKw.2.1.trans b1
  have b2 := hKw.2.2.trans b2
  have h := h.below hKw.1
  have hmW : m ≤ W.heap.size := Nat.le_trans hm hKw.1.size
  have HJ := Lib.hid hJ
  have HY : Hid (∀ i args W1, i < (Sc.names s k).length → J i W1 → elY (Sc.names s k) i args W1 → YieldAt Fence.wide 1 Tryz.prog l0 args W1 fun e W' => (e = .returned (.bool true) ∧ J (i + 1) W' ∧ KpN m W1 W') ∨ (e = .returned (.bool false) ∧ Jx (i + 1) W')) := fun i args W1 hi hj hy => by
    obtain ⟨fn, tmps, assign, body, hq, hR⟩ := hY i args W1 hi hj hy
    refine ⟨fn, tmps, assign, body, hq, hR.mono ?_⟩
    rintro e W' (⟨rfl, h1, h2⟩ | ⟨rfl, h1⟩)
    · exact .inl ⟨rfl, h1, h2.1⟩
    · exact .inr ⟨rfl, h1⟩
  clear hJ hJx hY hKw
  unfold Sc.Five.vals at b2
  have c0 := blk_cell (j := 0) b1
  have e0 := blk_cell (j := 0) b2
  have e1 := blk_cell (j := 1) b2
  have e2 := blk_cell (j := 2) b2
  have e3 := blk_cell (j := 3) b2
  have e4 := blk_cell (j := 4) b2
  simp only [List.getElem?_toArray, List.getElem?_cons_zero, List.getElem?_cons_succ] at c0 e0 e1 e2 e3 e4
  refine callsIn_of_wp Tryz.func87 rfl trivial ?_ rfl
  simp only [Tryz.ntmps87, List.size_toArray, List.length_cons, List.length_nil, Nat.reduceAdd, Nat.reduceSub, Array.replicate_succ, Array.replicate_zero, List.push_toArray, List.append_toArray, List.nil_append, List.cons_append]
  have hcases : k = 1 ∨ k = 2 ∨ k = 3 ∨ k = 4 ∨ k = 5 := by omega
  rcases hcases with rfl | rfl | rfl | rfl | rfl
  · gi_wp2_with fail
    refine ⟨trivial, ?_⟩
    refine CallsIn.mono (callsIn_wide.2 (seachL_in l0 f.aL f.nL f.cL s.lessons m J Jx W h.lessons hmW HJ.out ?_ h0)) ?_
    · intro i args W1 hi hj hy
      exact HY.out i args W1 (by show _ < (List.map _ _).length; rw [List.length_map]; exact hi) hj hy
    rintro e W2 ⟨⟨v, rfl⟩, hend⟩
    gi_wp2
    refine bodyPost_end (results_none rfl _ _ _) rfl ?_
    have hl : (Sc.names s 1).length = s.lessons.length := by show (List.map _ _).length = _; rw [List.length_map]
    rw [hl]
    exact ⟨⟨_, rfl⟩, hend⟩
  · gi_wp2_with fail
    refine ⟨trivial, ?_⟩
    refine CallsIn.mono (callsIn_wide.2 (seachS_in l0 f.aS f.nS f.cS s.slots m J Jx W h.slots hmW HJ.out ?_ h0)) ?_
    · intro i args W1 hi hj hy
      exact HY.out i args W1 (by show _ < (List.map _ _).length; rw [List.length_map]; exact hi) hj hy
    rintro e W2 ⟨⟨v, rfl⟩, hend⟩
    gi_wp2
    refine bodyPost_end (results_none rfl _ _ _) rfl ?_
    have hl : (Sc.names s 2).length = s.slots.length := by show (List.map _ _).length = _; rw [List.length_map]
    rw [hl]
    exact ⟨⟨_, rfl⟩, hend⟩
  · gi_wp2_with fail
    refine ⟨trivial, ?_⟩
    refine CallsIn.mono (callsIn_wide.2 (seachR_in l0 f.aR f.nR f.cR s.rooms m J Jx W h.rooms hmW HJ.out ?_ h0)) ?_
    · intro i args W1 hi hj hy
      exact HY.out i args W1 (by show _ < (List.map _ _).length; rw [List.length_map]; exact hi) hj hy
    rintro e W2 ⟨⟨v, rfl⟩, hend⟩
    gi_wp2
    refine bodyPost_end (results_none rfl _ _ _) rfl ?_
    have hl : (Sc.names s 3).length = s.rooms.length := by show (List.map _ _).length = _; rw [List.length_map]
    rw [hl]
    exact ⟨⟨_, rfl⟩, hend⟩
  · gi_wp2_with fail
    refine ⟨trivial, ?_⟩
    refine CallsIn.mono (callsIn_wide.2 (seachP_in l0 f.aP f.nP f.cP s.people m J Jx W h.people hmW HJ.out ?_ h0)) ?_
    · intro i args W1 hi hj hy
      exact HY.out i args W1 (by show _ < (List.map _ _).length; rw [List.length_map]; exact hi) hj hy
    rintro e W2 ⟨⟨v, rfl⟩, hend⟩
    gi_wp2
    refine bodyPost_end (results_none rfl _ _ _) rfl ?_
    have hl : (Sc.names s 4).length = s.people.length := by show (List.map _ _).length = _; rw [List.length_map]
    rw [hl]
    exact ⟨⟨_, rfl⟩, hend⟩
  · gi_wp2_with fail
    refine ⟨trivial, ?_⟩
    refine CallsIn.mono (callsIn_wide.2 (seachG_in l0 f.aG f.nG f.cG s.groups m J Jx W h.groups hmW HJ.out ?_ h0)) ?_
    · intro i args W1 hi hj hy
      exact HY.out i args W1 (by show _ < (List.map _ _).length; rw [List.length_map]; exact hi) hj hy
    rintro e W2 ⟨⟨v, rfl⟩, hend⟩
    gi_wp2
    refine bodyPost_end (results_none rfl _ _ _) rfl ?_
    have hl : (Sc.names s 5).length = s.groups.length := by show (List.map _ _).length = _; rw [List.length_map]
    rw [hl]
    exact ⟨⟨_, rfl⟩, hend⟩
end Go.Proofs.YtfockoihmoljfaaGreatDoor

