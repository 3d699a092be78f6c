/-
  Words that the walks share: TextW, IntsW, Codec.
-/
import Derived.Test.YtfockoihmoljfaaGreatDoorLotO
import Derived.Laws.BytesArg
import Derived.Deep.QuietTactic
import Derived.BigQuiet
/-
  GetText: the program's and the reference's.
-/
namespace Go.Proofs.YtfockoihmoljfaaGreatDoor
open Go.RowKit
set_option linter.unusedVariables false
set_option linter.unusedSimpArgs false

theorem back_bytes (l : List UInt8) : (l.map fun b => (b.toNat : Int)).map (fun n => UInt8.ofNat n.toNat) = l := by
  induction l with
  | nil => rfl
  | cons x r ih => rw [List.map_cons, List.map_cons, ih]; simp
theorem run_str {w : World} {B : Nat} {A : Option Addr} {n c : Nat} {l : List UInt8} (h : RdB w B A n c l) : (convert 38 9 (.slice A n c)).run Tryz.prog w = .ok (.string (strOf l)) w := by
  have hl := h.len
  rcases A with _ | ad
  · have h0 : n = 0 := by
      rcases Nat.eq_zero_or_pos n with h0 | h0
      · exact h0
      · obtain ⟨ad, h', _⟩ := h.2.2.2 h0
        cases h'
    have : l = [] := List.eq_nil_of_length_eq_zero (by omega)
    subst this
    exact run_convert_bytes_nil w 38 5 Tryz.underlying38 Tryz.underlying5 n c 9 Tryz.underlying9
  · have hc : ∀ (j : Nat) (u : Value), (bv l)[j]? = some u → w.cell? (ad.add j) = some u := by
      intro j u hu
      have hj : j < n := by
        have := (List.getElem?_eq_some_iff.1 hu).1
        rw [bv_length] at this
        omega
      obtain ⟨ad', e, _, hc⟩ := h.2.2.2 (by omega)
      injection e with e
      subst e
      exact hc j u hu
    have hload := run_loadCells_list (P := Tryz.prog) w ad (bv l) hc
    rw [bv_length, hl] at hload
    have e : bv l = (l.map fun b => (b.toNat : Int)).map (Value.int .u8) := by unfold bv; rw [List.map_map]; rfl
    rw [run_convert_bytes_string w 38 9 5 _ n c Tryz.underlying38 Tryz.underlying5 Tryz.underlying9, run_bytesToString w ad n c (l.map fun b => (b.toNat : Int)) (by rw [← e]; exact hload), foldl_push_bytes, back_bytes]
    have : (⟨ByteArray.empty.data ++ l.toArray⟩ : ByteArray) = strOf l := by
      unfold strOf
      congr 1
      show #[] ++ l.toArray = l.toArray
      simp
    rw [this]

/-- What GetText answers. -/
def Vi.getS (l : List UInt8) (a most : Int) : List UInt8 × Int × Int :=
  if (Vi.getI l a).2.2 ≠ 0 then ([], 0, (Vi.getI l a).2.2)
  else if (Vi.getI l a).1 < 0 then ([], 0, 11)
  else if most < (Vi.getI l a).1 then ([], 0, 2)
  else if (l.length : Int) - (Vi.getI l a).2.1 < (Vi.getI l a).1 then ([], 0, 10)
  else ((l.drop (Vi.getI l a).2.1.toNat).take (Vi.getI l a).1.toNat, (Vi.getI l a).2.1 + (Vi.getI l a).1, 0)
/-- A length prefix. -/
def Vi.cnt (l : List UInt8) (a most : Int) : Int × Int × Int :=
  if (Vi.getI l a).2.2 ≠ 0 then (0, 0, (Vi.getI l a).2.2)
  else if (Vi.getI l a).1 < 0 then (0, 0, 11)
  else if most < (Vi.getI l a).1 then (0, 0, 2)
  else ((Vi.getI l a).1, (Vi.getI l a).2.1, 0)
theorem getS_cnt (l : List UInt8) (a most : Int) : Vi.getS l a most = if (Vi.cnt l a most).2.2 ≠ 0 then ([], 0, (Vi.cnt l a most).2.2) else if (l.length : Int) - (Vi.cnt l a most).2.1 < (Vi.cnt l a most).1 then ([], 0, 10)
    else ((l.drop (Vi.cnt l a most).2.1.toNat).take (Vi.cnt l a most).1.toNat, (Vi.cnt l a most).2.1 + (Vi.cnt l a most).1, 0) := by
  unfold Vi.getS Vi.cnt
  split
  · rename_i h; simp [h]
  · split
    · simp
    · split
      · simp
      · simp
theorem dec_bound : ∀ (s : List UInt8) (i U : Nat), ∀ u k, Vi.dec i U s = .ok u k → i < k ∧ k ≤ i + s.length := by
  intro s
  induction s with
  | nil => intro i U u k h; simp [Vi.dec] at h
  | cons c r ih =>
    intro i U u k h
    simp only [Vi.dec] at h
    split at h
    · cases h
    · split at h
      · cases h; simp
      · have := ih _ _ _ _ h
        simp
        omega
theorem dec_lt : ∀ (s : List UInt8) (i U : Nat), i ≤ 9 → U < 128 ^ i → ∀ u k, Vi.dec i U s = .ok u k → u < 18446744073709551616 ∧ k ≤ 10 := by
  intro s
  induction s with
  | nil => intro i U _ _ u k h; simp [Vi.dec] at h
  | cons c r ih =>
    intro i U hi hU u k h
    simp only [Vi.dec] at h
    split at h
    · cases h
    · rename_i hb
      have hc := c.toNat_lt
      split at h
      · rename_i hl
        cases h
        exact ⟨step_lt64 U c.toNat i hU hi hl (fun e => by omega), by omega⟩
      · rename_i hl
        refine ih (i + 1) _ (by omega) ?_ u k h
        exact pow_step U (c.toNat - 128) i hU (by omega)
/-- A number that was read: in range, behind the offset, inside the bytes. -/
theorem getI_ok {l : List UInt8} {a : Int} (h : (Vi.getI l a).2.2 = 0) : 0 ≤ a ∧ a < (Vi.getI l a).2.1 ∧ (Vi.getI l a).2.1 ≤ l.length ∧ (Vi.getI l a).2.1 ≤ a + 10 ∧ -9223372036854775808 ≤ (Vi.getI l a).1 ∧ (Vi.getI l a).1 ≤ 9223372036854775807 := by
  unfold Vi.getI at *
  split at h
  · simp at h
  · rename_i hb
    rw [if_neg hb]
    cases hd : Vi.dec 0 0 (l.drop a.toNat) with
    | short => rw [hd] at h; simp at h
    | form => rw [hd] at h; simp at h
    | ok u k =>
      have h1 := dec_bound _ _ _ _ _ hd
      have h2 := dec_lt _ 0 0 (by omega) (by simp) _ _ hd
      rw [List.length_drop] at h1
      have h3 := Vi.unzig_ok h2.1
      dsimp only
      omega
theorem cnt_ok {l : List UInt8} {a most : Int} (h : (Vi.cnt l a most).2.2 = 0) : 0 ≤ a ∧ a < (Vi.cnt l a most).2.1 ∧ (Vi.cnt l a most).2.1 ≤ l.length ∧ 0 ≤ (Vi.cnt l a most).1 ∧ (Vi.cnt l a most).1 ≤ most ∧ (Vi.cnt l a most).1 ≤ 9223372036854775807 := by
  unfold Vi.cnt at *
  split at h
  · rename_i h'; exact absurd h h'
  · rename_i h'
    have hb := getI_ok (l := l) (a := a) (by simpa using h')
    split at h
    · simp at h
    · split at h
      · simp at h
      · rename_i h1 h2
        rw [if_neg h', if_neg h1, if_neg h2]
        dsimp only
        omega
theorem getI_e (l : List UInt8) (a : Int) : (Vi.getI l a).2.2 = 0 ∨ (Vi.getI l a = (0, 0, (Vi.getI l a).2.2) ∧ ((Vi.getI l a).2.2 = 1 ∨ (Vi.getI l a).2.2 = 10 ∨ (Vi.getI l a).2.2 = 11)) := by
  unfold Vi.getI
  split
  · exact .inr ⟨rfl, .inl rfl⟩
  · split
    · exact .inr ⟨rfl, .inr (.inl rfl)⟩
    · exact .inr ⟨rfl, .inr (.inr rfl)⟩
    · exact .inl rfl

set_option maxRecDepth 100000 in
set_option maxHeartbeats 1000000 in
theorem getText1_any (Bb : Nat) (A : Option Addr) (m c : Nat) (l : List UInt8) (n a : Nat) (w : World) (hbox : w.heap[Bb]? = some (.cells #[.slice A m c] 38)) (h : RdB w w.heap.size A m c l) (ha : a ≤ m) (hn : (n : Int) ≤ 9223372036854775807) :
    Calls Tryz.prog 134 #[.int .i64 n, .int .i64 a, .pointer (some ⟨Bb, 0, none⟩)] w fun e w' =>
      e = .returned (.tuple #[.string (strOf (if (m : Int) - a < n then [] else (l.drop a).take n)), .int .i64 (if (m : Int) - a < n then 0 else (a : Int) + n), .int .i64 (if (m : Int) - a < n then 10 else 0)]) ∧ w = w' := by
  have hm := h.max
  have hle := h.le
  have c1 : w.cell? ⟨Bb, 0, none⟩ = some (.slice A m c) := cell_of_row w Bb 0 _ _ _ hbox
  by_cases hs : (m : Int) - a < n
  · have d1 : decide ((m : Int) - (a : Int) < (n : Int)) = true := decide_eq_true hs
    rw [if_pos hs, if_pos hs, if_pos hs]
    go_enter Tryz.func134, Tryz.ntmps134
    go_wp2_with fail
    go_ret3
    exact ⟨rfl, rfl⟩
  · have d1 : decide ((m : Int) - (a : Int) < (n : Int)) = false := decide_eq_false hs
    rw [if_neg hs, if_neg hs, if_neg hs]
    have hcut := (h.upto (show a + n ≤ m by omega)).cut (show a ≤ a + n by omega)
    rw [Nat.add_sub_cancel_left, List.drop_take, Nat.add_sub_cancel_left] at hcut
    have hstr := run_str hcut
    go_enter Tryz.func134, Tryz.ntmps134
    go_wp2_with fail
    all_goals (go_ret3; exact ⟨rfl, rfl⟩)

set_option maxRecDepth 100000 in
set_option maxHeartbeats 1000000 in
theorem readS_any (Bb : Nat) (A : Option Addr) (m c : Nat) (l : List UInt8) (a most : Int) (w : World) (hbox : w.heap[Bb]? = some (.cells #[.slice A m c] 38)) (h : RdB w w.heap.size A m c l) (ha : -9223372036854775808 ≤ a ∧ a ≤ 9223372036854775807) :
    Calls Tryz.prog 133 #[.slice A m c, .int .i64 a, .int .i64 most, .func (.func 134) #[] #[.pointer (some ⟨Bb, 0, none⟩)]] w fun e w' =>
      e = .returned (.tuple #[.string (strOf (Vi.getS l a most).1), .int .i64 (Vi.getS l a most).2.1, .int .i64 (Vi.getS l a most).2.2]) ∧ w = w' := by
  have HG := Lib.hid (getInt_any A m c l a w h ha)
  have hok := getI_ok (l := l) (a := a)
  have HS : Hid (∃ R, R = Vi.getS l a most) := ⟨_, rfl⟩
  obtain ⟨R, hR⟩ := HS.out
  rw [← hR]
  unfold Vi.getS at hR
  rw [h.len] at hR hok
  generalize Vi.getI l a = G at *
  obtain ⟨n, nx, e⟩ := G
  dsimp only at *
  clear HS
  go_enter Tryz.func133, Tryz.ntmps133
  go_wp2_with fail
  refine HG.out.mono ?_
  rintro e' w' ⟨rfl, rfl⟩
  clear HG
  by_cases he : e = 0
  · have hb := hok he
    subst he
    by_cases h1 : n < 0
    · rw [if_neg (by simp), if_pos h1] at hR
      have d1 : decide (n < 0) = true := decide_eq_true h1
      subst hR
      clear hok
      go_wp2_with fail
      go_ret3
      exact ⟨rfl, rfl⟩
    · have d1 : decide (n < 0) = false := decide_eq_false h1
      by_cases h2 : most < n
      · rw [if_neg (by simp), if_neg h1, if_pos h2] at hR
        have d2 : decide (most < n) = true := decide_eq_true h2
        subst hR
        clear hok
        go_wp2_with fail
        go_ret3
        exact ⟨rfl, rfl⟩
      · have d2 : decide (most < n) = false := decide_eq_false h2
        rw [if_neg (by simp), if_neg h1, if_neg h2] at hR
        obtain ⟨N, rfl⟩ := Int.eq_ofNat_of_zero_le (show 0 ≤ n by omega)
        obtain ⟨X, rfl⟩ := Int.eq_ofNat_of_zero_le (show 0 ≤ nx by omega)
        have hX : X ≤ m := by omega
        have hN : (N : Int) ≤ 9223372036854775807 := by omega
        simp only [Int.toNat_natCast] at hR
        have HR := Lib.hid hR
        clear hR hok hb
        go_wp2_with fail
        refine (getText1_any Bb A m c l N X w hbox h hX hN).mono ?_
        rintro e' w' ⟨rfl, rfl⟩
        by_cases h3 : (m : Int) - X < N
        · rw [if_pos h3, if_pos h3, if_pos h3]
          have hR2 := HR.out
          rw [if_pos h3] at hR2
          subst hR2
          clear HR
          go_wp2_with fail
          go_ret3
          exact ⟨rfl, rfl⟩
        · rw [if_neg h3, if_neg h3, if_neg h3]
          have hR2 := HR.out
          rw [if_neg h3] at hR2
          subst hR2
          clear HR
          go_wp2_with fail
          go_ret3
          exact ⟨rfl, rfl⟩
  · rw [if_pos he] at hR
    have d0 : (e != 0) = true := by simpa using he
    subst hR
    clear hok
    go_wp2_with fail
    go_ret3
    exact ⟨rfl, rfl⟩
set_option maxRecDepth 100000 in
set_option maxHeartbeats 1000000 in
theorem getText_any (A : Option Addr) (m c : Nat) (l : List UInt8) (a most : Int) (w : World) (h : RdB w w.heap.size A m c l) (ha : -9223372036854775808 ≤ a ∧ a ≤ 9223372036854775807) :
    Calls Tryz.prog 116 #[.slice A m c, .int .i64 a, .int .i64 most] w fun e w' =>
      e = .returned (.tuple #[.string (strOf (Vi.getS l a most).1), .int .i64 (Vi.getS l a most).2.1, .int .i64 (Vi.getS l a most).2.2]) ∧ Below w.heap.size w w' := by
  obtain ⟨V1, hV⟩ : ∃ V1, V1 = w.alloc (.cells #[.slice A m c] 38) := ⟨_, rfl⟩
  have bx : V1.heap[w.heap.size]? = some (.cells #[.slice A m c] 38) := by rw [hV]; exact heap_alloc_new _ _
  have hbt : Below w.heap.size w V1 := by rw [hV]; exact (Below.refl _ _).alloc (Nat.le_refl _) _
  have hr := (h.below hbt).more hbt.size
  have HV := Lib.hid hV.symm
  have c1 := cell_of_row V1 w.heap.size 0 _ _ _ bx
  simp only [List.getElem?_toArray, List.getElem?_cons_zero, List.getElem?_cons_succ] at c1
  rw [← HV.out] at c1
  clear hV
  have HG := Lib.hid (readS_any w.heap.size A m c l a most V1 bx hr ha)
  generalize Vi.getS l a most = R at *
  go_enter Tryz.func116, Tryz.ntmps116
  go_wp2_with fail
  rw [HV.out]
  clear HV c1
  refine HG.out.mono ?_
  rintro e' w' ⟨rfl, rfl⟩
  go_wp2_with fail
  go_ret3
  exact ⟨rfl, hbt⟩

set_option maxRecDepth 100000 in
set_option maxHeartbeats 1000000 in
theorem rcount_any (A : Option Addr) (m c : Nat) (l : List UInt8) (a most : Int) (w : World) (h : RdB w w.heap.size A m c l) (ha : -9223372036854775808 ≤ a ∧ a ≤ 9223372036854775807) (hm : m ≤ 1099511627776) :
    Calls Tryz.prog 145 #[.slice A m c, .int .i64 a, .int .i64 most] w fun e w' =>
      e = .returned (.tuple #[.int .i64 (Vi.cnt l a most).1, .int .i64 (Vi.cnt l a most).2.1, .int .i64 (Vi.cnt l a most).2.2]) ∧ w = w' := by
  have HG := Lib.hid (rgetInt_any A m c l a w h ha hm)
  have HS : Hid (∃ R, R = Vi.cnt l a most) := ⟨_, rfl⟩
  obtain ⟨R, hR⟩ := HS.out
  rw [← hR]
  unfold Vi.cnt at hR
  generalize Vi.getI l a = G at *
  obtain ⟨n, nx, e⟩ := G
  dsimp only at *
  clear HS
  go_enter Tryz.func145, Tryz.ntmps145
  go_wp2_with fail
  refine HG.out.mono ?_
  rintro e' w' ⟨rfl, rfl⟩
  clear HG
  by_cases he : e = 0
  · subst he
    by_cases h1 : n < 0
    · rw [if_neg (by simp), if_pos h1] at hR
      have d1 : decide (n < 0) = true := decide_eq_true h1
      subst hR
      go_wp2_with fail
      go_ret3
      exact ⟨rfl, rfl⟩
    · have d1 : decide (n < 0) = false := decide_eq_false h1
      by_cases h2 : most < n
      · rw [if_neg (by simp), if_neg h1, if_pos h2] at hR
        have d2 : decide (most < n) = true := decide_eq_true h2
        subst hR
        go_wp2_with fail
        go_ret3
        exact ⟨rfl, rfl⟩
      · have d2 : decide (most < n) = false := decide_eq_false h2
        rw [if_neg (by simp), if_neg h1, if_neg h2] at hR
        subst hR
        go_wp2_with fail
        go_ret3
        exact ⟨rfl, rfl⟩
  · rw [if_pos he] at hR
    have d0 : (e != 0) = true := by simpa using he
    subst hR
    go_wp2_with fail
    go_ret3
    exact ⟨rfl, rfl⟩

set_option maxRecDepth 100000 in
set_option maxHeartbeats 1000000 in
theorem rgetText_any (A : Option Addr) (m c : Nat) (l : List UInt8) (a most : Int) (w : World) (h : RdB w w.heap.size A m c l) (ha : -9223372036854775808 ≤ a ∧ a ≤ 9223372036854775807) (hm : m ≤ 1099511627776) :
    Calls Tryz.prog 137 #[.slice A m c, .int .i64 a, .int .i64 most] w fun e w' =>
      e = .returned (.tuple #[.string (strOf (Vi.getS l a most).1), .int .i64 (Vi.getS l a most).2.1, .int .i64 (Vi.getS l a most).2.2]) ∧ w = w' := by
  have hm2 := h.max
  have hle := h.le
  have HG := Lib.hid (rcount_any A m c l a most w h ha hm)
  have HC := Lib.hid (getS_cnt l a most)
  rw [h.len] at HC
  have hok := cnt_ok (l := l) (a := a) (most := most)
  rw [h.len] at hok
  generalize Vi.getS l a most = R at *
  generalize Vi.cnt l a most = G at *
  obtain ⟨n, nx, e⟩ := G
  dsimp only at *
  go_enter Tryz.func137, Tryz.ntmps137
  go_wp2_with fail
  refine HG.out.mono ?_
  rintro e' w' ⟨rfl, rfl⟩
  clear HG
  have hR := HC.out
  clear HC
  by_cases he : e = 0
  · have hb := hok he
    subst he
    rw [if_neg (by simp)] at hR
    obtain ⟨N, rfl⟩ := Int.eq_ofNat_of_zero_le (show 0 ≤ n by omega)
    obtain ⟨X, rfl⟩ := Int.eq_ofNat_of_zero_le (show 0 ≤ nx by omega)
    have hX : X ≤ m := by omega
    have hN : (N : Int) ≤ 9223372036854775807 := by omega
    simp only [Int.toNat_natCast] at hR
    clear hok hb
    by_cases h3 : (m : Int) - X < N
    · rw [if_pos h3] at hR
      have d3 : decide ((m : Int) - (X : Int) < (N : Int)) = true := decide_eq_true h3
      subst hR
      go_wp2_with fail
      go_ret3
      exact ⟨rfl, rfl⟩
    · rw [if_neg h3] at hR
      have d3 : decide ((m : Int) - (X : Int) < (N : Int)) = false := decide_eq_false h3
      subst hR
      have hcut := (h.upto (show X + N ≤ m by omega)).cut (show X ≤ X + N by omega)
      rw [Nat.add_sub_cancel_left, List.drop_take, Nat.add_sub_cancel_left] at hcut
      have hstr := run_str hcut
      go_wp2_with fail
      all_goals (go_ret3; exact ⟨rfl, rfl⟩)
  · rw [if_pos he] at hR
    have d0 : (e != 0) = true := by simpa using he
    subst hR
    clear hok
    go_wp2_with fail
    go_ret3
    exact ⟨rfl, rfl⟩
end Go.Proofs.YtfockoihmoljfaaGreatDoor

/-
  GetInts: the program's and the reference's; Ints.
-/
namespace Go.Proofs.YtfockoihmoljfaaGreatDoor
open Go.RowKit
set_option linter.unusedVariables false
set_option linter.unusedSimpArgs false

/-- n integers from the offset p on. -/
def Vi.getN (l : List UInt8) : Nat → Int → List Int → List Int × Int × Int
  | 0, p, acc => (acc, p, 0)
  | n + 1, p, acc => if (Vi.getI l p).2.2 ≠ 0 then ([], 0, (Vi.getI l p).2.2) else Vi.getN l n (Vi.getI l p).2.1 (acc ++ [(Vi.getI l p).1])
/-- What GetInts answers. -/
def Vi.getL (l : List UInt8) (a most : Int) : List Int × Int × Int :=
  if (Vi.cnt l a most).2.2 ≠ 0 then ([], 0, (Vi.cnt l a most).2.2) else Vi.getN l (Vi.cnt l a most).1.toNat (Vi.cnt l a most).2.1 []
theorem getN_err (l : List UInt8) : ∀ (n : Nat) (p : Int) (acc : List Int), (Vi.getN l n p acc).2.2 ≠ 0 → Vi.getN l n p acc = ([], 0, (Vi.getN l n p acc).2.2) := by
  intro n
  induction n with
  | zero => intro p acc h; simp [Vi.getN] at h
  | succ n ih =>
    intro p acc h
    simp only [Vi.getN] at h ⊢
    split
    · rfl
    · rename_i h'
      rw [if_neg h'] at h
      exact ih _ _ h
/-- A slice of integers in new memory, an offset, an error. -/
def LPost (R : List Int × Int × Int) (w : World) (e : Ending) (w' : World) : Prop :=
  ∃ v, e = .returned (.tuple #[v, .int .i64 R.2.1, .int .i64 R.2.2]) ∧ w'.ownsRow w.heap.size 3 1 v R.1.length (iv R.1) ∧ Below w.heap.size w w'
theorem lpost_err {R : List Int × Int × Int} {er : Int} {w w' : World} (hR : R = ([], 0, er)) (hb : Below w.heap.size w w') : LPost R w (.returned (.tuple #[.slice none 0 0, .int .i64 0, .int .i64 er])) w' := by
  subst hR
  exact ⟨.slice none 0 0, rfl, World.ownsRow_nil _ _ _ _, hb⟩
theorem one_i64 (z : Int) : ∀ u ∈ [Value.int .i64 z], u.oneCell' = true := by simp [Value.oneCell']
theorem iv_snoc (l : List Int) (z : Int) : iv l ++ [.int .i64 z] = iv (l ++ [z]) := by rw [iv_append]; rfl
theorem okIs_snoc {l : List Int} {z : Int} (h : okIs l) (hz : -9223372036854775808 ≤ z ∧ z ≤ 9223372036854775807) : okIs (l ++ [z]) := by
  intro y hy
  rcases List.mem_append.1 hy with hy | hy
  · exact h y hy
  · rw [List.mem_singleton] at hy; subst hy; exact hz

set_option maxRecDepth 100000 in
set_option maxHeartbeats 1000000 in
theorem getInts1_any (Bb : Nat) (A : Option Addr) (m c : Nat) (l : List UInt8) (N X : Nat) (w : World) (hbox : w.heap[Bb]? = some (.cells #[.slice A m c] 38)) (h : RdB w w.heap.size A m c l) (hX : X ≤ m) (hm : m ≤ 1073741824) (hN : (N : Int) ≤ 9223372036854775807) :
    Calls Tryz.prog 136 #[.int .i64 N, .int .i64 X, .pointer (some ⟨Bb, 0, none⟩)] w (LPost (Vi.getN l N X []) w) := by
  have h2 := h.max
  have h3 := h.le
  have hlen := Lib.hid h.len
  have hBb : Bb < w.heap.size := (Array.getElem?_eq_some_iff.1 hbox).1
  obtain ⟨R, hR⟩ : ∃ R, R = Vi.getN l N X [] := ⟨_, rfl⟩
  rw [← hR]
  go_enter Tryz.func136, Tryz.ntmps136
  go_wp2_with fail
  go_loopw [5, 6] (fun v p wr => ∃ (k P : Nat) (acc : List Int), acc.length = k ∧ k ≤ N ∧ k ≤ P ∧ P ≤ m ∧ p = .int .i64 P ∧ R = Vi.getN l (N - k) P acc ∧ wr.ownsRow w.heap.size 3 1 v k (iv acc) ∧ Below w.heap.size w wr) (fun _ p _ => m - (intOf p).toNat)
  case atStart => exact ⟨0, X, [], rfl, by omega, by omega, hX, rfl, by rw [hR]; rfl, World.ownsRow_nil _ _ _ _, Below.refl _ _⟩
  case round =>
    obtain ⟨k, P, acc, hk, hkN, hkP, hP, rfl, hRk, hown, hb⟩ := hrel
    clear hR
    have HK := Lib.hid hk
    have HRK := Lib.hid hRk
    clear hk hRk
    obtain ⟨Av, cv, rfl, _⟩ := own_rd hown
    have hbs := hb.size
    have bx : wr.heap[Bb]? = some (.cells #[.slice A m c] 38) := (hb.block Bb hBb).trans hbox
    have c1 : wr.cell? ⟨Bb, 0, none⟩ = some (.slice A m c) := cell_of_row wr Bb 0 _ _ _ bx
    have hr := (h.below hb).more hb.size
    by_cases hkn : k < N
    · have d1 : decide ((k : Int) < (N : Int)) = true := by simp; omega
      have d1' : decide (k < N) = true := by simp; omega
      obtain ⟨j, hj⟩ : ∃ j, N - k = j + 1 := ⟨N - k - 1, by omega⟩
      have HC := Lib.hid (getInt_any A m c l (P : Int) wr hr (by omega))
      have hok := getI_ok (l := l) (a := (P : Int))
      rw [hlen.out] at hok
      have HR2 : Hid (R = if (Vi.getI l P).2.2 ≠ 0 then ([], 0, (Vi.getI l P).2.2) else Vi.getN l (N - (k + 1)) (Vi.getI l P).2.1 (acc ++ [(Vi.getI l P).1])) := by
        show R = _
        rw [HRK.out, hj, show N - (k + 1) = j by omega]
        rfl
      clear HRK hj
      generalize Vi.getI l P = G at *
      obtain ⟨z, nx, e⟩ := G
      dsimp only at *
      go_wp2_with fail
      refine HC.out.mono ?_
      rintro e' w' ⟨rfl, rfl⟩
      clear HC
      by_cases he : e = 0
      · have hb2 := hok he
        subst he
        obtain ⟨Y, rfl⟩ := Int.eq_ofNat_of_zero_le (show 0 ≤ nx by omega)
        have HR3 : Hid (R = Vi.getN l (N - (k + 1)) Y (acc ++ [z])) := by show R = _; rw [HR2.out, if_neg (by simp)]
        have hY1 : P < Y := by omega
        have hY2 : Y ≤ m := by omega
        clear hok hb2 HR2
        have hx1 : (k + 1) * 8 ≤ 140737488355328 := by omega
        have hx1' : k + 1 ≤ 140737488355328 := by omega
        have hx2 : ∀ o, w.heap.size ≤ (wr.alloc o).heap.size := fun o => by rw [World.size_alloc]; omega
        go_wp2_with (at_builtin; refine wpList_app _ _ elI (hown.alloc _) (Rd.one wr _ _) (one_i64 _) hx1 hx1' (hx2 _) rfl rfl rfl rfl ?_; intro v2 w2 hown2 hg2 hat2)
        go_roundw
        case rel =>
          refine ⟨k + 1, Y, acc ++ [z], by rw [List.length_append, HK.out]; rfl, by omega, by omega, hY2, rfl, HR3.out, ?_, hb.grown (grownBy_of_alloc hg2) hb.size (own_lt hown)⟩
          rw [← iv_snoc]
          exact hown2
        case measure => simp [intOf]; omega
      · have d0 : (e != 0) = true := by simpa using he
        have hR3 : R = ([], 0, e) := by rw [HR2.out, if_pos he]
        have HR3 := Lib.hid hR3
        clear hR3 HR2 hok
        go_wp2_with fail
        go_ret3
        exact lpost_err HR3.out hb
    · have d1 : decide ((k : Int) < (N : Int)) = false := by simp; omega
      have d1' : decide (k < N) = false := by simp; omega
      have HR3 : Hid (R = (acc, (P : Int), 0)) := by show R = _; rw [HRK.out, show N - k = 0 by omega]; rfl
      go_wp2_with fail
      go_ret3
      rw [HR3.out]
      refine ⟨_, rfl, ?_, hb⟩
      dsimp only
      rw [HK.out]
      exact hown

set_option maxRecDepth 100000 in
set_option maxHeartbeats 1000000 in
theorem readL_any (Bb : Nat) (A : Option Addr) (m c : Nat) (l : List UInt8) (a most : Int) (w : World) (hbox : w.heap[Bb]? = some (.cells #[.slice A m c] 38)) (h : RdB w w.heap.size A m c l) (ha : -9223372036854775808 ≤ a ∧ a ≤ 9223372036854775807) (hm : m ≤ 1073741824) :
    Calls Tryz.prog 135 #[.slice A m c, .int .i64 a, .int .i64 most, .func (.func 136) #[] #[.pointer (some ⟨Bb, 0, none⟩)]] w (LPost (Vi.getL l a most) w) := by
  have HG := Lib.hid (getInt_any A m c l a w h ha)
  have hok := getI_ok (l := l) (a := a)
  have HS : Hid (∃ R, R = Vi.getL l a most) := ⟨_, rfl⟩
  obtain ⟨R, hR⟩ := HS.out
  rw [← hR]
  unfold Vi.getL Vi.cnt at hR
  rw [h.len] at hok
  generalize Vi.getI l a = G at *
  obtain ⟨n, nx, e⟩ := G
  dsimp only at *
  have HR0 := Lib.hid hR
  clear HS hR
  go_enter Tryz.func135, Tryz.ntmps135
  go_wp2_with fail
  refine HG.out.mono ?_
  rintro e' w' ⟨rfl, rfl⟩
  clear HG
  by_cases he : e = 0
  · have hb := hok he
    subst he
    by_cases h1 : n < 0
    · have hR2 : R = ([], 0, 11) := by rw [HR0.out]; simp [h1]
      have d1 : decide (n < 0) = true := decide_eq_true h1
      have HR := Lib.hid hR2
      clear HR0 hR2 hok
      go_wp2_with fail
      go_ret3
      exact lpost_err HR.out (Below.refl _ _)
    · have d1 : decide (n < 0) = false := decide_eq_false h1
      by_cases h2 : most < n
      · have hR2 : R = ([], 0, 2) := by rw [HR0.out]; simp [h1, h2]
        have d2 : decide (most < n) = true := decide_eq_true h2
        have HR := Lib.hid hR2
        clear HR0 hR2 hok
        go_wp2_with fail
        go_ret3
        exact lpost_err HR.out (Below.refl _ _)
      · have d2 : decide (most < n) = false := decide_eq_false h2
        obtain ⟨N, rfl⟩ := Int.eq_ofNat_of_zero_le (show 0 ≤ n by omega)
        obtain ⟨X, rfl⟩ := Int.eq_ofNat_of_zero_le (show 0 ≤ nx by omega)
        have hX : X ≤ m := by omega
        have hN : (N : Int) ≤ 9223372036854775807 := by omega
        have hR2 : R = Vi.getN l N X [] := by rw [HR0.out]; simp [h1, h2]
        have HR := Lib.hid hR2
        clear HR0 hR2 hok hb
        go_wp2_with fail
        refine (getInts1_any Bb A m c l N X w hbox h hX hm hN).mono ?_
        have HNE := Lib.hid (getN_err l N X [])
        rw [← HR.out] at HNE ⊢
        rintro e' w2 ⟨v, rfl, hown, hb⟩
        clear HR
        obtain ⟨L, p, er⟩ := R
        dsimp only at *
        obtain ⟨Av, cv, rfl, _⟩ := own_rd hown
        by_cases he2 : er = 0
        · have d3 : (er != 0) = false := by simpa using he2
          have HE := Lib.hid he2
          clear he2
          go_wp2_with fail
          go_ret3
          exact ⟨_, rfl, hown, hb⟩
        · have d3 : (er != 0) = true := by simpa using he2
          have HR4 := Lib.hid (HNE.out he2)
          clear HNE
          go_wp2_with fail
          go_ret3
          exact lpost_err HR4.out hb
  · have d0 : (e != 0) = true := by simpa using he
    have hR2 : R = ([], 0, e) := by rw [HR0.out]; simp [he]
    have HR := Lib.hid hR2
    clear HR0 hR2 hok
    go_wp2_with fail
    go_ret3
    exact lpost_err HR.out (Below.refl _ _)

set_option maxRecDepth 100000 in
set_option maxHeartbeats 1000000 in
theorem getInts_any (A : Option Addr) (m c : Nat) (l : List UInt8) (a most : Int) (w : World) (h : RdB w w.heap.size A m c l) (ha : -9223372036854775808 ≤ a ∧ a ≤ 9223372036854775807) (hm : m ≤ 1073741824) :
    Calls Tryz.prog 121 #[.slice A m c, .int .i64 a, .int .i64 most] w (LPost (Vi.getL l a most) w) := by
  obtain ⟨V1, hV⟩ : ∃ V1, V1 = w.alloc (.cells #[.slice A m c] 38) := ⟨_, rfl⟩
  have bx : V1.heap[w.heap.size]? = some (.cells #[.slice A m c] 38) := by rw [hV]; exact heap_alloc_new _ _
  have hbt : Below w.heap.size w V1 := by rw [hV]; exact (Below.refl _ _).alloc (Nat.le_refl _) _
  have hr := (h.below hbt).more hbt.size
  have HV := Lib.hid hV.symm
  have c1 := cell_of_row V1 w.heap.size 0 _ _ _ bx
  simp only [List.getElem?_toArray, List.getElem?_cons_zero, List.getElem?_cons_succ] at c1
  rw [← HV.out] at c1
  clear hV
  have HG := Lib.hid (readL_any w.heap.size A m c l a most V1 bx hr ha hm)
  generalize Vi.getL l a most = R at *
  go_enter Tryz.func121, Tryz.ntmps121
  go_wp2_with fail
  rw [HV.out]
  clear HV c1
  refine HG.out.mono ?_
  rintro e' w2 ⟨v, rfl, hown, hb⟩
  obtain ⟨Av, cv, rfl, _⟩ := own_rd hown
  go_wp2_with fail
  go_ret3
  exact ⟨_, rfl, own_mono hown hbt.size, hbt.trans (hb.mono hbt.size)⟩

set_option maxRecDepth 100000 in
set_option maxHeartbeats 1000000 in
theorem rgetInts_any (A : Option Addr) (m c : Nat) (l : List UInt8) (a most : Int) (w : World) (h : RdB w w.heap.size A m c l) (ha : -9223372036854775808 ≤ a ∧ a ≤ 9223372036854775807) (hm : m ≤ 1073741824) :
    Calls Tryz.prog 139 #[.slice A m c, .int .i64 a, .int .i64 most] w (LPost (Vi.getL l a most) w) := by
  have h2 := h.max
  have h3 := h.le
  have hlen := Lib.hid h.len
  have HG := Lib.hid (rcount_any A m c l a most w h ha (by omega))
  have hok := cnt_ok (l := l) (a := a) (most := most)
  rw [h.len] at hok
  have HS : Hid (∃ R, R = Vi.getL l a most) := ⟨_, rfl⟩
  obtain ⟨R, hR⟩ := HS.out
  rw [← hR]
  unfold Vi.getL at hR
  generalize Vi.cnt l a most = G at *
  obtain ⟨n, nx, e⟩ := G
  dsimp only at *
  have HR0 := Lib.hid hR
  clear HS hR
  have ho : (w.alloc (.cells #[] 3)).ownsRow w.heap.size 3 1 (.slice (some ⟨w.heap.size, 0, none⟩) 0 0) 0 [] := World.ownsRow_lit w #[] 0 (Nat.le_refl _) (by unfold maxLen; omega) rfl
  go_enter Tryz.func139, Tryz.ntmps139
  go_wp2_with fail
  refine HG.out.mono ?_
  rintro e' w' ⟨rfl, rfl⟩
  clear HG
  by_cases he : e = 0
  · have hb := hok he
    subst he
    obtain ⟨N, rfl⟩ := Int.eq_ofNat_of_zero_le (show 0 ≤ n by omega)
    obtain ⟨X, rfl⟩ := Int.eq_ofNat_of_zero_le (show 0 ≤ nx by omega)
    have hX : X ≤ m := by omega
    have hN : (N : Int) ≤ 9223372036854775807 := by omega
    have hR2 : R = Vi.getN l N X [] := by rw [HR0.out]; simp
    clear HR0 hok hb
    go_wp2_with fail
    go_loopw [12, 13, 10] (fun v i p wr => ∃ (k P : Nat) (acc : List Int), acc.length = k ∧ k ≤ N ∧ k ≤ P ∧ P ≤ m ∧ i = .int .i64 k ∧ p = .int .i64 P ∧ R = Vi.getN l (N - k) P acc ∧ wr.ownsRow w.heap.size 3 1 v k (iv acc) ∧ Below w.heap.size w wr) (fun _ _ p _ => m - (intOf p).toNat)
    case atStart => exact ⟨0, X, [], rfl, by omega, by omega, hX, rfl, rfl, by rw [hR2]; rfl, ho, (Below.refl _ _).alloc (Nat.le_refl _) _⟩
    case round =>
      obtain ⟨k, P, acc, hk, hkN, hkP, hP, rfl, rfl, hRk, hown, hb⟩ := hrel
      have HK := Lib.hid hk
      have HRK := Lib.hid hRk
      clear hk hRk hR2 ho
      obtain ⟨Av, cv, rfl, _⟩ := own_rd hown
      have hbs := hb.size
      have hr := (h.below hb).more hb.size
      by_cases hkn : k < N
      · have d1 : decide ((k : Int) < (N : Int)) = true := by simp; omega
        have d1' : decide (k < N) = true := by simp; omega
        obtain ⟨j, hj⟩ : ∃ j, N - k = j + 1 := ⟨N - k - 1, by omega⟩
        have HC := Lib.hid (rgetInt_any A m c l (P : Int) wr hr (by omega) (by omega))
        have hok := getI_ok (l := l) (a := (P : Int))
        rw [hlen.out] at hok
        have HR2 : Hid (R = if (Vi.getI l P).2.2 ≠ 0 then ([], 0, (Vi.getI l P).2.2) else Vi.getN l (N - (k + 1)) (Vi.getI l P).2.1 (acc ++ [(Vi.getI l P).1])) := by
          show R = _
          rw [HRK.out, hj, show N - (k + 1) = j by omega]
          rfl
        clear HRK hj
        generalize Vi.getI l P = G at *
        obtain ⟨z, nx, e⟩ := G
        dsimp only at *
        go_wp2_with fail
        refine HC.out.mono ?_
        rintro e' w' ⟨rfl, rfl⟩
        clear HC
        by_cases he : e = 0
        · have hb2 := hok he
          subst he
          obtain ⟨Y, rfl⟩ := Int.eq_ofNat_of_zero_le (show 0 ≤ nx by omega)
          have HR3 : Hid (R = Vi.getN l (N - (k + 1)) Y (acc ++ [z])) := by show R = _; rw [HR2.out, if_neg (by simp)]
          have hY1 : P < Y := by omega
          have hY2 : Y ≤ m := by omega
          clear hok hb2 HR2
          have hx1 : (k + 1) * 8 ≤ 140737488355328 := by omega
          have hx1' : k + 1 ≤ 140737488355328 := by omega
          have hx2 : ∀ o, w.heap.size ≤ (wr.alloc o).heap.size := fun o => by rw [World.size_alloc]; omega
          go_wp2_with (at_builtin; refine wpList_app _ _ elI (hown.alloc _) (Rd.one wr _ _) (one_i64 _) hx1 hx1' (hx2 _) rfl rfl rfl rfl ?_; intro v2 w2 hown2 hg2 hat2)
          go_roundw
          case rel =>
            refine ⟨k + 1, Y, acc ++ [z], by rw [List.length_append, HK.out]; rfl, by omega, by omega, hY2, by go_num, rfl, HR3.out, ?_, hb.grown (grownBy_of_alloc hg2) hb.size (own_lt hown)⟩
            rw [← iv_snoc]
            exact hown2
          case measure => simp [intOf]; omega
        · have d0 : (e != 0) = true := by simpa using he
          have hR3 : R = ([], 0, e) := by rw [HR2.out, if_pos he]
          have HR3 := Lib.hid hR3
          clear hR3 HR2 hok
          go_wp2_with fail
          go_ret3
          exact lpost_err HR3.out hb
      · have d1 : decide ((k : Int) < (N : Int)) = false := by simp; omega
        have d1' : decide (k < N) = false := by simp; omega
        have HR3 : Hid (R = (acc, (P : Int), 0)) := by show R = _; rw [HRK.out, show N - k = 0 by omega]; rfl
        go_wp2_with fail
        go_ret3
        rw [HR3.out]
        refine ⟨_, rfl, ?_, hb⟩
        dsimp only
        rw [HK.out]
        exact hown
  · have d0 : (e != 0) = true := by simpa using he
    have hR2 : R = ([], 0, e) := by rw [HR0.out]; simp [he]
    have HR := Lib.hid hR2
    clear HR0 hR2 hok
    go_wp2_with fail
    go_ret3
    exact lpost_err HR.out (Below.refl _ _)

end Go.Proofs.YtfockoihmoljfaaGreatDoor

/-
  Varints: what was put is got back; what was got is what would be put; a part of an encoding is short. Plain laws, no program in sight.
-/
namespace Go.Proofs.YtfockoihmoljfaaGreatDoor
theorem strOf_nil : strOf [] = ⟨#[]⟩ := rfl
theorem data_len (s : ByteArray) : s.data.toList.length = s.size := rfl
end Go.Proofs.YtfockoihmoljfaaGreatDoor
namespace Go.Proofs.YtfockoihmoljfaaGreatDoor.Vi

theorem u8_small {u : Nat} (h : u < 256) : (UInt8.ofNat u).toNat = u := by simp [UInt8.toNat_ofNat']; omega
theorem u8_back (c : UInt8) : UInt8.ofNat c.toNat = c := by simp

theorem dec_enc (u : Nat) : ∀ (i U : Nat) (r : List UInt8), u * 128 ^ i < 18446744073709551616 → (0 < i → u ≠ 0) → dec i U (enc u ++ r) = .ok (U + u * 128 ^ i) (i + (enc u).length) := by
  induction u using Nat.strongRecOn with
  | ind u ih =>
    intro i U r hu h0
    by_cases h : u < 128
    · rw [enc_lt h]
      simp only [List.cons_append, List.nil_append, dec, u8_small (show u < 256 by omega), List.length_cons, List.length_nil]
      rw [if_neg, if_pos h]
      rintro (⟨rfl, h1⟩ | ⟨h1, h2⟩)
      · have : 2 * 128 ^ 9 ≤ u * 128 ^ 9 := Nat.mul_le_mul_right _ h1
        simp at this
        omega
      · exact h0 h1 h2
    · rw [enc_ge h]
      have hp : 0 < 128 ^ i := Nat.pow_pos (by omega)
      have hm : u % 128 < 128 := Nat.mod_lt _ (by omega)
      have hq : u / 128 * 128 ^ (i + 1) + u % 128 * 128 ^ i = u * 128 ^ i := by
        rw [Nat.pow_succ, Nat.mul_comm (128 ^ i) 128, ← Nat.mul_assoc, ← Nat.add_mul]
        congr 1
        omega
      simp only [List.cons_append, dec, u8_small (show u % 128 + 128 < 256 by omega), List.length_cons]
      rw [if_neg, if_neg (by omega), ih (u / 128) (by omega) (i + 1) _ r (by omega) (fun _ => by omega)]
      · congr 1
        · rw [Nat.add_sub_cancel]; omega
        · omega
      · rintro (⟨rfl, _⟩ | ⟨_, h2⟩)
        · have : 128 * 128 ^ 9 ≤ u * 128 ^ 9 := Nat.mul_le_mul_right _ (by omega)
          simp at this
          omega
        · omega

theorem dec_part (u : Nat) : ∀ (i U j : Nat), u * 128 ^ i < 18446744073709551616 → j < (enc u).length → dec i U ((enc u).take j) = .short := by
  induction u using Nat.strongRecOn with
  | ind u ih =>
    intro i U j hu hj
    by_cases h : u < 128
    · rw [enc_lt h] at hj ⊢
      simp only [List.length_cons, List.length_nil] at hj
      obtain rfl : j = 0 := by omega
      rfl
    · rw [enc_ge h] at hj ⊢
      have hp : 0 < 128 ^ i := Nat.pow_pos (by omega)
      have hm : u % 128 < 128 := Nat.mod_lt _ (by omega)
      have hq : u / 128 * 128 ^ (i + 1) + u % 128 * 128 ^ i = u * 128 ^ i := by
        rw [Nat.pow_succ, Nat.mul_comm (128 ^ i) 128, ← Nat.mul_assoc, ← Nat.add_mul]
        congr 1
        omega
      cases j with
      | zero => rfl
      | succ j =>
        simp only [List.length_cons] at hj
        simp only [List.take_succ_cons, dec, u8_small (show u % 128 + 128 < 256 by omega)]
        rw [if_neg, if_neg (by omega), ih (u / 128) (by omega) (i + 1) _ j (by omega) (by omega)]
        rintro (⟨rfl, _⟩ | ⟨_, h2⟩)
        · have : 128 * 128 ^ 9 ≤ u * 128 ^ 9 := Nat.mul_le_mul_right _ (by omega)
          simp at this
          omega
        · omega

theorem dec_canon : ∀ (s : List UInt8) (i U u k : Nat), dec i U s = .ok u k → ∃ v, u = U + v * 128 ^ i ∧ s = enc v ++ s.drop (enc v).length ∧ k = i + (enc v).length ∧ (0 < i → v ≠ 0) := by
  intro s
  induction s with
  | nil => intro i U u k h; simp [dec] at h
  | cons c r ih =>
    intro i U u k h
    have hc := c.toNat_lt
    simp only [dec] at h
    split at h
    · cases h
    · rename_i hbad
      split at h
      · rename_i hl
        injection h with h1 h2
        refine ⟨c.toNat, h1.symm, ?_, ?_, fun hi e => hbad (.inr ⟨hi, e⟩)⟩
        · rw [enc_lt hl, u8_back]; rfl
        · rw [enc_lt hl]; simp [h2]
      · rename_i hl
        obtain ⟨v, h1, h2, h3, h4⟩ := ih _ _ _ _ h
        have hv := h4 (by omega)
        have hge : ¬ (c.toNat - 128 + 128 * v) < 128 := by omega
        have e1 : (c.toNat - 128 + 128 * v) % 128 + 128 = c.toNat := by omega
        have e2 : (c.toNat - 128 + 128 * v) / 128 = v := by omega
        refine ⟨c.toNat - 128 + 128 * v, ?_, ?_, ?_, fun _ => by omega⟩
        · rw [h1, Nat.pow_succ, Nat.add_mul, Nat.mul_comm (128 ^ i) 128, ← Nat.mul_assoc, Nat.mul_comm v 128, Nat.add_assoc]
        · rw [enc_ge hge, e1, e2, u8_back]; simpa using h2
        · rw [enc_ge hge, e1, e2]; simp; omega

theorem zig_bd {n : Int} (hn : -9223372036854775808 ≤ n ∧ n ≤ 9223372036854775807) : zig n * 128 ^ 0 < 18446744073709551616 := by have := zig_lt hn; simpa using this
theorem putI_pos (n : Int) : 0 < (putI n).length := enc_pos _
theorem drop_le {α : Type} {l r : List α} {a : Nat} (h : l.drop a = r) (hr : 0 < r.length) : a < l.length := by
  rcases Nat.lt_or_ge a l.length with h1 | h1
  · exact h1
  · rw [List.drop_eq_nil_of_le h1] at h; rw [← h] at hr; simp at hr

/-- What was put is got back. -/
theorem getI_put {l r : List UInt8} {a : Nat} {n : Int} (h : l.drop a = putI n ++ r) (hn : -9223372036854775808 ≤ n ∧ n ≤ 9223372036854775807) : getI l (a : Int) = (n, (a : Int) + (putI n).length, 0) := by
  have hp := putI_pos n
  have ha := drop_le h (by simp; omega)
  unfold getI
  rw [if_neg (by omega), Int.toNat_natCast, h, putI, dec_enc _ 0 0 r (zig_bd hn) (by omega)]
  simp [unzig_zig]
/-- A part of it is short. -/
theorem getI_part {l : List UInt8} {a j : Nat} {n : Int} (h : l.drop a = (putI n).take j) (hj : j < (putI n).length) (ha : a ≤ l.length) (hn : -9223372036854775808 ≤ n ∧ n ≤ 9223372036854775807) : getI l (a : Int) = (0, 0, 10) := by
  unfold getI
  rw [if_neg (by omega), Int.toNat_natCast, h, putI, dec_part _ 0 0 j (zig_bd hn) hj]
/-- What was got is what would be put. -/
theorem getI_canon {l : List UInt8} {a : Int} (h : (getI l a).2.2 = 0) : l.drop a.toNat = putI (getI l a).1 ++ l.drop (getI l a).2.1.toNat ∧ (getI l a).2.1 = a + (putI (getI l a).1).length := by
  have hb := getI_ok h
  unfold getI at *
  split at h
  · simp at h
  · rename_i hb'
    rw [if_neg hb'] at hb ⊢
    cases hd : dec 0 0 (l.drop a.toNat) with
    | short => rw [hd] at h; simp at h
    | form => rw [hd] at h; simp at h
    | ok u k =>
      rw [hd] at hb
      dsimp only at hb ⊢
      obtain ⟨v, h1, h2, h3, _⟩ := dec_canon _ _ _ _ _ hd
      obtain rfl : u = v := by simpa using h1
      obtain rfl : k = (enc u).length := by simpa using h3
      unfold putI
      rw [zig_unzig]
      refine ⟨?_, rfl⟩
      rw [show (a + ((enc u).length : Nat)).toNat = a.toNat + (enc u).length by omega, ← List.drop_drop]
      exact h2

theorem getI_cast {l : List UInt8} {a : Int} (h : (getI l a).2.2 = 0) : ∃ p : Nat, (getI l a).2.1 = p ∧ (p : Int) = a + (putI (getI l a).1).length := by
  have := (getI_canon h).2
  have h1 := getI_ok h
  exact ⟨(getI l a).2.1.toNat, by omega, by omega⟩

theorem cnt_put {l r : List UInt8} {a n : Nat} {most : Int} (h : l.drop a = putI n ++ r) (hn : n ≤ 9223372036854775807) (hm : (n : Int) ≤ most) : cnt l (a : Int) most = ((n : Int), (a : Int) + (putI n).length, 0) := by
  have := getI_put h (by omega)
  unfold cnt
  rw [this]
  dsimp only
  rw [if_neg (by simp), if_neg (by omega), if_neg (by omega)]
theorem cnt_part {l : List UInt8} {a j n : Nat} {most : Int} (h : l.drop a = (putI n).take j) (hj : j < (putI n).length) (ha : a ≤ l.length) (hn : n ≤ 9223372036854775807) : cnt l (a : Int) most = (0, 0, 10) := by
  have := getI_part h hj ha (by omega)
  unfold cnt
  rw [this]
  simp
theorem cnt_canon {l : List UInt8} {a most : Int} (h : (cnt l a most).2.2 = 0) : cnt l a most = getI l a ∧ (getI l a).2.2 = 0 ∧ 0 ≤ (getI l a).1 ∧ (getI l a).1 ≤ most := by
  unfold cnt at *
  split at h
  · rename_i h'; exact absurd h h'
  · rename_i h'
    split at h
    · simp at h
    · split at h
      · simp at h
      · rename_i h1 h2
        rw [if_neg h', if_neg h1, if_neg h2]
        have h0 : (getI l a).2.2 = 0 := by simpa using h'
        exact ⟨by ext <;> simp [h0], h0, by omega, by omega⟩

/-- A text. -/
theorem getS_put {l r s : List UInt8} {a : Nat} {most : Int} (h : l.drop a = putS s ++ r) (hn : s.length ≤ 9223372036854775807) (hm : (s.length : Int) ≤ most) : getS l (a : Int) most = (s, (a : Int) + (putS s).length, 0) := by
  unfold putS at h
  rw [List.append_assoc] at h
  have hc := cnt_put (n := s.length) h hn hm
  have hl := congrArg List.length h
  rw [getS_cnt, hc]
  simp only [List.length_drop, List.length_append] at hl
  dsimp only
  have hp := putI_pos s.length
  rw [if_neg (by simp), if_neg (by omega)]
  have e : ((a : Int) + ((putI s.length).length : Nat)).toNat = a + (putI s.length).length := by omega
  rw [e, ← List.drop_drop, h, List.drop_left, Int.toNat_natCast, List.take_left]
  unfold putS
  simp [Int.add_assoc]
theorem getS_part {l s : List UInt8} {a j : Nat} {most : Int} (h : l.drop a = (putS s).take j) (hj : j < (putS s).length) (ha : a ≤ l.length) (hn : s.length ≤ 9223372036854775807) (hm : (s.length : Int) ≤ most) : getS l (a : Int) most = ([], 0, 10) := by
  unfold putS at h hj
  rw [getS_cnt]
  rcases Nat.lt_or_ge j (putI s.length).length with h1 | h1
  · rw [List.take_append_of_le_length (by omega)] at h
    rw [cnt_part (n := s.length) h h1 ha hn]
    simp
  · have hl := congrArg List.length h
    rw [List.take_append, List.take_of_length_le h1] at h
    rw [cnt_put (n := s.length) h hn hm]
    simp only [List.length_drop, List.length_take, List.length_append] at hl hj
    dsimp only
    have hp := putI_pos s.length
    rw [if_neg (by simp), if_pos (by omega)]
theorem getS_canon {l : List UInt8} {a most : Int} (h : (getS l a most).2.2 = 0) : 0 ≤ a ∧ l.drop a.toNat = putS (getS l a most).1 ++ l.drop (getS l a most).2.1.toNat ∧ (getS l a most).2.1 = a + (putS (getS l a most).1).length ∧ ((getS l a most).1.length : Int) ≤ most ∧ (getS l a most).2.1 ≤ l.length ∧ (getI l a).2.1 ≤ (getS l a most).2.1 := by
  rw [getS_cnt] at *
  split at h
  · rename_i h'; exact absurd h h'
  · rename_i h'
    split at h
    · simp at h
    · rename_i h1
      rw [if_neg h', if_neg h1]
      obtain ⟨e, e0, e1, e2⟩ := cnt_canon (l := l) (a := a) (most := most) (by simpa using h')
      rw [e] at h1 ⊢
      have hb := getI_ok e0
      obtain ⟨hc, hd⟩ := getI_canon e0
      dsimp only
      have hlen : ((l.drop (getI l a).2.1.toNat).take (getI l a).1.toNat).length = (getI l a).1.toNat := by
        rw [List.length_take, List.length_drop]; omega
      have hn : (((getI l a).1.toNat : Nat) : Int) = (getI l a).1 := by omega
      unfold putS
      rw [hlen, hn]
      refine ⟨by omega, ?_, ?_, by omega, by omega, by omega⟩
      · rw [show ((getI l a).2.1 + (getI l a).1).toNat = (getI l a).2.1.toNat + (getI l a).1.toNat by omega, ← List.drop_drop, List.append_assoc, List.take_append_drop]
        exact hc
      · rw [List.length_append, hlen]; omega

/-- A list of integers. -/
theorem getN_put {l : List UInt8} : ∀ (xs : List Int) (a : Nat) (acc : List Int) (r : List UInt8), l.drop a = xs.flatMap putI ++ r → okIs xs → getN l xs.length (a : Int) acc = (acc ++ xs, (a : Int) + (xs.flatMap putI).length, 0)
  | [], a, acc, r, _, _ => by simp [getN]
  | x :: xs, a, acc, r, h, hok => by
    rw [List.flatMap_cons, List.append_assoc] at h
    have hx := getI_put h (hok x (by simp))
    have h2 : l.drop (a + (putI x).length) = xs.flatMap putI ++ r := by rw [← List.drop_drop, h, List.drop_left]
    have := getN_put xs (a + (putI x).length) (acc ++ [x]) r h2 (fun z hz => hok z (by simp [hz]))
    simp only [List.length_cons, getN]
    rw [hx]
    dsimp only
    rw [if_neg (by simp)]
    rw [show ((a : Int) + ((putI x).length : Nat)) = ((a + (putI x).length : Nat) : Int) by omega, this]
    simp [Int.add_assoc]
theorem getL_put {l r : List UInt8} {xs : List Int} {a : Nat} {most : Int} (h : l.drop a = putL xs ++ r) (hn : xs.length ≤ 9223372036854775807) (hm : (xs.length : Int) ≤ most) (hok : okIs xs) : getL l (a : Int) most = (xs, (a : Int) + (putL xs).length, 0) := by
  unfold putL at h
  rw [List.append_assoc] at h
  unfold getL
  rw [cnt_put (n := xs.length) h hn hm]
  dsimp only
  rw [if_neg (by simp)]
  have h2 : l.drop (a + (putI xs.length).length) = xs.flatMap putI ++ r := by rw [← List.drop_drop, h, List.drop_left]
  rw [show ((a : Int) + ((putI xs.length).length : Nat)) = ((a + (putI xs.length).length : Nat) : Int) by omega, Int.toNat_natCast, getN_put xs _ [] r h2 hok]
  unfold putL
  simp [Int.add_assoc]
theorem getN_part {l : List UInt8} : ∀ (xs : List Int) (a j : Nat) (acc : List Int), l.drop a = (xs.flatMap putI).take j → j < (xs.flatMap putI).length → a ≤ l.length → okIs xs → getN l xs.length (a : Int) acc = ([], 0, 10)
  | [], a, j, acc, _, hj, _, _ => by simp at hj
  | x :: xs, a, j, acc, h, hj, ha, hok => by
    rw [List.flatMap_cons] at h hj
    simp only [List.length_cons, getN]
    rcases Nat.lt_or_ge j (putI x).length with h1 | h1
    · rw [List.take_append_of_le_length (by omega)] at h
      rw [getI_part h h1 ha (hok x (by simp))]
      simp
    · have hl := congrArg List.length h
      rw [List.take_append, List.take_of_length_le h1] at h
      have hx := getI_put h (hok x (by simp))
      have h2 : l.drop (a + (putI x).length) = (xs.flatMap putI).take (j - (putI x).length) := by rw [← List.drop_drop, h, List.drop_left]
      simp only [List.length_drop, List.length_take, List.length_append] at hl hj
      have hp := putI_pos x
      have := getN_part xs (a + (putI x).length) (j - (putI x).length) (acc ++ [x]) h2 (by omega) (by omega) (fun z hz => hok z (by simp [hz]))
      rw [hx]
      dsimp only
      rw [if_neg (by simp)]
      rw [show ((a : Int) + ((putI x).length : Nat)) = ((a + (putI x).length : Nat) : Int) by omega, this]
theorem getL_part {l : List UInt8} {xs : List Int} {a j : Nat} {most : Int} (h : l.drop a = (putL xs).take j) (hj : j < (putL xs).length) (ha : a ≤ l.length) (hn : xs.length ≤ 9223372036854775807) (hm : (xs.length : Int) ≤ most) (hok : okIs xs) : getL l (a : Int) most = ([], 0, 10) := by
  unfold putL at h hj
  unfold getL
  rcases Nat.lt_or_ge j (putI xs.length).length with h1 | h1
  · rw [List.take_append_of_le_length (by omega)] at h
    rw [cnt_part (n := xs.length) h h1 ha hn]
    simp
  · have hl := congrArg List.length h
    rw [List.take_append, List.take_of_length_le h1] at h
    rw [cnt_put (n := xs.length) h hn hm]
    dsimp only
    rw [if_neg (by simp)]
    have h2 : l.drop (a + (putI xs.length).length) = (xs.flatMap putI).take (j - (putI xs.length).length) := by rw [← List.drop_drop, h, List.drop_left]
    simp only [List.length_drop, List.length_take, List.length_append] at hl hj
    have hp := putI_pos xs.length
    rw [show ((a : Int) + ((putI xs.length).length : Nat)) = ((a + (putI xs.length).length : Nat) : Int) by omega, Int.toNat_natCast, getN_part xs _ (j - (putI xs.length).length) [] h2 (by omega) (by omega) hok]
/-- n integers that were read. -/
theorem getN_canon {l : List UInt8} : ∀ (n : Nat) (p : Int) (acc : List Int), (getN l n p acc).2.2 = 0 → 0 ≤ p → p ≤ l.length → okIs acc →
    ∃ ys, (getN l n p acc).1 = acc ++ ys ∧ ys.length = n ∧ okIs (acc ++ ys) ∧ l.drop p.toNat = ys.flatMap putI ++ l.drop (getN l n p acc).2.1.toNat ∧ (getN l n p acc).2.1 = p + (ys.flatMap putI).length ∧ (getN l n p acc).2.1 ≤ l.length
  | 0, p, acc, _, hp, hp2, ha => ⟨[], by simp [getN], rfl, by simpa using ha, by simp [getN], by simp [getN], by simpa [getN] using hp2⟩
  | n + 1, p, acc, h, hp, hp2, ha => by
    simp only [getN] at h ⊢
    split at h
    · rename_i h'; exact absurd h h'
    · rename_i h'
      rw [if_neg h']
      have h0 : (getI l p).2.2 = 0 := by simpa using h'
      have hb := getI_ok h0
      obtain ⟨c1, c2⟩ := getI_canon h0
      obtain ⟨ys, y1, y2, y3, y4, y5, y6⟩ := getN_canon n (getI l p).2.1 (acc ++ [(getI l p).1]) h (by omega) (by omega) (okIs_snoc ha (by omega))
      refine ⟨(getI l p).1 :: ys, by rw [y1]; simp, by simp [y2], by simpa using y3, ?_, ?_, y6⟩
      · rw [List.flatMap_cons, List.append_assoc, ← y4]; exact c1
      · rw [List.flatMap_cons, List.length_append, y5]; omega
theorem getL_canon {l : List UInt8} {a most : Int} (h : (getL l a most).2.2 = 0) : 0 ≤ a ∧ l.drop a.toNat = putL (getL l a most).1 ++ l.drop (getL l a most).2.1.toNat ∧ (getL l a most).2.1 = a + (putL (getL l a most).1).length ∧ ((getL l a most).1.length : Int) ≤ most ∧ (getL l a most).2.1 ≤ l.length ∧ (getI l a).2.1 ≤ (getL l a most).2.1 ∧ okIs (getL l a most).1 := by
  unfold getL at *
  split at h
  · rename_i h'; exact absurd h h'
  · rename_i h'
    rw [if_neg h']
    obtain ⟨e, e0, e1, e2⟩ := cnt_canon (l := l) (a := a) (most := most) (by simpa using h')
    rw [e] at h ⊢
    have hb := getI_ok e0
    obtain ⟨hc, hd⟩ := getI_canon e0
    obtain ⟨ys, y1, y2, y3, y4, y5, y6⟩ := getN_canon _ _ [] h (by omega) (by omega) (by simp [okIs])
    rw [List.nil_append] at y1 y3
    rw [y1]
    have hn : ((ys.length : Nat) : Int) = (getI l a).1 := by omega
    unfold putL
    rw [hn]
    refine ⟨by omega, ?_, ?_, by omega, y6, by omega, y3⟩
    · rw [List.append_assoc, ← y4]; exact hc
    · rw [List.length_append, y5]; omega
theorem getN_okIs {l : List UInt8} (n : Nat) (p : Int) : okIs (getN l n p []).1 := by
  rcases Int.lt_or_le p 0 with hp | hp
  · cases n with
    | zero => simp [getN, okIs]
    | succ n =>
      simp only [getN]
      split
      · simp [okIs]
      · rename_i h'
        have := getI_ok (l := l) (a := p) (by simpa using h')
        omega
  · rcases Int.lt_or_le l.length p with hq | hq
    · cases n with
      | zero => simp [getN, okIs]
      | succ n =>
        simp only [getN]
        split
        · simp [okIs]
        · rename_i h'
          have := getI_ok (l := l) (a := p) (by simpa using h')
          omega
    · by_cases h : (getN l n p []).2.2 = 0
      · obtain ⟨ys, y1, _, y3, _⟩ := getN_canon n p [] h hp hq (by simp [okIs])
        rw [y1]; exact y3
      · rw [getN_err l n p [] h]; simp [okIs]
theorem getL_okIs (l : List UInt8) (a most : Int) : okIs (getL l a most).1 := by
  unfold getL
  split
  · simp [okIs]
  · exact getN_okIs _ _
theorem getL_err {l : List UInt8} {a most : Int} (h : (getL l a most).2.2 ≠ 0) : getL l a most = ([], 0, (getL l a most).2.2) := by
  unfold getL at *
  split
  · rfl
  · rename_i h'
    rw [if_neg h'] at h
    exact getN_err _ _ _ _ h
theorem getS_err {l : List UInt8} {a most : Int} (h : (getS l a most).2.2 ≠ 0) : getS l a most = ([], 0, (getS l a most).2.2) := by
  rw [getS_cnt] at *
  split
  · rfl
  · rename_i h'
    rw [if_neg h'] at h
    split
    · rfl
    · rename_i h2; rw [if_neg h2] at h; simp at h
theorem getI_err {l : List UInt8} {a : Int} (h : (getI l a).2.2 ≠ 0) : getI l a = (0, 0, (getI l a).2.2) := by
  rcases getI_e l a with h' | h'
  · exact absurd h' h
  · exact h'.1

theorem cnt_bad {l : List UInt8} {a most : Int} (h : (getI l a).2.2 ≠ 0) : (cnt l a most).2.2 ≠ 0 := by
  unfold cnt; rw [if_pos h]; exact h
theorem getS_bad {l : List UInt8} {a most : Int} (h : (getI l a).2.2 ≠ 0) : (getS l a most).2.2 ≠ 0 := by
  have := cnt_bad (most := most) h
  rw [getS_cnt, if_pos this]; exact this
theorem getL_bad {l : List UInt8} {a most : Int} (h : (getI l a).2.2 ≠ 0) : (getL l a most).2.2 ≠ 0 := by
  have := cnt_bad (most := most) h
  unfold getL; rw [if_pos this]; exact this
theorem putS_len (s : List UInt8) (h : s.length ≤ 9223372036854775807) : (putS s).length ≤ s.length + 10 := by
  have := putI_len (n := (s.length : Int)) (by omega)
  unfold putS
  simp
  omega
theorem putL_len {xs : List Int} (hx : okIs xs) (h : xs.length ≤ 9223372036854775807) : (putL xs).length ≤ 10 * xs.length + 10 := by
  have := putI_len (n := (xs.length : Int)) (by omega)
  have := flat_len hx
  unfold putL
  rw [List.length_append]
  omega
theorem flat_ge : ∀ (xs : List Int), xs.length ≤ (xs.flatMap putI).length
  | [] => by simp
  | x :: xs => by have := flat_ge xs; have := putI_pos x; simp only [List.flatMap_cons, List.length_append, List.length_cons]; omega
theorem putL_len2 (xs : List Int) : xs.length ≤ (putL xs).length := by
  have := flat_ge xs
  unfold putL
  rw [List.length_append]
  omega
theorem putS_pos (s : List UInt8) : 0 < (putS s).length := by have := putI_pos s.length; unfold putS; simp; omega
theorem putL_pos (xs : List Int) : 0 < (putL xs).length := by have := putI_pos xs.length; unfold putL; simp; omega

/-- The length grows with the number. -/
theorem enc_mono : ∀ (v u : Nat), u ≤ v → (enc u).length ≤ (enc v).length := by
  intro v
  induction v using Nat.strongRecOn with
  | ind v ih =>
    intro u huv
    by_cases hu : u < 128
    · rw [enc_lt hu]; exact enc_pos v
    · have hv : ¬ v < 128 := by omega
      rw [enc_ge hu, enc_ge hv]
      have := ih (v / 128) (by omega) (u / 128) (Nat.div_le_div_right huv)
      simp
      exact this
theorem enc_one {u : Nat} : (enc u).length = 1 ↔ u < 128 := by
  constructor
  · intro h
    by_cases hu : u < 128
    · exact hu
    · rw [enc_ge hu] at h
      have := enc_pos (u / 128)
      simp only [List.length_cons] at h
      omega
  · intro h; rw [enc_lt h]; rfl
theorem putI_one {n : Int} : (putI n).length = 1 ↔ (-64 ≤ n ∧ n ≤ 63) := by
  unfold putI
  rw [enc_one]
  unfold zig
  split <;> omega
theorem putI_near {m n : Int} (h : (0 ≤ m ∧ m ≤ n) ∨ (m < 0 ∧ n ≤ m)) : (putI m).length ≤ (putI n).length := by
  unfold putI
  apply enc_mono
  unfold zig
  split <;> split <;> omega
end Go.Proofs.YtfockoihmoljfaaGreatDoor.Vi

