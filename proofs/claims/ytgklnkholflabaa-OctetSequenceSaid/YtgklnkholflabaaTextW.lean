/-
  GetText: the program's and the reference's.
-/
import Derived.Test.YtgklnkholflabaaListsW
import Derived.Test.YtgklnkholflabaaGetW
import Derived.Test.YtgklnkholflabaaRGetW
import Derived.Laws.BytesArg
namespace Go.Proofs.Ytgklnkholflabaa
open Go.RowKit
set_option linter.unusedVariables false
set_option linter.unusedSimpArgs false

/-- A string of bytes. -/
def strOf (l : List UInt8) : ByteArray := ⟨l.toArray⟩
theorem strOf_inj {l r : List UInt8} : strOf l = strOf r ↔ l = r := by
  unfold strOf
  constructor
  · intro h
    injection h with h
    exact congrArg Array.toList h
  · intro h; rw [h]
theorem strOf_size (l : List UInt8) : (strOf l).size = l.length := rfl
theorem strOf_data (s : ByteArray) : strOf s.data.toList = s := rfl
theorem back_bytes (l : List UInt8) : (l.map fun b => (b.toNat : Int)).map (fun n => UInt8.ofNat n.toNat) = l := by
  induction l with
  | nil => rfl
  | cons x r ih => rw [List.map_cons, List.map_cons, ih]; simp
theorem run_str {w : World} {B : Nat} {A : Option Addr} {n c : Nat} {l : List UInt8} (h : RdB w B A n c l) : (convert 22 9 (.slice A n c)).run Try.prog w = .ok (.string (strOf l)) w := by
  have hl := h.len
  rcases A with _ | ad
  · have h0 : n = 0 := by
      rcases Nat.eq_zero_or_pos n with h0 | h0
      · exact h0
      · obtain ⟨ad, h', _⟩ := h.2.2.2 h0
        cases h'
    have : l = [] := List.eq_nil_of_length_eq_zero (by omega)
    subst this
    exact run_convert_bytes_nil w 22 5 Try.underlying22 Try.underlying5 n c 9 Try.underlying9
  · have hc : ∀ (j : Nat) (u : Value), (bv l)[j]? = some u → w.cell? (ad.add j) = some u := by
      intro j u hu
      have hj : j < n := by
        have := (List.getElem?_eq_some_iff.1 hu).1
        rw [bv_length] at this
        omega
      obtain ⟨ad', e, _, hc⟩ := h.2.2.2 (by omega)
      injection e with e
      subst e
      exact hc j u hu
    have hload := run_loadCells_list (P := Try.prog) w ad (bv l) hc
    rw [bv_length, hl] at hload
    have e : bv l = (l.map fun b => (b.toNat : Int)).map (Value.int .u8) := by unfold bv; rw [List.map_map]; rfl
    rw [run_convert_bytes_string w 22 9 5 _ n c Try.underlying22 Try.underlying5 Try.underlying9, run_bytesToString w ad n c (l.map fun b => (b.toNat : Int)) (by rw [← e]; exact hload), foldl_push_bytes, back_bytes]
    have : (⟨ByteArray.empty.data ++ l.toArray⟩ : ByteArray) = strOf l := by
      unfold strOf
      congr 1
      show #[] ++ l.toArray = l.toArray
      simp
    rw [this]

/-- What GetText answers. -/
def Vi.getS (l : List UInt8) (a most : Int) : List UInt8 × Int × Int :=
  if (Vi.getI l a).2.2 ≠ 0 then ([], 0, (Vi.getI l a).2.2)
  else if (Vi.getI l a).1 < 0 then ([], 0, 11)
  else if most < (Vi.getI l a).1 then ([], 0, 2)
  else if (l.length : Int) - (Vi.getI l a).2.1 < (Vi.getI l a).1 then ([], 0, 10)
  else ((l.drop (Vi.getI l a).2.1.toNat).take (Vi.getI l a).1.toNat, (Vi.getI l a).2.1 + (Vi.getI l a).1, 0)
/-- A length prefix. -/
def Vi.cnt (l : List UInt8) (a most : Int) : Int × Int × Int :=
  if (Vi.getI l a).2.2 ≠ 0 then (0, 0, (Vi.getI l a).2.2)
  else if (Vi.getI l a).1 < 0 then (0, 0, 11)
  else if most < (Vi.getI l a).1 then (0, 0, 2)
  else ((Vi.getI l a).1, (Vi.getI l a).2.1, 0)
theorem getS_cnt (l : List UInt8) (a most : Int) : Vi.getS l a most = if (Vi.cnt l a most).2.2 ≠ 0 then ([], 0, (Vi.cnt l a most).2.2) else if (l.length : Int) - (Vi.cnt l a most).2.1 < (Vi.cnt l a most).1 then ([], 0, 10)
    else ((l.drop (Vi.cnt l a most).2.1.toNat).take (Vi.cnt l a most).1.toNat, (Vi.cnt l a most).2.1 + (Vi.cnt l a most).1, 0) := by
  unfold Vi.getS Vi.cnt
  split
  · rename_i h; simp [h]
  · split
    · simp
    · split
      · simp
      · simp
theorem dec_bound : ∀ (s : List UInt8) (i U : Nat), ∀ u k, Vi.dec i U s = .ok u k → i < k ∧ k ≤ i + s.length := by
  intro s
  induction s with
  | nil => intro i U u k h; simp [Vi.dec] at h
  | cons c r ih =>
    intro i U u k h
    simp only [Vi.dec] at h
    split at h
    · cases h
    · split at h
      · cases h; simp
      · have := ih _ _ _ _ h
        simp
        omega
theorem dec_lt : ∀ (s : List UInt8) (i U : Nat), i ≤ 9 → U < 128 ^ i → ∀ u k, Vi.dec i U s = .ok u k → u < 18446744073709551616 ∧ k ≤ 10 := by
  intro s
  induction s with
  | nil => intro i U _ _ u k h; simp [Vi.dec] at h
  | cons c r ih =>
    intro i U hi hU u k h
    simp only [Vi.dec] at h
    split at h
    · cases h
    · rename_i hb
      have hc := c.toNat_lt
      split at h
      · rename_i hl
        cases h
        exact ⟨step_lt64 U c.toNat i hU hi hl (fun e => by omega), by omega⟩
      · rename_i hl
        refine ih (i + 1) _ (by omega) ?_ u k h
        exact pow_step U (c.toNat - 128) i hU (by omega)
/-- A number that was read: in range, behind the offset, inside the bytes. -/
theorem getI_ok {l : List UInt8} {a : Int} (h : (Vi.getI l a).2.2 = 0) : 0 ≤ a ∧ a < (Vi.getI l a).2.1 ∧ (Vi.getI l a).2.1 ≤ l.length ∧ (Vi.getI l a).2.1 ≤ a + 10 ∧ -9223372036854775808 ≤ (Vi.getI l a).1 ∧ (Vi.getI l a).1 ≤ 9223372036854775807 := by
  unfold Vi.getI at *
  split at h
  · simp at h
  · rename_i hb
    rw [if_neg hb]
    cases hd : Vi.dec 0 0 (l.drop a.toNat) with
    | short => rw [hd] at h; simp at h
    | form => rw [hd] at h; simp at h
    | ok u k =>
      have h1 := dec_bound _ _ _ _ _ hd
      have h2 := dec_lt _ 0 0 (by omega) (by simp) _ _ hd
      rw [List.length_drop] at h1
      have h3 := Vi.unzig_ok h2.1
      dsimp only
      omega
theorem cnt_ok {l : List UInt8} {a most : Int} (h : (Vi.cnt l a most).2.2 = 0) : 0 ≤ a ∧ a < (Vi.cnt l a most).2.1 ∧ (Vi.cnt l a most).2.1 ≤ l.length ∧ 0 ≤ (Vi.cnt l a most).1 ∧ (Vi.cnt l a most).1 ≤ most ∧ (Vi.cnt l a most).1 ≤ 9223372036854775807 := by
  unfold Vi.cnt at *
  split at h
  · rename_i h'; exact absurd h h'
  · rename_i h'
    have hb := getI_ok (l := l) (a := a) (by simpa using h')
    split at h
    · simp at h
    · split at h
      · simp at h
      · rename_i h1 h2
        rw [if_neg h', if_neg h1, if_neg h2]
        dsimp only
        omega
theorem getI_e (l : List UInt8) (a : Int) : (Vi.getI l a).2.2 = 0 ∨ (Vi.getI l a = (0, 0, (Vi.getI l a).2.2) ∧ ((Vi.getI l a).2.2 = 1 ∨ (Vi.getI l a).2.2 = 10 ∨ (Vi.getI l a).2.2 = 11)) := by
  unfold Vi.getI
  split
  · exact .inr ⟨rfl, .inl rfl⟩
  · split
    · exact .inr ⟨rfl, .inr (.inl rfl)⟩
    · exact .inr ⟨rfl, .inr (.inr rfl)⟩
    · exact .inl rfl

set_option maxHeartbeats 1000000 in
theorem getText1_any (Bb : Nat) (A : Option Addr) (m c : Nat) (l : List UInt8) (n a : Nat) (w : World) (hbox : w.heap[Bb]? = some (.cells #[.slice A m c] 22)) (h : RdB w w.heap.size A m c l) (ha : a ≤ m) (hn : (n : Int) ≤ 9223372036854775807) :
    Calls Try.prog 29 #[.int .i64 n, .int .i64 a, .pointer (some ⟨Bb, 0, none⟩)] w fun e w' =>
      e = .returned (.tuple #[.string (strOf (if (m : Int) - a < n then [] else (l.drop a).take n)), .int .i64 (if (m : Int) - a < n then 0 else (a : Int) + n), .int .i64 (if (m : Int) - a < n then 10 else 0)]) ∧ w = w' := by
  have hm := h.max
  have hle := h.le
  have c1 : w.cell? ⟨Bb, 0, none⟩ = some (.slice A m c) := cell_of_row w Bb 0 _ _ _ hbox
  by_cases hs : (m : Int) - a < n
  · have d1 : decide ((m : Int) - (a : Int) < (n : Int)) = true := decide_eq_true hs
    rw [if_pos hs, if_pos hs, if_pos hs]
    go_enter Try.func29, Try.ntmps29
    go_wp2_with fail
    go_ret3
    exact ⟨rfl, rfl⟩
  · have d1 : decide ((m : Int) - (a : Int) < (n : Int)) = false := decide_eq_false hs
    rw [if_neg hs, if_neg hs, if_neg hs]
    have hcut := (h.upto (show a + n ≤ m by omega)).cut (show a ≤ a + n by omega)
    rw [Nat.add_sub_cancel_left, List.drop_take, Nat.add_sub_cancel_left] at hcut
    have hstr := run_str hcut
    go_enter Try.func29, Try.ntmps29
    go_wp2_with fail
    all_goals (go_ret3; exact ⟨rfl, rfl⟩)

set_option maxHeartbeats 1000000 in
theorem readS_any (Bb : Nat) (A : Option Addr) (m c : Nat) (l : List UInt8) (a most : Int) (w : World) (hbox : w.heap[Bb]? = some (.cells #[.slice A m c] 22)) (h : RdB w w.heap.size A m c l) (ha : -9223372036854775808 ≤ a ∧ a ≤ 9223372036854775807) :
    Calls Try.prog 28 #[.slice A m c, .int .i64 a, .int .i64 most, .func (.func 29) #[] #[.pointer (some ⟨Bb, 0, none⟩)]] w fun e w' =>
      e = .returned (.tuple #[.string (strOf (Vi.getS l a most).1), .int .i64 (Vi.getS l a most).2.1, .int .i64 (Vi.getS l a most).2.2]) ∧ w = w' := by
  have HG := Lib.hid (getInt_any A m c l a w h ha)
  have hok := getI_ok (l := l) (a := a)
  have HS : Hid (∃ R, R = Vi.getS l a most) := ⟨_, rfl⟩
  obtain ⟨R, hR⟩ := HS.out
  rw [← hR]
  unfold Vi.getS at hR
  rw [h.len] at hR hok
  generalize Vi.getI l a = G at *
  obtain ⟨n, nx, e⟩ := G
  dsimp only at *
  clear HS
  go_enter Try.func28, Try.ntmps28
  go_wp2_with fail
  refine HG.out.mono ?_
  rintro e' w' ⟨rfl, rfl⟩
  clear HG
  by_cases he : e = 0
  · have hb := hok he
    subst he
    by_cases h1 : n < 0
    · rw [if_neg (by simp), if_pos h1] at hR
      have d1 : decide (n < 0) = true := decide_eq_true h1
      subst hR
      clear hok
      go_wp2_with fail
      go_ret3
      exact ⟨rfl, rfl⟩
    · have d1 : decide (n < 0) = false := decide_eq_false h1
      by_cases h2 : most < n
      · rw [if_neg (by simp), if_neg h1, if_pos h2] at hR
        have d2 : decide (most < n) = true := decide_eq_true h2
        subst hR
        clear hok
        go_wp2_with fail
        go_ret3
        exact ⟨rfl, rfl⟩
      · have d2 : decide (most < n) = false := decide_eq_false h2
        rw [if_neg (by simp), if_neg h1, if_neg h2] at hR
        obtain ⟨N, rfl⟩ := Int.eq_ofNat_of_zero_le (show 0 ≤ n by omega)
        obtain ⟨X, rfl⟩ := Int.eq_ofNat_of_zero_le (show 0 ≤ nx by omega)
        have hX : X ≤ m := by omega
        have hN : (N : Int) ≤ 9223372036854775807 := by omega
        simp only [Int.toNat_natCast] at hR
        have HR := Lib.hid hR
        clear hR hok hb
        go_wp2_with fail
        refine (getText1_any Bb A m c l N X w hbox h hX hN).mono ?_
        rintro e' w' ⟨rfl, rfl⟩
        by_cases h3 : (m : Int) - X < N
        · rw [if_pos h3, if_pos h3, if_pos h3]
          have hR2 := HR.out
          rw [if_pos h3] at hR2
          subst hR2
          clear HR
          go_wp2_with fail
          go_ret3
          exact ⟨rfl, rfl⟩
        · rw [if_neg h3, if_neg h3, if_neg h3]
          have hR2 := HR.out
          rw [if_neg h3] at hR2
          subst hR2
          clear HR
          go_wp2_with fail
          go_ret3
          exact ⟨rfl, rfl⟩
  · rw [if_pos he] at hR
    have d0 : (e != 0) = true := by simpa using he
    subst hR
    clear hok
    go_wp2_with fail
    go_ret3
    exact ⟨rfl, rfl⟩
set_option maxHeartbeats 1000000 in
theorem getText_any (A : Option Addr) (m c : Nat) (l : List UInt8) (a most : Int) (w : World) (h : RdB w w.heap.size A m c l) (ha : -9223372036854775808 ≤ a ∧ a ≤ 9223372036854775807) :
    Calls Try.prog 17 #[.slice A m c, .int .i64 a, .int .i64 most] w fun e w' =>
      e = .returned (.tuple #[.string (strOf (Vi.getS l a most).1), .int .i64 (Vi.getS l a most).2.1, .int .i64 (Vi.getS l a most).2.2]) ∧ Below w.heap.size w w' := by
  obtain ⟨V1, hV⟩ : ∃ V1, V1 = w.alloc (.cells #[.slice A m c] 22) := ⟨_, rfl⟩
  have bx : V1.heap[w.heap.size]? = some (.cells #[.slice A m c] 22) := by rw [hV]; exact heap_alloc_new _ _
  have hbt : Below w.heap.size w V1 := by rw [hV]; exact (Below.refl _ _).alloc (Nat.le_refl _) _
  have hr := (h.below hbt).more hbt.size
  have HV := Lib.hid hV.symm
  have c1 := cell_of_row V1 w.heap.size 0 _ _ _ bx
  simp only [List.getElem?_toArray, List.getElem?_cons_zero, List.getElem?_cons_succ] at c1
  rw [← HV.out] at c1
  clear hV
  have HG := Lib.hid (readS_any w.heap.size A m c l a most V1 bx hr ha)
  generalize Vi.getS l a most = R at *
  go_enter Try.func17, Try.ntmps17
  go_wp2_with fail
  rw [HV.out]
  clear HV c1
  refine HG.out.mono ?_
  rintro e' w' ⟨rfl, rfl⟩
  go_wp2_with fail
  go_ret3
  exact ⟨rfl, hbt⟩

set_option maxHeartbeats 1000000 in
theorem rcount_any (A : Option Addr) (m c : Nat) (l : List UInt8) (a most : Int) (w : World) (h : RdB w w.heap.size A m c l) (ha : -9223372036854775808 ≤ a ∧ a ≤ 9223372036854775807) (hm : m ≤ 1099511627776) :
    Calls Try.prog 30 #[.slice A m c, .int .i64 a, .int .i64 most] w fun e w' =>
      e = .returned (.tuple #[.int .i64 (Vi.cnt l a most).1, .int .i64 (Vi.cnt l a most).2.1, .int .i64 (Vi.cnt l a most).2.2]) ∧ w = w' := by
  have HG := Lib.hid (rgetInt_any A m c l a w h ha hm)
  have HS : Hid (∃ R, R = Vi.cnt l a most) := ⟨_, rfl⟩
  obtain ⟨R, hR⟩ := HS.out
  rw [← hR]
  unfold Vi.cnt at hR
  generalize Vi.getI l a = G at *
  obtain ⟨n, nx, e⟩ := G
  dsimp only at *
  clear HS
  go_enter Try.func30, Try.ntmps30
  go_wp2_with fail
  refine HG.out.mono ?_
  rintro e' w' ⟨rfl, rfl⟩
  clear HG
  by_cases he : e = 0
  · subst he
    by_cases h1 : n < 0
    · rw [if_neg (by simp), if_pos h1] at hR
      have d1 : decide (n < 0) = true := decide_eq_true h1
      subst hR
      go_wp2_with fail
      go_ret3
      exact ⟨rfl, rfl⟩
    · have d1 : decide (n < 0) = false := decide_eq_false h1
      by_cases h2 : most < n
      · rw [if_neg (by simp), if_neg h1, if_pos h2] at hR
        have d2 : decide (most < n) = true := decide_eq_true h2
        subst hR
        go_wp2_with fail
        go_ret3
        exact ⟨rfl, rfl⟩
      · have d2 : decide (most < n) = false := decide_eq_false h2
        rw [if_neg (by simp), if_neg h1, if_neg h2] at hR
        subst hR
        go_wp2_with fail
        go_ret3
        exact ⟨rfl, rfl⟩
  · rw [if_pos he] at hR
    have d0 : (e != 0) = true := by simpa using he
    subst hR
    go_wp2_with fail
    go_ret3
    exact ⟨rfl, rfl⟩

set_option maxHeartbeats 1000000 in
theorem rgetText_any (A : Option Addr) (m c : Nat) (l : List UInt8) (a most : Int) (w : World) (h : RdB w w.heap.size A m c l) (ha : -9223372036854775808 ≤ a ∧ a ≤ 9223372036854775807) (hm : m ≤ 1099511627776) :
    Calls Try.prog 18 #[.slice A m c, .int .i64 a, .int .i64 most] w fun e w' =>
      e = .returned (.tuple #[.string (strOf (Vi.getS l a most).1), .int .i64 (Vi.getS l a most).2.1, .int .i64 (Vi.getS l a most).2.2]) ∧ w = w' := by
  have hm2 := h.max
  have hle := h.le
  have HG := Lib.hid (rcount_any A m c l a most w h ha hm)
  have HC := Lib.hid (getS_cnt l a most)
  rw [h.len] at HC
  have hok := cnt_ok (l := l) (a := a) (most := most)
  rw [h.len] at hok
  generalize Vi.getS l a most = R at *
  generalize Vi.cnt l a most = G at *
  obtain ⟨n, nx, e⟩ := G
  dsimp only at *
  go_enter Try.func18, Try.ntmps18
  go_wp2_with fail
  refine HG.out.mono ?_
  rintro e' w' ⟨rfl, rfl⟩
  clear HG
  have hR := HC.out
  clear HC
  by_cases he : e = 0
  · have hb := hok he
    subst he
    rw [if_neg (by simp)] at hR
    obtain ⟨N, rfl⟩ := Int.eq_ofNat_of_zero_le (show 0 ≤ n by omega)
    obtain ⟨X, rfl⟩ := Int.eq_ofNat_of_zero_le (show 0 ≤ nx by omega)
    have hX : X ≤ m := by omega
    have hN : (N : Int) ≤ 9223372036854775807 := by omega
    simp only [Int.toNat_natCast] at hR
    clear hok hb
    by_cases h3 : (m : Int) - X < N
    · rw [if_pos h3] at hR
      have d3 : decide ((m : Int) - (X : Int) < (N : Int)) = true := decide_eq_true h3
      subst hR
      go_wp2_with fail
      go_ret3
      exact ⟨rfl, rfl⟩
    · rw [if_neg h3] at hR
      have d3 : decide ((m : Int) - (X : Int) < (N : Int)) = false := decide_eq_false h3
      subst hR
      have hcut := (h.upto (show X + N ≤ m by omega)).cut (show X ≤ X + N by omega)
      rw [Nat.add_sub_cancel_left, List.drop_take, Nat.add_sub_cancel_left] at hcut
      have hstr := run_str hcut
      go_wp2_with fail
      all_goals (go_ret3; exact ⟨rfl, rfl⟩)
  · rw [if_pos he] at hR
    have d0 : (e != 0) = true := by simpa using he
    subst hR
    clear hok
    go_wp2_with fail
    go_ret3
    exact ⟨rfl, rfl⟩
end Go.Proofs.Ytgklnkholflabaa
