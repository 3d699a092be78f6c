/-
  GetInts: the program's and the reference's; Ints.
-/
import Derived.Test.YtgklnkholflabaaTextW
import Derived.Deep.QuietTactic
import Derived.BigQuiet
namespace Go.Proofs.Ytgklnkholflabaa
open Go.RowKit
set_option linter.unusedVariables false
set_option linter.unusedSimpArgs false

/-- n integers from the offset p on. -/
def Vi.getN (l : List UInt8) : Nat → Int → List Int → List Int × Int × Int
  | 0, p, acc => (acc, p, 0)
  | n + 1, p, acc => if (Vi.getI l p).2.2 ≠ 0 then ([], 0, (Vi.getI l p).2.2) else Vi.getN l n (Vi.getI l p).2.1 (acc ++ [(Vi.getI l p).1])
/-- What GetInts answers. -/
def Vi.getL (l : List UInt8) (a most : Int) : List Int × Int × Int :=
  if (Vi.cnt l a most).2.2 ≠ 0 then ([], 0, (Vi.cnt l a most).2.2) else Vi.getN l (Vi.cnt l a most).1.toNat (Vi.cnt l a most).2.1 []
theorem getN_err (l : List UInt8) : ∀ (n : Nat) (p : Int) (acc : List Int), (Vi.getN l n p acc).2.2 ≠ 0 → Vi.getN l n p acc = ([], 0, (Vi.getN l n p acc).2.2) := by
  intro n
  induction n with
  | zero => intro p acc h; simp [Vi.getN] at h
  | succ n ih =>
    intro p acc h
    simp only [Vi.getN] at h ⊢
    split
    · rfl
    · rename_i h'
      rw [if_neg h'] at h
      exact ih _ _ h
/-- A slice of integers in new memory, an offset, an error. -/
def LPost (R : List Int × Int × Int) (w : World) (e : Ending) (w' : World) : Prop :=
  ∃ v, e = .returned (.tuple #[v, .int .i64 R.2.1, .int .i64 R.2.2]) ∧ w'.ownsRow w.heap.size 3 1 v R.1.length (iv R.1) ∧ Below w.heap.size w w'
theorem lpost_err {R : List Int × Int × Int} {er : Int} {w w' : World} (hR : R = ([], 0, er)) (hb : Below w.heap.size w w') : LPost R w (.returned (.tuple #[.slice none 0 0, .int .i64 0, .int .i64 er])) w' := by
  subst hR
  exact ⟨.slice none 0 0, rfl, World.ownsRow_nil _ _ _ _, hb⟩
theorem one_i64 (z : Int) : ∀ u ∈ [Value.int .i64 z], u.oneCell' = true := by simp [Value.oneCell']
theorem iv_snoc (l : List Int) (z : Int) : iv l ++ [.int .i64 z] = iv (l ++ [z]) := by rw [iv_append]; rfl
theorem okIs_snoc {l : List Int} {z : Int} (h : okIs l) (hz : -9223372036854775808 ≤ z ∧ z ≤ 9223372036854775807) : okIs (l ++ [z]) := by
  intro y hy
  rcases List.mem_append.1 hy with hy | hy
  · exact h y hy
  · rw [List.mem_singleton] at hy; subst hy; exact hz

set_option maxHeartbeats 1000000 in
theorem getInts1_any (Bb : Nat) (A : Option Addr) (m c : Nat) (l : List UInt8) (N X : Nat) (w : World) (hbox : w.heap[Bb]? = some (.cells #[.slice A m c] 22)) (h : RdB w w.heap.size A m c l) (hX : X ≤ m) (hm : m ≤ 1073741824) (hN : (N : Int) ≤ 9223372036854775807) :
    Calls Try.prog 32 #[.int .i64 N, .int .i64 X, .pointer (some ⟨Bb, 0, none⟩)] w (LPost (Vi.getN l N X []) w) := by
  have h2 := h.max
  have h3 := h.le
  have hlen := Lib.hid h.len
  have hBb : Bb < w.heap.size := (Array.getElem?_eq_some_iff.1 hbox).1
  obtain ⟨R, hR⟩ : ∃ R, R = Vi.getN l N X [] := ⟨_, rfl⟩
  rw [← hR]
  go_enter Try.func32, Try.ntmps32
  go_wp2_with fail
  go_loopw [5, 6] (fun v p wr => ∃ (k P : Nat) (acc : List Int), acc.length = k ∧ k ≤ N ∧ k ≤ P ∧ P ≤ m ∧ p = .int .i64 P ∧ R = Vi.getN l (N - k) P acc ∧ wr.ownsRow w.heap.size 3 1 v k (iv acc) ∧ Below w.heap.size w wr) (fun _ p _ => m - (intOf p).toNat)
  case atStart => exact ⟨0, X, [], rfl, by omega, by omega, hX, rfl, by rw [hR]; rfl, World.ownsRow_nil _ _ _ _, Below.refl _ _⟩
  case round =>
    obtain ⟨k, P, acc, hk, hkN, hkP, hP, rfl, hRk, hown, hb⟩ := hrel
    clear hR
    have HK := Lib.hid hk
    have HRK := Lib.hid hRk
    clear hk hRk
    obtain ⟨Av, cv, rfl, _⟩ := own_rd hown
    have hbs := hb.size
    have bx : wr.heap[Bb]? = some (.cells #[.slice A m c] 22) := (hb.block Bb hBb).trans hbox
    have c1 : wr.cell? ⟨Bb, 0, none⟩ = some (.slice A m c) := cell_of_row wr Bb 0 _ _ _ bx
    have hr := (h.below hb).more hb.size
    by_cases hkn : k < N
    · have d1 : decide ((k : Int) < (N : Int)) = true := by simp; omega
      have d1' : decide (k < N) = true := by simp; omega
      obtain ⟨j, hj⟩ : ∃ j, N - k = j + 1 := ⟨N - k - 1, by omega⟩
      have HC := Lib.hid (getInt_any A m c l (P : Int) wr hr (by omega))
      have hok := getI_ok (l := l) (a := (P : Int))
      rw [hlen.out] at hok
      have HR2 : Hid (R = if (Vi.getI l P).2.2 ≠ 0 then ([], 0, (Vi.getI l P).2.2) else Vi.getN l (N - (k + 1)) (Vi.getI l P).2.1 (acc ++ [(Vi.getI l P).1])) := by
        show R = _
        rw [HRK.out, hj, show N - (k + 1) = j by omega]
        rfl
      clear HRK hj
      generalize Vi.getI l P = G at *
      obtain ⟨z, nx, e⟩ := G
      dsimp only at *
      go_wp2_with fail
      refine HC.out.mono ?_
      rintro e' w' ⟨rfl, rfl⟩
      clear HC
      by_cases he : e = 0
      · have hb2 := hok he
        subst he
        obtain ⟨Y, rfl⟩ := Int.eq_ofNat_of_zero_le (show 0 ≤ nx by omega)
        have HR3 : Hid (R = Vi.getN l (N - (k + 1)) Y (acc ++ [z])) := by show R = _; rw [HR2.out, if_neg (by simp)]
        have hY1 : P < Y := by omega
        have hY2 : Y ≤ m := by omega
        clear hok hb2 HR2
        have hx1 : (k + 1) * 8 ≤ 140737488355328 := by omega
        have hx1' : k + 1 ≤ 140737488355328 := by omega
        have hx2 : ∀ o, w.heap.size ≤ (wr.alloc o).heap.size := fun o => by rw [World.size_alloc]; omega
        go_wp2_with (at_builtin; refine wpList_app _ _ elI (hown.alloc _) (Rd.one wr _ _) (one_i64 _) hx1 hx1' (hx2 _) rfl rfl rfl rfl ?_; intro v2 w2 hown2 hg2 hat2)
        go_roundw
        case rel =>
          refine ⟨k + 1, Y, acc ++ [z], by rw [List.length_append, HK.out]; rfl, by omega, by omega, hY2, rfl, HR3.out, ?_, hb.grown (grownBy_of_alloc hg2) hb.size (own_lt hown)⟩
          rw [← iv_snoc]
          exact hown2
        case measure => simp [intOf]; omega
      · have d0 : (e != 0) = true := by simpa using he
        have hR3 : R = ([], 0, e) := by rw [HR2.out, if_pos he]
        have HR3 := Lib.hid hR3
        clear hR3 HR2 hok
        go_wp2_with fail
        go_ret3
        exact lpost_err HR3.out hb
    · have d1 : decide ((k : Int) < (N : Int)) = false := by simp; omega
      have d1' : decide (k < N) = false := by simp; omega
      have HR3 : Hid (R = (acc, (P : Int), 0)) := by show R = _; rw [HRK.out, show N - k = 0 by omega]; rfl
      go_wp2_with fail
      go_ret3
      rw [HR3.out]
      refine ⟨_, rfl, ?_, hb⟩
      dsimp only
      rw [HK.out]
      exact hown

set_option maxHeartbeats 1000000 in
theorem readL_any (Bb : Nat) (A : Option Addr) (m c : Nat) (l : List UInt8) (a most : Int) (w : World) (hbox : w.heap[Bb]? = some (.cells #[.slice A m c] 22)) (h : RdB w w.heap.size A m c l) (ha : -9223372036854775808 ≤ a ∧ a ≤ 9223372036854775807) (hm : m ≤ 1073741824) :
    Calls Try.prog 31 #[.slice A m c, .int .i64 a, .int .i64 most, .func (.func 32) #[] #[.pointer (some ⟨Bb, 0, none⟩)]] w (LPost (Vi.getL l a most) w) := by
  have HG := Lib.hid (getInt_any A m c l a w h ha)
  have hok := getI_ok (l := l) (a := a)
  have HS : Hid (∃ R, R = Vi.getL l a most) := ⟨_, rfl⟩
  obtain ⟨R, hR⟩ := HS.out
  rw [← hR]
  unfold Vi.getL Vi.cnt at hR
  rw [h.len] at hok
  generalize Vi.getI l a = G at *
  obtain ⟨n, nx, e⟩ := G
  dsimp only at *
  have HR0 := Lib.hid hR
  clear HS hR
  go_enter Try.func31, Try.ntmps31
  go_wp2_with fail
  refine HG.out.mono ?_
  rintro e' w' ⟨rfl, rfl⟩
  clear HG
  by_cases he : e = 0
  · have hb := hok he
    subst he
    by_cases h1 : n < 0
    · have hR2 : R = ([], 0, 11) := by rw [HR0.out]; simp [h1]
      have d1 : decide (n < 0) = true := decide_eq_true h1
      have HR := Lib.hid hR2
      clear HR0 hR2 hok
      go_wp2_with fail
      go_ret3
      exact lpost_err HR.out (Below.refl _ _)
    · have d1 : decide (n < 0) = false := decide_eq_false h1
      by_cases h2 : most < n
      · have hR2 : R = ([], 0, 2) := by rw [HR0.out]; simp [h1, h2]
        have d2 : decide (most < n) = true := decide_eq_true h2
        have HR := Lib.hid hR2
        clear HR0 hR2 hok
        go_wp2_with fail
        go_ret3
        exact lpost_err HR.out (Below.refl _ _)
      · have d2 : decide (most < n) = false := decide_eq_false h2
        obtain ⟨N, rfl⟩ := Int.eq_ofNat_of_zero_le (show 0 ≤ n by omega)
        obtain ⟨X, rfl⟩ := Int.eq_ofNat_of_zero_le (show 0 ≤ nx by omega)
        have hX : X ≤ m := by omega
        have hN : (N : Int) ≤ 9223372036854775807 := by omega
        have hR2 : R = Vi.getN l N X [] := by rw [HR0.out]; simp [h1, h2]
        have HR := Lib.hid hR2
        clear HR0 hR2 hok hb
        go_wp2_with fail
        refine (getInts1_any Bb A m c l N X w hbox h hX hm hN).mono ?_
        have HNE := Lib.hid (getN_err l N X [])
        rw [← HR.out] at HNE ⊢
        rintro e' w2 ⟨v, rfl, hown, hb⟩
        clear HR
        obtain ⟨L, p, er⟩ := R
        dsimp only at *
        obtain ⟨Av, cv, rfl, _⟩ := own_rd hown
        by_cases he2 : er = 0
        · have d3 : (er != 0) = false := by simpa using he2
          have HE := Lib.hid he2
          clear he2
          go_wp2_with fail
          go_ret3
          exact ⟨_, rfl, hown, hb⟩
        · have d3 : (er != 0) = true := by simpa using he2
          have HR4 := Lib.hid (HNE.out he2)
          clear HNE
          go_wp2_with fail
          go_ret3
          exact lpost_err HR4.out hb
  · have d0 : (e != 0) = true := by simpa using he
    have hR2 : R = ([], 0, e) := by rw [HR0.out]; simp [he]
    have HR := Lib.hid hR2
    clear HR0 hR2 hok
    go_wp2_with fail
    go_ret3
    exact lpost_err HR.out (Below.refl _ _)

set_option maxHeartbeats 1000000 in
theorem getInts_any (A : Option Addr) (m c : Nat) (l : List UInt8) (a most : Int) (w : World) (h : RdB w w.heap.size A m c l) (ha : -9223372036854775808 ≤ a ∧ a ≤ 9223372036854775807) (hm : m ≤ 1073741824) :
    Calls Try.prog 21 #[.slice A m c, .int .i64 a, .int .i64 most] w (LPost (Vi.getL l a most) w) := by
  obtain ⟨V1, hV⟩ : ∃ V1, V1 = w.alloc (.cells #[.slice A m c] 22) := ⟨_, rfl⟩
  have bx : V1.heap[w.heap.size]? = some (.cells #[.slice A m c] 22) := by rw [hV]; exact heap_alloc_new _ _
  have hbt : Below w.heap.size w V1 := by rw [hV]; exact (Below.refl _ _).alloc (Nat.le_refl _) _
  have hr := (h.below hbt).more hbt.size
  have HV := Lib.hid hV.symm
  have c1 := cell_of_row V1 w.heap.size 0 _ _ _ bx
  simp only [List.getElem?_toArray, List.getElem?_cons_zero, List.getElem?_cons_succ] at c1
  rw [← HV.out] at c1
  clear hV
  have HG := Lib.hid (readL_any w.heap.size A m c l a most V1 bx hr ha hm)
  generalize Vi.getL l a most = R at *
  go_enter Try.func21, Try.ntmps21
  go_wp2_with fail
  rw [HV.out]
  clear HV c1
  refine HG.out.mono ?_
  rintro e' w2 ⟨v, rfl, hown, hb⟩
  obtain ⟨Av, cv, rfl, _⟩ := own_rd hown
  go_wp2_with fail
  go_ret3
  exact ⟨_, rfl, own_mono hown hbt.size, hbt.trans (hb.mono hbt.size)⟩

set_option maxHeartbeats 1000000 in
theorem rgetInts_any (A : Option Addr) (m c : Nat) (l : List UInt8) (a most : Int) (w : World) (h : RdB w w.heap.size A m c l) (ha : -9223372036854775808 ≤ a ∧ a ≤ 9223372036854775807) (hm : m ≤ 1073741824) :
    Calls Try.prog 22 #[.slice A m c, .int .i64 a, .int .i64 most] w (LPost (Vi.getL l a most) w) := by
  have h2 := h.max
  have h3 := h.le
  have hlen := Lib.hid h.len
  have HG := Lib.hid (rcount_any A m c l a most w h ha (by omega))
  have hok := cnt_ok (l := l) (a := a) (most := most)
  rw [h.len] at hok
  have HS : Hid (∃ R, R = Vi.getL l a most) := ⟨_, rfl⟩
  obtain ⟨R, hR⟩ := HS.out
  rw [← hR]
  unfold Vi.getL at hR
  generalize Vi.cnt l a most = G at *
  obtain ⟨n, nx, e⟩ := G
  dsimp only at *
  have HR0 := Lib.hid hR
  clear HS hR
  have ho : (w.alloc (.cells #[] 3)).ownsRow w.heap.size 3 1 (.slice (some ⟨w.heap.size, 0, none⟩) 0 0) 0 [] := World.ownsRow_lit w #[] 0 (Nat.le_refl _) (by unfold maxLen; omega) rfl
  go_enter Try.func22, Try.ntmps22
  go_wp2_with fail
  refine HG.out.mono ?_
  rintro e' w' ⟨rfl, rfl⟩
  clear HG
  by_cases he : e = 0
  · have hb := hok he
    subst he
    obtain ⟨N, rfl⟩ := Int.eq_ofNat_of_zero_le (show 0 ≤ n by omega)
    obtain ⟨X, rfl⟩ := Int.eq_ofNat_of_zero_le (show 0 ≤ nx by omega)
    have hX : X ≤ m := by omega
    have hN : (N : Int) ≤ 9223372036854775807 := by omega
    have hR2 : R = Vi.getN l N X [] := by rw [HR0.out]; simp
    clear HR0 hok hb
    go_wp2_with fail
    go_loopw [12, 13, 10] (fun v i p wr => ∃ (k P : Nat) (acc : List Int), acc.length = k ∧ k ≤ N ∧ k ≤ P ∧ P ≤ m ∧ i = .int .i64 k ∧ p = .int .i64 P ∧ R = Vi.getN l (N - k) P acc ∧ wr.ownsRow w.heap.size 3 1 v k (iv acc) ∧ Below w.heap.size w wr) (fun _ _ p _ => m - (intOf p).toNat)
    case atStart => exact ⟨0, X, [], rfl, by omega, by omega, hX, rfl, rfl, by rw [hR2]; rfl, ho, (Below.refl _ _).alloc (Nat.le_refl _) _⟩
    case round =>
      obtain ⟨k, P, acc, hk, hkN, hkP, hP, rfl, rfl, hRk, hown, hb⟩ := hrel
      have HK := Lib.hid hk
      have HRK := Lib.hid hRk
      clear hk hRk hR2 ho
      obtain ⟨Av, cv, rfl, _⟩ := own_rd hown
      have hbs := hb.size
      have hr := (h.below hb).more hb.size
      by_cases hkn : k < N
      · have d1 : decide ((k : Int) < (N : Int)) = true := by simp; omega
        have d1' : decide (k < N) = true := by simp; omega
        obtain ⟨j, hj⟩ : ∃ j, N - k = j + 1 := ⟨N - k - 1, by omega⟩
        have HC := Lib.hid (rgetInt_any A m c l (P : Int) wr hr (by omega) (by omega))
        have hok := getI_ok (l := l) (a := (P : Int))
        rw [hlen.out] at hok
        have HR2 : Hid (R = if (Vi.getI l P).2.2 ≠ 0 then ([], 0, (Vi.getI l P).2.2) else Vi.getN l (N - (k + 1)) (Vi.getI l P).2.1 (acc ++ [(Vi.getI l P).1])) := by
          show R = _
          rw [HRK.out, hj, show N - (k + 1) = j by omega]
          rfl
        clear HRK hj
        generalize Vi.getI l P = G at *
        obtain ⟨z, nx, e⟩ := G
        dsimp only at *
        go_wp2_with fail
        refine HC.out.mono ?_
        rintro e' w' ⟨rfl, rfl⟩
        clear HC
        by_cases he : e = 0
        · have hb2 := hok he
          subst he
          obtain ⟨Y, rfl⟩ := Int.eq_ofNat_of_zero_le (show 0 ≤ nx by omega)
          have HR3 : Hid (R = Vi.getN l (N - (k + 1)) Y (acc ++ [z])) := by show R = _; rw [HR2.out, if_neg (by simp)]
          have hY1 : P < Y := by omega
          have hY2 : Y ≤ m := by omega
          clear hok hb2 HR2
          have hx1 : (k + 1) * 8 ≤ 140737488355328 := by omega
          have hx1' : k + 1 ≤ 140737488355328 := by omega
          have hx2 : ∀ o, w.heap.size ≤ (wr.alloc o).heap.size := fun o => by rw [World.size_alloc]; omega
          go_wp2_with (at_builtin; refine wpList_app _ _ elI (hown.alloc _) (Rd.one wr _ _) (one_i64 _) hx1 hx1' (hx2 _) rfl rfl rfl rfl ?_; intro v2 w2 hown2 hg2 hat2)
          go_roundw
          case rel =>
            refine ⟨k + 1, Y, acc ++ [z], by rw [List.length_append, HK.out]; rfl, by omega, by omega, hY2, by go_num, rfl, HR3.out, ?_, hb.grown (grownBy_of_alloc hg2) hb.size (own_lt hown)⟩
            rw [← iv_snoc]
            exact hown2
          case measure => simp [intOf]; omega
        · have d0 : (e != 0) = true := by simpa using he
          have hR3 : R = ([], 0, e) := by rw [HR2.out, if_pos he]
          have HR3 := Lib.hid hR3
          clear hR3 HR2 hok
          go_wp2_with fail
          go_ret3
          exact lpost_err HR3.out hb
      · have d1 : decide ((k : Int) < (N : Int)) = false := by simp; omega
        have d1' : decide (k < N) = false := by simp; omega
        have HR3 : Hid (R = (acc, (P : Int), 0)) := by show R = _; rw [HRK.out, show N - k = 0 by omega]; rfl
        go_wp2_with fail
        go_ret3
        rw [HR3.out]
        refine ⟨_, rfl, ?_, hb⟩
        dsimp only
        rw [HK.out]
        exact hown
  · have d0 : (e != 0) = true := by simpa using he
    have hR2 : R = ([], 0, e) := by rw [HR0.out]; simp [he]
    have HR := Lib.hid hR2
    clear HR0 hR2 hok
    go_wp2_with fail
    go_ret3
    exact lpost_err HR.out (Below.refl _ _)

set_option maxHeartbeats 1000000 in
theorem ints_any (A A' : Option Addr) (n c n' c' : Nat) (l r : List Int) (w : World) (h : RdI w w.heap.size A n c l) (h' : RdI w w.heap.size A' n' c' r) :
    Calls Try.prog 25 #[.slice A n c, .slice A' n' c'] w fun e w' => e = .returned (.bool (decide (l = r))) ∧ ∃ m, w' = w.drewN m := by
  have hm := h.max
  have hm' := h'.max
  have hle := h.le
  have hle' := h'.le
  have hlen := Lib.hid h.len
  have hlen' := Lib.hid h'.len
  obtain ⟨res, hres⟩ : ∃ res, res = decide (l = r) := ⟨_, rfl⟩
  rw [← hres]
  have HR := Lib.hid hres
  clear hres
  by_cases hne : n = n'
  · subst hne
    go_enter Try.func25, Try.ntmps25
    go_wp2_with fail
    go_loopw [5] (fun i wr => ∃ k nq : Nat, k ≤ n ∧ i = .int .i64 k ∧ l.take k = r.take k ∧ wr = w.drewN nq) (fun i _ => n - (intOf i).toNat)
    case atStart => exact ⟨0, 0, by omega, rfl, rfl, rfl⟩
    case round =>
      obtain ⟨k, nq, hk, rfl, htk, rfl⟩ := hrel
      have HT := Lib.hid htk
      clear htk
      by_cases hkn : k < n
      · have hkl : k < l.length := by rw [hlen.out]; exact hkn
        have hkr : k < r.length := by rw [hlen'.out]; exact hkn
        obtain ⟨ad, rfl, hab, c1, _⟩ := h.at_ hkn hkl
        obtain ⟨ad', rfl, hab', c1', _⟩ := h'.at_ hkn hkr
        have d5 : decide ((k : Int) < (n : Int)) = true := by simp; omega
        have HS : Hid (l[k] = r[k] → l.take (k + 1) = r.take (k + 1)) := fun he => by rw [List.take_succ_eq_append_getElem hkl, List.take_succ_eq_append_getElem hkr, HT.out, he]
        have HN : Hid (l[k] ≠ r[k] → l ≠ r) := fun h1 h2 => h1 (by subst h2; rfl)
        generalize l[k] = p at *
        generalize r[k] = q at *
        have i0 : (0 : Int) ≤ (k : Int) := by omega
        have i1 : (k : Int) < (n : Int) := by omega
        go_wp2
        go_quiet (fail)
        by_cases he : p = q
        · have de : (p != q) = false := by simpa using he
          have HE := Lib.hid he
          clear he
          go_wp2
          go_roundw
          case rel => exact ⟨k + 1, _, by omega, by go_num, HS.out HE.out, rfl⟩
          case measure => simp [intOf]; omega
        · have de : (p != q) = true := by simpa using he
          go_wp2_with fail
          go_ret
          refine ⟨ret_bool ?_, _, World.drewN_drewN _ _ _⟩
          rw [HR.out]
          exact (decide_eq_false (HN.out he)).symm
      · obtain rfl : k = n := by omega
        have d5 : decide ((k : Int) < (k : Int)) = false := by simp
        go_wp2_with fail
        go_ret
        refine ⟨ret_bool ?_, _, rfl⟩
        rw [HR.out]
        have := HT.out
        rw [List.take_of_length_le (by rw [hlen.out]; omega), List.take_of_length_le (by rw [hlen'.out]; omega)] at this
        exact (decide_eq_true this).symm
  · have d1 : ((n : Int) != (n' : Int)) = true := by simp; omega
    go_enter Try.func25, Try.ntmps25
    go_wp2_with fail
    go_ret
    refine ⟨ret_bool ?_, 0, rfl⟩
    rw [HR.out]
    refine (decide_eq_false (fun e => hne ?_)).symm
    rw [← hlen.out, ← hlen'.out, e]
end Go.Proofs.Ytgklnkholflabaa
