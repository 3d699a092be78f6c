/-
  The walks of has, Away, Shut, Teaches, Attends and Size.
-/
import Derived.Test.YtfockoihmoljfaaGreatDoorLotS
import Derived.Test.YtfockoihmoljfaaGreatDoorSChkW
import Derived.BigQuiet
namespace Go.Proofs.YtfockoihmoljfaaGreatDoor
open Go.RowKit Go.Shelf
set_option linter.unusedVariables false
set_option linter.unusedSimpArgs false

namespace Sc
/-- Whether the element at an index has n in its list. -/
def hasIn {α : Type} (l : List α) (f : α → List Int) (x n : Int) : Prop := 0 ≤ x ∧ ∃ y, l[x.toNat]? = some y ∧ n ∈ f y
/-- The sizes of the groups of a list, summed. -/
def sizeG (gs : List Gro) (g : Int) : Int := if 0 ≤ g then (match gs[g.toNat]? with | some y => y.size | none => 0) else 0
def sizeL (gs : List Gro) (l : List Int) : Int := (l.map (sizeG gs)).sum
def sizeS (s : Sch) (x : Int) : Int := if 0 ≤ x then (match s.lessons[x.toNat]? with | some y => sizeL s.groups y.groups | none => 0) else 0
theorem sizeG_bd {gs : List Gro} (h : ∀ y ∈ gs, 0 ≤ y.size ∧ y.size ≤ 1000) (g : Int) : 0 ≤ sizeG gs g ∧ sizeG gs g ≤ 1000 := by
  unfold sizeG
  split
  · cases hx : gs[g.toNat]? with
    | none => simp
    | some y => exact h y (List.mem_of_getElem? hx)
  · simp
theorem sizeL_snoc {gs : List Gro} {l : List Int} {j : Nat} (h : j < l.length) : sizeL gs (l.take (j + 1)) = sizeL gs (l.take j) + sizeG gs l[j] := by
  unfold sizeL
  rw [List.take_succ_eq_append_getElem h, List.map_append, List.sum_append]
  simp
theorem sizeL_bd {gs : List Gro} (h : ∀ y ∈ gs, 0 ≤ y.size ∧ y.size ≤ 1000) : ∀ l : List Int, 0 ≤ sizeL gs l ∧ sizeL gs l ≤ 1000 * l.length
  | [] => by simp [sizeL]
  | x :: r => by
    have h1 := sizeG_bd h x
    have h2 := sizeL_bd h r
    unfold sizeL at h2 ⊢
    simp only [List.map_cons, List.sum_cons, List.length_cons]
    omega
end Sc

set_option maxRecDepth 100000 in
set_option maxHeartbeats 4000000 in
theorem indexI_any (A : Option Addr) (n c : Nat) (l : List Int) (x : Int) (w : World) (h : RdI w w.heap.size A n c l) :
    Calls Tryz.prog 140 #[.slice A n c, .int .i64 x] w fun e w' => ∃ i : Int, e = .returned (.int .i64 i) ∧ (0 ≤ i ↔ x ∈ l) ∧ Below w.heap.size w w' := by
  have h1 := h.max
  have h2 := h.le
  have hl := Lib.hid h.len
  go_enter Tryz.func140, Tryz.ntmps140
  go_wp2_with fail
  go_loopw [8] (fun i wr => ∃ j : Nat, j ≤ n ∧ i = .int .i64 j ∧ (∀ y ∈ l.take j, y ≠ x) ∧ Below w.heap.size w wr) (fun i _ => n - (intOf i).toNat)
  case atStart => exact ⟨0, by omega, rfl, by simp, Below.refl _ _⟩
  case round =>
    obtain ⟨j, hj, rfl, hall, hbt⟩ := hrel
    have HA := Lib.hid hall
    clear hall
    by_cases hjn : j < n
    · have hjl : j < l.length := by rw [hl.out]; exact hjn
      obtain ⟨ad, rfl, _, x0, _, _⟩ := (h.below hbt).at_ hjn hjl
      have d1 : decide ((j : Int) < (n : Int)) = true := by simp; omega
      have d2 : decide (j < n) = true := by simp; omega
      have HY : Hid (l[j] = x → x ∈ l) := fun e => e ▸ List.getElem_mem hjl
      have HN : Hid (l[j] ≠ x → ∀ y ∈ l.take (j + 1), y ≠ x) := fun e y hy => by
        rw [List.take_succ_eq_append_getElem hjl] at hy
        rcases List.mem_append.1 hy with hy | hy
        · exact HA.out y hy
        · rw [List.mem_singleton] at hy; subst hy; exact e
      generalize l[j] = y at *
      by_cases hy : y = x
      · have HP := Lib.hid (HY.out hy)
        have de : (x == y) = true := by simp [hy]
        clear HY HN hy
        go_wp2_with fail
        go_ret
        exact ⟨_, rfl, ⟨fun _ => HP.out, fun _ => by omega⟩, hbt⟩
      · have HP := Lib.hid (HN.out hy)
        have de : (x == y) = false := by rw [beq_eq_false_iff_ne]; exact fun e => hy e.symm
        clear HY HN hy
        go_wp2_with fail
        go_roundw
        case rel => exact ⟨j + 1, by omega, by go_num, HP.out, hbt⟩
        case measure => simp [intOf]; omega
    · obtain rfl : j = n := by omega
      have d1 : decide ((j : Int) < (j : Int)) = false := by simp
      have HE : Hid (x ∉ l) := fun hx => HA.out x (by rw [List.take_of_length_le (by rw [hl.out]; omega)]; exact hx) rfl
      go_wp2_with fail
      go_ret
      exact ⟨_, rfl, ⟨fun hh => by omega, fun hh => absurd hh HE.out⟩, hbt⟩

set_option maxRecDepth 100000 in
theorem containsI_any (A : Option Addr) (n c : Nat) (l : List Int) (x : Int) (w : World) (h : RdI w w.heap.size A n c l) :
    Calls Tryz.prog 126 #[.slice A n c, .int .i64 x] w (Tells (x ∈ l) w) := by
  go_enter Tryz.func126, Tryz.ntmps126
  go_wp2_with fail
  refine (indexI_any A n c l x w h).mono ?_
  rintro e w2 ⟨i, rfl, hiff, hb⟩
  go_wp2
  go_ret
  exact ⟨_, rfl, by rw [decide_eq_true_iff] <;> exact hiff, hb⟩

theorem sAttends1_any (nm : List UInt8) (A0 : Option Addr) (n0 c0 : Nat) (A1 : Option Addr) (n1 c1 : Nat) (w : World) :
    Calls Tryz.prog 81 #[.agg #[.string (strOf nm), .slice A0 n0 c0, .slice A1 n1 c1]] w fun e w' => e = .returned (.slice A1 n1 c1) ∧ Below w.heap.size w w' := by
  have hb := (Below.refl w.heap.size w).alloc (Nat.le_refl _) (.cells #[.string (strOf nm), .slice A0 n0 c0, .slice A1 n1 c1] 59)
  go_enter Tryz.func81, Tryz.ntmps81
  go_wp2_with fail
  go_ret
  exact ⟨rfl, hb⟩

set_option maxRecDepth 100000 in
set_option maxHeartbeats 4000000 in
theorem hasL_sAttends1 (A : Option Addr) (n c : Nat) (l : List Sc.Les) (x y : Int) (w : World) (h : RdS 3 Sc.RLes w w.heap.size A n c l) :
    Calls Tryz.prog 80 #[.slice A n c, .int .i64 x, .func (.func 81) #[] #[], .int .i64 y] w (Tells (Sc.hasIn l (·.groups) x y) w) := by
  have h1 := h.max
  have h2 := h.le
  have hl := Lib.hid (h.len (by omega))
  by_cases hx : x < 0
  · have d1 : decide (0 ≤ x) = false := by simp; omega
    have HC : Hid (¬ Sc.hasIn l (·.groups) x y) := fun hh => by
      obtain ⟨q1, q, q2, q3⟩ := hh
      have := (List.getElem?_eq_some_iff.1 q2).1
      rw [hl.out] at this
      omega
    go_enter Tryz.func80, Tryz.ntmps80
    go_wp2_with fail
    go_ret
    exact ⟨_, rfl, ⟨(fun hh => by cases hh), fun hh => absurd hh HC.out⟩, Below.refl _ _⟩
  · have d1 : decide (0 ≤ x) = true := by simp; omega
    obtain ⟨j, rfl⟩ : ∃ j : Nat, x = j := ⟨x.toNat, by omega⟩
    by_cases hjn : j < n
    · have d2 : decide ((j : Int) < (n : Int)) = true := by simp; omega
      have d3 : decide (j < n) = true := by simp; omega
      have hjl : j < l.length := by rw [hl.out]; exact hjn
      obtain ⟨ad, r, rfl, hadb, hr, hR, hc⟩ := RdS.at_ (by omega) h hjn hjl
      have HI : Hid (Sc.hasIn l (·.groups) (j : Int) y ↔ y ∈ l[j].groups) := by
        show _ ↔ _
        unfold Sc.hasIn
        rw [Int.toNat_natCast, List.getElem?_eq_getElem hjl]
        simp
      obtain ⟨A1, c1, A2, c2, rfl, hI1, hI2, _⟩ := hR
      clear hr
      have x0 := hc 0 _ rfl
      have x1 := hc 1 _ rfl
      have x2 := hc 2 _ rfl
      rw [Nat.add_zero] at x0
      replace x1 := cell_sub x1
      replace x2 := cell_sub x2
      clear hc
      generalize l[j] = z at *
      go_enter Tryz.func80, Tryz.ntmps80
      go_wp2_with fail
      refine (sAttends1_any z.name A1 _ c1 A2 _ c2 w).mono ?_
      rintro e w2 ⟨rfl, hb⟩
      go_wp2_with fail
      refine (containsI_any A2 _ c2 z.groups y w2 ((hI2.below hb).more hb.size)).mono ?_
      rintro e w3 ⟨b, rfl, hiff, hb3⟩
      go_wp2_with fail
      go_ret
      exact ⟨b, rfl, by rw [HI.out]; exact hiff, hb.trans (hb3.mono hb.size)⟩
    · have d2 : decide ((j : Int) < (n : Int)) = false := by simp; omega
      have HC : Hid (¬ Sc.hasIn l (·.groups) (j : Int) y) := fun hh => by
        obtain ⟨q1, q, q2, q3⟩ := hh
        have := (List.getElem?_eq_some_iff.1 q2).1
        rw [hl.out] at this
        omega
      go_enter Tryz.func80, Tryz.ntmps80
      go_wp2_with fail
      go_ret
      exact ⟨_, rfl, ⟨(fun hh => by cases hh), fun hh => absurd hh HC.out⟩, Below.refl _ _⟩

set_option maxRecDepth 100000 in
set_option maxHeartbeats 4000000 in
theorem sAttends_any (f : Sc.Five) (s : Sc.Sch) (p q : Int) (w : World) (h : Sc.RdSch w w.heap.size f s) :
    Calls Tryz.prog 25 #[.agg f.vals, .int .i64 p, .int .i64 q] w (Tells (Sc.hasIn s.lessons (·.groups) q p) w) := by
  have hbt := Below.refl w.heap.size w
  obtain ⟨V1, hV⟩ : ∃ V1, V1 = w.alloc (.cells #[.slice f.aS f.nS f.cS, .slice f.aR f.nR f.cR, .slice f.aP f.nP f.cP, .slice f.aG f.nG f.cG, .slice f.aL f.nL f.cL] 28) := ⟨_, rfl⟩
  have b0 := blk_new hV
  have hb := below_new hV
  replace h := (h.below hb).more hb.size
  replace hbt := hbt.trans (hb.mono hbt.size)
  clear hb
  have HSV1 : Hid (V1.heap.size = w.heap.size + 1) := by show V1.heap.size = _; rw [hV, World.size_alloc]
  have HVV1 := Lib.hid hV.symm
  clear hV
  clear HSV1
  unfold Sc.Five.vals
  have c0 := blk_cell (j := 0) b0
  simp only [List.getElem?_toArray, List.getElem?_cons_zero, List.getElem?_cons_succ] at c0
  have c1 := blk_cell (j := 1) b0
  simp only [List.getElem?_toArray, List.getElem?_cons_zero, List.getElem?_cons_succ] at c1
  have c2 := blk_cell (j := 2) b0
  simp only [List.getElem?_toArray, List.getElem?_cons_zero, List.getElem?_cons_succ] at c2
  have c3 := blk_cell (j := 3) b0
  simp only [List.getElem?_toArray, List.getElem?_cons_zero, List.getElem?_cons_succ] at c3
  have c4 := blk_cell (j := 4) b0
  simp only [List.getElem?_toArray, List.getElem?_cons_zero, List.getElem?_cons_succ] at c4
  rw [← HVV1.out] at c0 c1 c2 c3 c4
  go_enter Tryz.func25, Tryz.ntmps25
  go_wp2_with fail
  rw [HVV1.out]
  clear HVV1 c0 c1 c2 c3 c4
  refine (hasL_sAttends1 _ _ _ s.lessons q p V1 h.lessons).mono ?_
  rintro e w2 ⟨b, rfl, hiff, hb⟩
  go_wp2_with fail
  go_ret
  exact ⟨b, rfl, hiff, hbt.trans (hb.mono hbt.size)⟩

theorem sTeaches1_any (nm : List UInt8) (A0 : Option Addr) (n0 c0 : Nat) (A1 : Option Addr) (n1 c1 : Nat) (w : World) :
    Calls Tryz.prog 82 #[.agg #[.string (strOf nm), .slice A0 n0 c0, .slice A1 n1 c1]] w fun e w' => e = .returned (.slice A0 n0 c0) ∧ Below w.heap.size w w' := by
  have hb := (Below.refl w.heap.size w).alloc (Nat.le_refl _) (.cells #[.string (strOf nm), .slice A0 n0 c0, .slice A1 n1 c1] 59)
  go_enter Tryz.func82, Tryz.ntmps82
  go_wp2_with fail
  go_ret
  exact ⟨rfl, hb⟩

set_option maxRecDepth 100000 in
set_option maxHeartbeats 4000000 in
theorem hasL_sTeaches1 (A : Option Addr) (n c : Nat) (l : List Sc.Les) (x y : Int) (w : World) (h : RdS 3 Sc.RLes w w.heap.size A n c l) :
    Calls Tryz.prog 80 #[.slice A n c, .int .i64 x, .func (.func 82) #[] #[], .int .i64 y] w (Tells (Sc.hasIn l (·.who) x y) w) := by
  have h1 := h.max
  have h2 := h.le
  have hl := Lib.hid (h.len (by omega))
  by_cases hx : x < 0
  · have d1 : decide (0 ≤ x) = false := by simp; omega
    have HC : Hid (¬ Sc.hasIn l (·.who) x y) := fun hh => by
      obtain ⟨q1, q, q2, q3⟩ := hh
      have := (List.getElem?_eq_some_iff.1 q2).1
      rw [hl.out] at this
      omega
    go_enter Tryz.func80, Tryz.ntmps80
    go_wp2_with fail
    go_ret
    exact ⟨_, rfl, ⟨(fun hh => by cases hh), fun hh => absurd hh HC.out⟩, Below.refl _ _⟩
  · have d1 : decide (0 ≤ x) = true := by simp; omega
    obtain ⟨j, rfl⟩ : ∃ j : Nat, x = j := ⟨x.toNat, by omega⟩
    by_cases hjn : j < n
    · have d2 : decide ((j : Int) < (n : Int)) = true := by simp; omega
      have d3 : decide (j < n) = true := by simp; omega
      have hjl : j < l.length := by rw [hl.out]; exact hjn
      obtain ⟨ad, r, rfl, hadb, hr, hR, hc⟩ := RdS.at_ (by omega) h hjn hjl
      have HI : Hid (Sc.hasIn l (·.who) (j : Int) y ↔ y ∈ l[j].who) := by
        show _ ↔ _
        unfold Sc.hasIn
        rw [Int.toNat_natCast, List.getElem?_eq_getElem hjl]
        simp
      obtain ⟨A1, c1, A2, c2, rfl, hI1, hI2, _⟩ := hR
      clear hr
      have x0 := hc 0 _ rfl
      have x1 := hc 1 _ rfl
      have x2 := hc 2 _ rfl
      rw [Nat.add_zero] at x0
      replace x1 := cell_sub x1
      replace x2 := cell_sub x2
      clear hc
      generalize l[j] = z at *
      go_enter Tryz.func80, Tryz.ntmps80
      go_wp2_with fail
      refine (sTeaches1_any z.name A1 _ c1 A2 _ c2 w).mono ?_
      rintro e w2 ⟨rfl, hb⟩
      go_wp2_with fail
      refine (containsI_any A1 _ c1 z.who y w2 ((hI1.below hb).more hb.size)).mono ?_
      rintro e w3 ⟨b, rfl, hiff, hb3⟩
      go_wp2_with fail
      go_ret
      exact ⟨b, rfl, by rw [HI.out]; exact hiff, hb.trans (hb3.mono hb.size)⟩
    · have d2 : decide ((j : Int) < (n : Int)) = false := by simp; omega
      have HC : Hid (¬ Sc.hasIn l (·.who) (j : Int) y) := fun hh => by
        obtain ⟨q1, q, q2, q3⟩ := hh
        have := (List.getElem?_eq_some_iff.1 q2).1
        rw [hl.out] at this
        omega
      go_enter Tryz.func80, Tryz.ntmps80
      go_wp2_with fail
      go_ret
      exact ⟨_, rfl, ⟨(fun hh => by cases hh), fun hh => absurd hh HC.out⟩, Below.refl _ _⟩

set_option maxRecDepth 100000 in
set_option maxHeartbeats 4000000 in
theorem sTeaches_any (f : Sc.Five) (s : Sc.Sch) (p q : Int) (w : World) (h : Sc.RdSch w w.heap.size f s) :
    Calls Tryz.prog 26 #[.agg f.vals, .int .i64 p, .int .i64 q] w (Tells (Sc.hasIn s.lessons (·.who) q p) w) := by
  have hbt := Below.refl w.heap.size w
  obtain ⟨V1, hV⟩ : ∃ V1, V1 = w.alloc (.cells #[.slice f.aS f.nS f.cS, .slice f.aR f.nR f.cR, .slice f.aP f.nP f.cP, .slice f.aG f.nG f.cG, .slice f.aL f.nL f.cL] 28) := ⟨_, rfl⟩
  have b0 := blk_new hV
  have hb := below_new hV
  replace h := (h.below hb).more hb.size
  replace hbt := hbt.trans (hb.mono hbt.size)
  clear hb
  have HSV1 : Hid (V1.heap.size = w.heap.size + 1) := by show V1.heap.size = _; rw [hV, World.size_alloc]
  have HVV1 := Lib.hid hV.symm
  clear hV
  clear HSV1
  unfold Sc.Five.vals
  have c0 := blk_cell (j := 0) b0
  simp only [List.getElem?_toArray, List.getElem?_cons_zero, List.getElem?_cons_succ] at c0
  have c1 := blk_cell (j := 1) b0
  simp only [List.getElem?_toArray, List.getElem?_cons_zero, List.getElem?_cons_succ] at c1
  have c2 := blk_cell (j := 2) b0
  simp only [List.getElem?_toArray, List.getElem?_cons_zero, List.getElem?_cons_succ] at c2
  have c3 := blk_cell (j := 3) b0
  simp only [List.getElem?_toArray, List.getElem?_cons_zero, List.getElem?_cons_succ] at c3
  have c4 := blk_cell (j := 4) b0
  simp only [List.getElem?_toArray, List.getElem?_cons_zero, List.getElem?_cons_succ] at c4
  rw [← HVV1.out] at c0 c1 c2 c3 c4
  go_enter Tryz.func26, Tryz.ntmps26
  go_wp2_with fail
  rw [HVV1.out]
  clear HVV1 c0 c1 c2 c3 c4
  refine (hasL_sTeaches1 _ _ _ s.lessons q p V1 h.lessons).mono ?_
  rintro e w2 ⟨b, rfl, hiff, hb⟩
  go_wp2_with fail
  go_ret
  exact ⟨b, rfl, hiff, hbt.trans (hb.mono hbt.size)⟩

theorem sShut1_any (nm : List UInt8) (ho se : Int) (A0 : Option Addr) (n0 c0 : Nat) (w : World) :
    Calls Tryz.prog 84 #[.agg #[.string (strOf nm), .int .i64 ho, .int .i64 se, .slice A0 n0 c0]] w fun e w' => e = .returned (.slice A0 n0 c0) ∧ Below w.heap.size w w' := by
  have hb := (Below.refl w.heap.size w).alloc (Nat.le_refl _) (.cells #[.string (strOf nm), .int .i64 ho, .int .i64 se, .slice A0 n0 c0] 53)
  go_enter Tryz.func84, Tryz.ntmps84
  go_wp2_with fail
  go_ret
  exact ⟨rfl, hb⟩

set_option maxRecDepth 100000 in
set_option maxHeartbeats 4000000 in
theorem hasR_sShut1 (A : Option Addr) (n c : Nat) (l : List Sc.Roo) (x y : Int) (w : World) (h : RdS 4 Sc.RRoo w w.heap.size A n c l) :
    Calls Tryz.prog 83 #[.slice A n c, .int .i64 x, .func (.func 84) #[] #[], .int .i64 y] w (Tells (Sc.hasIn l (·.shut) x y) w) := by
  have h1 := h.max
  have h2 := h.le
  have hl := Lib.hid (h.len (by omega))
  by_cases hx : x < 0
  · have d1 : decide (0 ≤ x) = false := by simp; omega
    have HC : Hid (¬ Sc.hasIn l (·.shut) x y) := fun hh => by
      obtain ⟨q1, q, q2, q3⟩ := hh
      have := (List.getElem?_eq_some_iff.1 q2).1
      rw [hl.out] at this
      omega
    go_enter Tryz.func83, Tryz.ntmps83
    go_wp2_with fail
    go_ret
    exact ⟨_, rfl, ⟨(fun hh => by cases hh), fun hh => absurd hh HC.out⟩, Below.refl _ _⟩
  · have d1 : decide (0 ≤ x) = true := by simp; omega
    obtain ⟨j, rfl⟩ : ∃ j : Nat, x = j := ⟨x.toNat, by omega⟩
    by_cases hjn : j < n
    · have d2 : decide ((j : Int) < (n : Int)) = true := by simp; omega
      have d3 : decide (j < n) = true := by simp; omega
      have hjl : j < l.length := by rw [hl.out]; exact hjn
      obtain ⟨ad, r, rfl, hadb, hr, hR, hc⟩ := RdS.at_ (by omega) h hjn hjl
      have HI : Hid (Sc.hasIn l (·.shut) (j : Int) y ↔ y ∈ l[j].shut) := by
        show _ ↔ _
        unfold Sc.hasIn
        rw [Int.toNat_natCast, List.getElem?_eq_getElem hjl]
        simp
      obtain ⟨A1, c1, rfl, hI1, _, _, _⟩ := hR
      clear hr
      have x0 := hc 0 _ rfl
      have x1 := hc 1 _ rfl
      have x2 := hc 2 _ rfl
      have x3 := hc 3 _ rfl
      rw [Nat.add_zero] at x0
      replace x1 := cell_sub x1
      replace x2 := cell_sub x2
      replace x3 := cell_sub x3
      clear hc
      generalize l[j] = z at *
      go_enter Tryz.func83, Tryz.ntmps83
      go_wp2_with fail
      refine (sShut1_any z.name z.house z.seats A1 _ c1 w).mono ?_
      rintro e w2 ⟨rfl, hb⟩
      go_wp2_with fail
      refine (containsI_any A1 _ c1 z.shut y w2 ((hI1.below hb).more hb.size)).mono ?_
      rintro e w3 ⟨b, rfl, hiff, hb3⟩
      go_wp2_with fail
      go_ret
      exact ⟨b, rfl, by rw [HI.out]; exact hiff, hb.trans (hb3.mono hb.size)⟩
    · have d2 : decide ((j : Int) < (n : Int)) = false := by simp; omega
      have HC : Hid (¬ Sc.hasIn l (·.shut) (j : Int) y) := fun hh => by
        obtain ⟨q1, q, q2, q3⟩ := hh
        have := (List.getElem?_eq_some_iff.1 q2).1
        rw [hl.out] at this
        omega
      go_enter Tryz.func83, Tryz.ntmps83
      go_wp2_with fail
      go_ret
      exact ⟨_, rfl, ⟨(fun hh => by cases hh), fun hh => absurd hh HC.out⟩, Below.refl _ _⟩

set_option maxRecDepth 100000 in
set_option maxHeartbeats 4000000 in
theorem sShut_any (f : Sc.Five) (s : Sc.Sch) (p q : Int) (w : World) (h : Sc.RdSch w w.heap.size f s) :
    Calls Tryz.prog 28 #[.agg f.vals, .int .i64 p, .int .i64 q] w (Tells (Sc.hasIn s.rooms (·.shut) p q) w) := by
  have hbt := Below.refl w.heap.size w
  obtain ⟨V1, hV⟩ : ∃ V1, V1 = w.alloc (.cells #[.slice f.aS f.nS f.cS, .slice f.aR f.nR f.cR, .slice f.aP f.nP f.cP, .slice f.aG f.nG f.cG, .slice f.aL f.nL f.cL] 28) := ⟨_, rfl⟩
  have b0 := blk_new hV
  have hb := below_new hV
  replace h := (h.below hb).more hb.size
  replace hbt := hbt.trans (hb.mono hbt.size)
  clear hb
  have HSV1 : Hid (V1.heap.size = w.heap.size + 1) := by show V1.heap.size = _; rw [hV, World.size_alloc]
  have HVV1 := Lib.hid hV.symm
  clear hV
  clear HSV1
  unfold Sc.Five.vals
  have c0 := blk_cell (j := 0) b0
  simp only [List.getElem?_toArray, List.getElem?_cons_zero, List.getElem?_cons_succ] at c0
  have c1 := blk_cell (j := 1) b0
  simp only [List.getElem?_toArray, List.getElem?_cons_zero, List.getElem?_cons_succ] at c1
  have c2 := blk_cell (j := 2) b0
  simp only [List.getElem?_toArray, List.getElem?_cons_zero, List.getElem?_cons_succ] at c2
  have c3 := blk_cell (j := 3) b0
  simp only [List.getElem?_toArray, List.getElem?_cons_zero, List.getElem?_cons_succ] at c3
  have c4 := blk_cell (j := 4) b0
  simp only [List.getElem?_toArray, List.getElem?_cons_zero, List.getElem?_cons_succ] at c4
  rw [← HVV1.out] at c0 c1 c2 c3 c4
  go_enter Tryz.func28, Tryz.ntmps28
  go_wp2_with fail
  rw [HVV1.out]
  clear HVV1 c0 c1 c2 c3 c4
  refine (hasR_sShut1 _ _ _ s.rooms p q V1 h.rooms).mono ?_
  rintro e w2 ⟨b, rfl, hiff, hb⟩
  go_wp2_with fail
  go_ret
  exact ⟨b, rfl, hiff, hbt.trans (hb.mono hbt.size)⟩

theorem sAway1_any (nm : List UInt8) (A0 : Option Addr) (n0 c0 : Nat) (w : World) :
    Calls Tryz.prog 86 #[.agg #[.string (strOf nm), .slice A0 n0 c0]] w fun e w' => e = .returned (.slice A0 n0 c0) ∧ Below w.heap.size w w' := by
  have hb := (Below.refl w.heap.size w).alloc (Nat.le_refl _) (.cells #[.string (strOf nm), .slice A0 n0 c0] 57)
  go_enter Tryz.func86, Tryz.ntmps86
  go_wp2_with fail
  go_ret
  exact ⟨rfl, hb⟩

set_option maxRecDepth 100000 in
set_option maxHeartbeats 4000000 in
theorem hasP_sAway1 (A : Option Addr) (n c : Nat) (l : List Sc.Per) (x y : Int) (w : World) (h : RdS 2 Sc.RPer w w.heap.size A n c l) :
    Calls Tryz.prog 85 #[.slice A n c, .int .i64 x, .func (.func 86) #[] #[], .int .i64 y] w (Tells (Sc.hasIn l (·.away) x y) w) := by
  have h1 := h.max
  have h2 := h.le
  have hl := Lib.hid (h.len (by omega))
  by_cases hx : x < 0
  · have d1 : decide (0 ≤ x) = false := by simp; omega
    have HC : Hid (¬ Sc.hasIn l (·.away) x y) := fun hh => by
      obtain ⟨q1, q, q2, q3⟩ := hh
      have := (List.getElem?_eq_some_iff.1 q2).1
      rw [hl.out] at this
      omega
    go_enter Tryz.func85, Tryz.ntmps85
    go_wp2_with fail
    go_ret
    exact ⟨_, rfl, ⟨(fun hh => by cases hh), fun hh => absurd hh HC.out⟩, Below.refl _ _⟩
  · have d1 : decide (0 ≤ x) = true := by simp; omega
    obtain ⟨j, rfl⟩ : ∃ j : Nat, x = j := ⟨x.toNat, by omega⟩
    by_cases hjn : j < n
    · have d2 : decide ((j : Int) < (n : Int)) = true := by simp; omega
      have d3 : decide (j < n) = true := by simp; omega
      have hjl : j < l.length := by rw [hl.out]; exact hjn
      obtain ⟨ad, r, rfl, hadb, hr, hR, hc⟩ := RdS.at_ (by omega) h hjn hjl
      have HI : Hid (Sc.hasIn l (·.away) (j : Int) y ↔ y ∈ l[j].away) := by
        show _ ↔ _
        unfold Sc.hasIn
        rw [Int.toNat_natCast, List.getElem?_eq_getElem hjl]
        simp
      obtain ⟨A1, c1, rfl, hI1, _⟩ := hR
      clear hr
      have x0 := hc 0 _ rfl
      have x1 := hc 1 _ rfl
      rw [Nat.add_zero] at x0
      replace x1 := cell_sub x1
      clear hc
      generalize l[j] = z at *
      go_enter Tryz.func85, Tryz.ntmps85
      go_wp2_with fail
      refine (sAway1_any z.name A1 _ c1 w).mono ?_
      rintro e w2 ⟨rfl, hb⟩
      go_wp2_with fail
      refine (containsI_any A1 _ c1 z.away y w2 ((hI1.below hb).more hb.size)).mono ?_
      rintro e w3 ⟨b, rfl, hiff, hb3⟩
      go_wp2_with fail
      go_ret
      exact ⟨b, rfl, by rw [HI.out]; exact hiff, hb.trans (hb3.mono hb.size)⟩
    · have d2 : decide ((j : Int) < (n : Int)) = false := by simp; omega
      have HC : Hid (¬ Sc.hasIn l (·.away) (j : Int) y) := fun hh => by
        obtain ⟨q1, q, q2, q3⟩ := hh
        have := (List.getElem?_eq_some_iff.1 q2).1
        rw [hl.out] at this
        omega
      go_enter Tryz.func85, Tryz.ntmps85
      go_wp2_with fail
      go_ret
      exact ⟨_, rfl, ⟨(fun hh => by cases hh), fun hh => absurd hh HC.out⟩, Below.refl _ _⟩

set_option maxRecDepth 100000 in
set_option maxHeartbeats 4000000 in
theorem sAway_any (f : Sc.Five) (s : Sc.Sch) (p q : Int) (w : World) (h : Sc.RdSch w w.heap.size f s) :
    Calls Tryz.prog 30 #[.agg f.vals, .int .i64 p, .int .i64 q] w (Tells (Sc.hasIn s.people (·.away) p q) w) := by
  have hbt := Below.refl w.heap.size w
  obtain ⟨V1, hV⟩ : ∃ V1, V1 = w.alloc (.cells #[.slice f.aS f.nS f.cS, .slice f.aR f.nR f.cR, .slice f.aP f.nP f.cP, .slice f.aG f.nG f.cG, .slice f.aL f.nL f.cL] 28) := ⟨_, rfl⟩
  have b0 := blk_new hV
  have hb := below_new hV
  replace h := (h.below hb).more hb.size
  replace hbt := hbt.trans (hb.mono hbt.size)
  clear hb
  have HSV1 : Hid (V1.heap.size = w.heap.size + 1) := by show V1.heap.size = _; rw [hV, World.size_alloc]
  have HVV1 := Lib.hid hV.symm
  clear hV
  clear HSV1
  unfold Sc.Five.vals
  have c0 := blk_cell (j := 0) b0
  simp only [List.getElem?_toArray, List.getElem?_cons_zero, List.getElem?_cons_succ] at c0
  have c1 := blk_cell (j := 1) b0
  simp only [List.getElem?_toArray, List.getElem?_cons_zero, List.getElem?_cons_succ] at c1
  have c2 := blk_cell (j := 2) b0
  simp only [List.getElem?_toArray, List.getElem?_cons_zero, List.getElem?_cons_succ] at c2
  have c3 := blk_cell (j := 3) b0
  simp only [List.getElem?_toArray, List.getElem?_cons_zero, List.getElem?_cons_succ] at c3
  have c4 := blk_cell (j := 4) b0
  simp only [List.getElem?_toArray, List.getElem?_cons_zero, List.getElem?_cons_succ] at c4
  rw [← HVV1.out] at c0 c1 c2 c3 c4
  go_enter Tryz.func30, Tryz.ntmps30
  go_wp2_with fail
  rw [HVV1.out]
  clear HVV1 c0 c1 c2 c3 c4
  refine (hasP_sAway1 _ _ _ s.people p q V1 h.people).mono ?_
  rintro e w2 ⟨b, rfl, hiff, hb⟩
  go_wp2_with fail
  go_ret
  exact ⟨b, rfl, hiff, hbt.trans (hb.mono hbt.size)⟩

set_option maxRecDepth 100000 in
set_option maxHeartbeats 4000000 in
theorem sSize_any (f : Sc.Five) (s : Sc.Sch) (x : Int) (w : World) (h : Sc.RdSch w w.heap.size f s) (hg : ∀ y ∈ s.groups, 0 ≤ y.size ∧ y.size ≤ 1000) (hl : ∀ y ∈ s.lessons, y.groups.length ≤ 1000) :
    Calls Tryz.prog 27 #[.agg f.vals, .int .i64 x] w fun e w' => e = .returned (.int .i64 (Sc.sizeS s x)) ∧ Below w.heap.size w w' := by
  have h0 := h
  have HLN := Lib.hid (show s.groups.length = f.nG ∧ s.lessons.length = f.nL from ⟨h.groups.len (by omega), h.lessons.len (by omega)⟩)
  have hbt := Below.refl w.heap.size w
  have mG : f.nG ≤ f.cG ∧ f.cG ≤ 9223372036854775807 := ⟨h.groups.le, h.groups.max⟩
  have mL : f.nL ≤ f.cL ∧ f.cL ≤ 9223372036854775807 := ⟨h.lessons.le, h.lessons.max⟩
  have HG := Lib.hid hg
  clear hg
  obtain ⟨V1, hV⟩ : ∃ V1, V1 = w.alloc (.cells #[.slice f.aS f.nS f.cS, .slice f.aR f.nR f.cR, .slice f.aP f.nP f.cP, .slice f.aG f.nG f.cG, .slice f.aL f.nL f.cL] 28) := ⟨_, rfl⟩
  have b0 := blk_new hV
  have hb := below_new hV
  replace h := (h.below hb).more hb.size
  replace hbt := hbt.trans (hb.mono hbt.size)
  clear hb
  have HSV1 : Hid (V1.heap.size = w.heap.size + 1) := by show V1.heap.size = _; rw [hV, World.size_alloc]
  have HVV1 := Lib.hid hV.symm
  clear hV
  clear HSV1
  unfold Sc.Five.vals
  by_cases hx : x < 0
  · have d1 : decide (x < 0) = true := by simp; omega
    have HC : Hid (Sc.sizeS s x = 0) := by
      show _ = _
      unfold Sc.sizeS
      split
      · rw [List.getElem?_eq_none (by rw [HLN.out.2]; omega)]
      · rfl
    have c0 := blk_cell (j := 0) b0
    simp only [List.getElem?_toArray, List.getElem?_cons_zero, List.getElem?_cons_succ] at c0
    have c1 := blk_cell (j := 1) b0
    simp only [List.getElem?_toArray, List.getElem?_cons_zero, List.getElem?_cons_succ] at c1
    have c2 := blk_cell (j := 2) b0
    simp only [List.getElem?_toArray, List.getElem?_cons_zero, List.getElem?_cons_succ] at c2
    have c3 := blk_cell (j := 3) b0
    simp only [List.getElem?_toArray, List.getElem?_cons_zero, List.getElem?_cons_succ] at c3
    have c4 := blk_cell (j := 4) b0
    simp only [List.getElem?_toArray, List.getElem?_cons_zero, List.getElem?_cons_succ] at c4
    rw [← HVV1.out] at c4
    go_enter Tryz.func27, Tryz.ntmps27
    go_wp2_with fail
    rw [HVV1.out]
    go_ret
    exact ⟨by rw [HC.out]; rfl, hbt⟩
  · have d1 : decide (x < 0) = false := by simp; omega
    obtain ⟨j, rfl⟩ : ∃ j : Nat, x = j := ⟨x.toNat, by omega⟩
    by_cases hjn : j < f.nL
    · have d2 : decide ((f.nL : Int) ≤ (j : Int)) = false := by simp; omega
      have d3 : decide (j < f.nL) = true := by simp; omega
      have hjl : j < s.lessons.length := by rw [HLN.out.2]; exact hjn
      obtain ⟨ad, r, hA, hadb, hr, hR, hc⟩ := RdS.at_ (by omega) h0.lessons hjn hjl
      have HS : Hid (Sc.sizeS s (j : Int) = Sc.sizeL s.groups s.lessons[j].groups) := by
        show _ = _
        unfold Sc.sizeS
        rw [if_pos (by omega), Int.toNat_natCast, List.getElem?_eq_getElem hjl]
      have hll := hl _ (List.getElem_mem hjl)
      obtain ⟨A1, c1', A2, c2', rfl, _, hI, _⟩ := hR
      have x2 := cell_sub (j := 1) (hc 2 _ rfl)
      replace x2 := (hbt.cell (World.block_lt_of_cell? _ _ x2)).trans x2
      clear hr hc hl
      generalize s.lessons[j].groups = gl at *
      obtain ⟨m, hm⟩ : ∃ m, gl.length = m := ⟨_, rfl⟩
      rw [hm] at x2 hI hll
      have HM := Lib.hid hm
      clear hm
      have i1 := hI.max
      have i2 := hI.le
      have c0 := blk_cell (j := 0) b0
      simp only [List.getElem?_toArray, List.getElem?_cons_zero, List.getElem?_cons_succ] at c0
      have c1 := blk_cell (j := 1) b0
      simp only [List.getElem?_toArray, List.getElem?_cons_zero, List.getElem?_cons_succ] at c1
      have c2 := blk_cell (j := 2) b0
      simp only [List.getElem?_toArray, List.getElem?_cons_zero, List.getElem?_cons_succ] at c2
      have c3 := blk_cell (j := 3) b0
      simp only [List.getElem?_toArray, List.getElem?_cons_zero, List.getElem?_cons_succ] at c3
      have c4 := blk_cell (j := 4) b0
      simp only [List.getElem?_toArray, List.getElem?_cons_zero, List.getElem?_cons_succ] at c4
      rw [hA] at c4
      have HAD := Lib.hid hA
      clear hA
      have x2' := x2
      rw [← HVV1.out] at c4 x2'
      go_enter Tryz.func27, Tryz.ntmps27
      go_wp2_with fail
      rw [HVV1.out]
      clear HVV1 c0 c1 c2 c3 c4 x2 x2'
      go_loopw [5, 24] (fun sv iv wr => ∃ i : Nat, i ≤ m ∧ iv = .int .i64 i ∧ sv = .int .i64 (Sc.sizeL s.groups (gl.take i)) ∧ wr.heap[w.heap.size]? = some (.cells #[.slice f.aS f.nS f.cS, .slice f.aR f.nR f.cR, .slice f.aP f.nP f.cP, .slice f.aG f.nG f.cG, .slice f.aL f.nL f.cL] 28) ∧ Below w.heap.size w wr) (fun _ iv _ => m - (intOf iv).toNat)
      case atStart => exact ⟨0, by omega, rfl, rfl, b0, hbt⟩
      case round =>
        clear b0 hbt h
        obtain ⟨i, hi, rfl, rfl, b0, hbt⟩ := hrel
        by_cases him : i < m
        · have e1 : decide ((i : Int) < (m : Int)) = true := by simp; omega
          have e2 : decide (i < m) = true := by simp; omega
          have hil : i < gl.length := by rw [HM.out]; exact him
          obtain ⟨ad2, rfl, _, y0, z1, z2⟩ := (hI.below hbt).at_ him hil
          have HT := Lib.hid (Sc.sizeL_snoc (gs := s.groups) hil)
          have b1 := Sc.sizeL_bd HG.out (gl.take i)
          rw [List.length_take, HM.out] at b1
          have b2 := Sc.sizeG_bd HG.out gl[i]
          generalize Sc.sizeL s.groups (gl.take i) = S at *
          generalize gl[i] = q at *
          have hmin : min i m ≤ 1000 := by omega
          have hS : 0 ≤ S ∧ S ≤ 1000000 := by omega
          clear b1 hmin
          have c3 := blk_cell (j := 3) b0
          simp only [List.getElem?_toArray, List.getElem?_cons_zero, List.getElem?_cons_succ] at c3
          by_cases hq0 : q < 0
          · have e3 : decide (0 ≤ q) = false := by simp; omega
            have HZ : Hid (Sc.sizeG s.groups q = 0) := by
              show _ = _
              unfold Sc.sizeG
              split
              · rw [List.getElem?_eq_none (by rw [HLN.out.1]; omega)]
              · rfl
            rw [HZ.out, Int.add_zero] at HT
            go_wp2_with fail
            go_roundw
            case rel => exact ⟨i + 1, by omega, by go_num, by rw [HT.out], b0, hbt⟩
            case measure => simp [intOf]; omega
          · have e3 : decide (0 ≤ q) = true := by simp; omega
            obtain ⟨t, rfl⟩ : ∃ t : Nat, q = t := ⟨q.toNat, by omega⟩
            by_cases htG : t < f.nG
            · have e4 : decide ((t : Int) < (f.nG : Int)) = true := by simp; omega
              have e5 : decide (t < f.nG) = true := by simp; omega
              have htl : t < s.groups.length := by rw [HLN.out.1]; exact htG
              obtain ⟨ad3, r3, hA3, _, hr3, hR3, hc3⟩ := RdS.at_ (by omega) (h0.groups.below Sc.lasts_Gro hbt) htG htl
              obtain ⟨rfl, _, _⟩ := hR3
              have u1 := cell_sub (j := 0) (hc3 1 _ rfl)
              clear hc3 hr3
              rw [hA3] at c3
              have HA3 := Lib.hid hA3
              clear hA3
              have HZ : Hid (Sc.sizeG s.groups (t : Int) = s.groups[t].size) := by
                show _ = _
                unfold Sc.sizeG
                rw [if_pos (by omega), Int.toNat_natCast, List.getElem?_eq_getElem htl]
              rw [HZ.out] at HT b2
              generalize s.groups[t].size = sz at *
              go_wp2_with fail
              go_roundw
              case rel => exact ⟨i + 1, by omega, by go_num, by rw [HT.out], b0, hbt⟩
              case measure => simp [intOf]; omega
            · have e4 : decide ((t : Int) < (f.nG : Int)) = false := by simp; omega
              have HZ : Hid (Sc.sizeG s.groups (t : Int) = 0) := by
                show _ = _
                unfold Sc.sizeG
                split
                · rw [List.getElem?_eq_none (by rw [HLN.out.1]; omega)]
                · rfl
              rw [HZ.out, Int.add_zero] at HT
              go_wp2_with fail
              go_roundw
              case rel => exact ⟨i + 1, by omega, by go_num, by rw [HT.out], b0, hbt⟩
              case measure => simp [intOf]; omega
        · obtain rfl : i = m := by omega
          have e1 : decide ((i : Int) < (i : Int)) = false := by simp
          have HE : Hid (Sc.sizeL s.groups (gl.take i) = Sc.sizeS s (j : Int)) := by show _ = _; rw [List.take_of_length_le (by rw [HM.out]; omega), HS.out]
          go_wp2_with fail
          go_ret
          exact ⟨by rw [← HE.out]; rfl, hbt⟩
    · have d2 : decide ((f.nL : Int) ≤ (j : Int)) = true := by simp; omega
      have HC : Hid (Sc.sizeS s (j : Int) = 0) := by
        show _ = _
        unfold Sc.sizeS
        split
        · rw [List.getElem?_eq_none (by rw [HLN.out.2]; omega)]
        · rfl
      have c0 := blk_cell (j := 0) b0
      simp only [List.getElem?_toArray, List.getElem?_cons_zero, List.getElem?_cons_succ] at c0
      have c1 := blk_cell (j := 1) b0
      simp only [List.getElem?_toArray, List.getElem?_cons_zero, List.getElem?_cons_succ] at c1
      have c2 := blk_cell (j := 2) b0
      simp only [List.getElem?_toArray, List.getElem?_cons_zero, List.getElem?_cons_succ] at c2
      have c3 := blk_cell (j := 3) b0
      simp only [List.getElem?_toArray, List.getElem?_cons_zero, List.getElem?_cons_succ] at c3
      have c4 := blk_cell (j := 4) b0
      simp only [List.getElem?_toArray, List.getElem?_cons_zero, List.getElem?_cons_succ] at c4
      rw [← HVV1.out] at c4
      go_enter Tryz.func27, Tryz.ntmps27
      go_wp2_with fail
      rw [HVV1.out]
      go_ret
      exact ⟨by rw [HC.out]; rfl, hbt⟩

end Go.Proofs.YtfockoihmoljfaaGreatDoor
