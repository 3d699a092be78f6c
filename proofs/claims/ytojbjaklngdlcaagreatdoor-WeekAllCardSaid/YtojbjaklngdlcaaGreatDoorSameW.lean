/-
  The reference's Same and Moves; slices.Clone of places.
-/
import Derived.Test.YtojbjaklngdlcaaGreatDoorCheckW
import Derived.Lib.SliceRun
namespace Go.Proofs.YtojbjaklngdlcaaGreatDoor
open Go.RowKit
set_option linter.unusedVariables false
set_option linter.unusedSimpArgs false

def neqPl (a b c d : Int) : Bool := !decide (a = c ∧ b = d)
theorem run_neq_pl (a b c d : Int) (w : World) : (binOp .neq 62 (.agg #[.int .i64 a, .int .i64 b]) (.agg #[.int .i64 c, .int .i64 d])).run Tryz.prog w = .ok (.bool (neqPl a b c d)) w := by
  unfold neqPl
  rw [run_neq_struct, run_equalIn_struct _ _ _ _ _ (by kernel_rfl) (by kernel_rfl)]
  by_cases h1 : a = c <;> by_cases h2 : b = d <;> simp [go_sem, Program.fieldsOf, Tryz.underlying62, Op.eqFields, h1, h2]
attribute [local go_sem ↓] run_neq_pl

theorem take_eq_step {α : Type} {l r : List α} {k : Nat} (h : l.take k = r.take k) (hl : k < l.length) (hr : k < r.length) (he : l[k] = r[k]) : l.take (k + 1) = r.take (k + 1) := by
  rw [List.take_succ_eq_append_getElem hl, List.take_succ_eq_append_getElem hr, h, he]

set_option maxHeartbeats 1000000 in
theorem same4_any (A A' : Option Addr) (n c n' c' : Nat) (l r : List Pl) (w : World) (h : RdP w w.heap.size A n c l) (h' : RdP w w.heap.size A' n' c' r) :
    Calls Tryz.prog 21 #[.agg #[.slice A n c], .agg #[.slice A' n' c']] w fun e w' => e = .returned (.bool (decide (l = r))) ∧ Below w.heap.size w w' := by
  have hm := h.max
  have hm' := h'.max
  have hle := h.le
  have hle' := h'.le
  have hlen := Lib.hid h.len
  have hlen' := Lib.hid h'.len
  have hb2 := fun (o o' : Obj) => ((Below.refl w.heap.size w).alloc (Nat.le_refl _) o).alloc (show w.heap.size ≤ (w.alloc o).heap.size by simp) o'
  obtain ⟨res, hres⟩ : ∃ res, res = decide (l = r) := ⟨_, rfl⟩
  rw [← hres]
  have HR := Lib.hid hres
  clear hres
  by_cases hne : n = n'
  · subst hne
    go_enter Tryz.func21, Tryz.ntmps21
    go_wp2_with fail
    go_loopw [5] (fun i wr => ∃ k nq : Nat, k ≤ n ∧ i = .int .i64 k ∧ l.take k = r.take k ∧ wr = ((w.alloc (.cells #[.slice A n c] 31)).alloc (.cells #[.slice A' n c'] 31)).drewN nq) (fun i _ => n - (intOf i).toNat)
    case atStart => exact ⟨0, 0, by omega, rfl, rfl, rfl⟩
    case round =>
      obtain ⟨k, nq, hk, rfl, htk, rfl⟩ := hrel
      have HT := Lib.hid htk
      clear htk
      by_cases hkn : k < n
      · have hkl : k < l.length := by rw [hlen.out]; exact hkn
        have hkr : k < r.length := by rw [hlen'.out]; exact hkn
        obtain ⟨ad, rfl, hab, c1, c2, _, _⟩ := (h.below (hb2 (.cells #[.slice A n c] 31) (.cells #[.slice A' n c'] 31))).at_ hkn hkl
        obtain ⟨ad', rfl, hab', c1', c2', _, _⟩ := (h'.below (hb2 (.cells #[.slice (some ad) n c] 31) (.cells #[.slice A' n c'] 31))).at_ hkn hkr
        have d5 : decide ((k : Int) < (n : Int)) = true := by simp; omega
        have HS : Hid (l[k] = r[k] → l.take (k + 1) = r.take (k + 1)) := take_eq_step HT.out hkl hkr
        have HN : Hid (l[k] ≠ r[k] → l ≠ r) := fun h1 h2 => h1 (by subst h2; rfl)
        generalize l[k] = p at *
        generalize r[k] = q at *
        obtain ⟨p1, p2⟩ := p
        obtain ⟨q1, q2⟩ := q
        go_wp2
        go_quiet (fail)
        by_cases he : p1 = q1 ∧ p2 = q2
        · have de : neqPl p1 p2 q1 q2 = false := by unfold neqPl; rw [decide_eq_true he]; rfl
          rw [de]
          obtain ⟨rfl, rfl⟩ := he
          go_wp2
          go_roundw
          case rel => exact ⟨k + 1, _, by omega, by go_num, HS.out rfl, rfl⟩
          case measure => simp [intOf]; omega
        · have de : neqPl p1 p2 q1 q2 = true := by unfold neqPl; rw [decide_eq_false he]; rfl
          rw [de]
          go_wp2_with fail
          go_ret
          refine ⟨ret_bool ?_, below_drewN' (below_drewN' (hb2 _ _) _) _⟩
          rw [HR.out]
          exact (decide_eq_false (HN.out (fun e => he (by simpa using e)))).symm
      · obtain rfl : k = n := by omega
        have d5 : decide ((k : Int) < (k : Int)) = false := by simp
        go_wp2_with fail
        go_ret
        refine ⟨ret_bool ?_, below_drewN' (hb2 _ _) _⟩
        rw [HR.out]
        have := HT.out
        rw [List.take_of_length_le (by rw [hlen.out]; omega), List.take_of_length_le (by rw [hlen'.out]; omega)] at this
        exact (decide_eq_true this).symm
  · have d1 : ((n : Int) == (n' : Int)) = false := by simp; omega
    go_enter Tryz.func21, Tryz.ntmps21
    go_wp2_with fail
    go_ret
    refine ⟨ret_bool ?_, hb2 _ _⟩
    rw [HR.out]
    refine (decide_eq_false (fun e => hne ?_)).symm
    rw [← hlen.out, ← hlen'.out, e]

/-- slices.Clone of places. -/
theorem elP : ElK Tryz.prog 2 29 62 (.agg #[.int .i64 0, .int .i64 0]) 16 := ⟨Tryz.underlying29, by kernel_rfl, rfl, by omega⟩
/-- What a copy hands back. -/
def RetP (n : Nat) (l : List Pl) (w : World) (e : Ending) (w' : World) : Prop := ∃ v, e = .returned v ∧ w'.ownsRow w.heap.size 62 2 v n (pv l) ∧ Below w.heap.size w w'
theorem cloneP_any (A : Option Addr) (n c : Nat) (l : List Pl) (w : World) (h : RdP w w.heap.size A n c l) (hn : n ≤ 1099511627776) :
    Calls Tryz.prog 41 #[.slice A n c] w (RetP n l w) := by
  have hm := h.max
  have hl := h.len
  have he := fun (A : Option Addr) (n c : Nat) => Go.Lib.run_eql_slice_nil (P := Tryz.prog) w 29 62 A n c 0 0 Tryz.underlying29
  rcases A with _ | ad
  · have h0 : n = 0 := by
      rcases Nat.eq_zero_or_pos n with h0 | h0
      · exact h0
      · obtain ⟨ad, h', _⟩ := h.1.2.2.2 h0
        cases h'
    have hl0 : l = [] := List.eq_nil_of_length_eq_zero (by omega)
    have H0 := Lib.hid h0
    have HL := Lib.hid hl0
    clear h0 hl0 hl
    go_enter Tryz.func41, Tryz.ntmps41
    go_wp2
    go_ret
    refine ⟨_, rfl, ?_, Below.refl _ w⟩
    rw [H0.out, HL.out]
    exact World.ownsRow_nil w _ _ _
  · have HL := Lib.hid hl
    clear hl
    have ho : (w.alloc (.cells #[] 62)).ownsRow w.heap.size 62 2 (.slice (some ⟨w.heap.size, 0, none⟩) 0 0) 0 [] := World.ownsRow_lit w #[] 0 (Nat.le_refl _) (by unfold maxLen; omega) rfl
    go_enter Tryz.func41, Tryz.ntmps41
    go_wp2_with (at_builtin; refine wpList_appK _ _ elP ho (h.1.below ((Below.refl _ w).alloc (Nat.le_refl _) _)) (pv_one l) (by omega) (by omega) (by simp) rfl rfl rfl rfl ?_; intro v' w1 hown1 hg1 hat1)
    go_ret
    simp only [Nat.zero_add, List.nil_append] at hown1
    exact ⟨v', rfl, hown1, below_of_alloc_grown hg1 (fun g hg => by cases hg; exact Nat.le_refl _)⟩

/-! Moves -/

/-- A move: the lesson, where it goes. -/
structure Mv where
  lesson : Int
  to : Pl
deriving DecidableEq
def mcell (m : Mv) : List Value := [.int .i64 m.lesson, .int .i64 m.to.1, .int .i64 m.to.2]
theorem mcell_length (m : Mv) : (mcell m).length = 3 := rfl
def mv (l : List Mv) : List Value := l.flatMap mcell
theorem mv_append (l r : List Mv) : mv (l ++ r) = mv l ++ mv r := List.flatMap_append
theorem mv_one (l : List Mv) : ∀ u ∈ mv l, u.oneCell' = true := by
  intro u hu
  simp only [mv, List.mem_flatMap] at hu
  obtain ⟨p, _, hp⟩ := hu
  simp [mcell] at hp
  rcases hp with rfl | rfl | rfl <;> rfl
def okMs (l : List Mv) : Prop := ∀ m ∈ l, okI m.lesson ∧ okI m.to.1 ∧ okI m.to.2
def RdM (w : World) (B : Nat) (A : Option Addr) (n c : Nat) (l : List Mv) : Prop := RdK 3 w B A n c (mv l) ∧ okMs l
theorem elM : ElK Tryz.prog 3 53 64 (.agg #[.int .i64 0, .int .i64 0, .int .i64 0]) 24 := ⟨Tryz.underlying53, by kernel_rfl, rfl, by omega⟩

section
variable {w w' : World} {B B' : Nat} {A : Option Addr} {n c : Nat} {l : List Mv}
theorem RdM.below (h : RdM w B A n c l) (hb : Below B w w') : RdM w' B A n c l := ⟨h.1.below hb, h.2⟩
theorem RdM.more (h : RdM w B A n c l) (hB : B ≤ B') : RdM w B' A n c l := ⟨h.1.more hB, h.2⟩
theorem RdM.drewN (h : RdM w B A n c l) (m : Nat) : RdM (w.drewN m) B A n c l := h
theorem RdM.len (h : RdM w B A n c l) : l.length = n := by have := h.1.len; rw [mv, flat_length mcell_length] at this; omega
theorem RdM.le (h : RdM w B A n c l) : n ≤ c := h.1.le
theorem RdM.max (h : RdM w B A n c l) : c ≤ 9223372036854775807 := h.1.max
theorem RdM.nil (w : World) (B : Nat) : RdM w B none 0 0 [] := ⟨RdK.nil 3 w B, by simp [okMs]⟩
theorem RdM.at_ (h : RdM w B A n c l) {i : Nat} (hi : i < n) (hl : i < l.length) : ∃ ad, A = some ad ∧ ad.block < B ∧ w.cell? (ad.add (i * 3)) = some (.int .i64 l[i].lesson) ∧
    w.cell? ⟨(ad.add (i * 3)).block, (ad.add (i * 3)).off + 1, none⟩ = some (.int .i64 l[i].to.1) ∧ w.cell? ⟨(ad.add (i * 3)).block, (ad.add (i * 3)).off + 2, none⟩ = some (.int .i64 l[i].to.2) ∧ okI l[i].lesson ∧ okI l[i].to.1 ∧ okI l[i].to.2 := by
  obtain ⟨ad, e, hb, hc⟩ := h.1.2.2.2 (by omega)
  have h0 := hc (i * 3 + 0) _ (by rw [mv, flat_get mcell_length l i 0 hl (by omega)]; rfl)
  have h1 := hc (i * 3 + 1) _ (by rw [mv, flat_get mcell_length l i 1 hl (by omega)]; rfl)
  have h2 := hc (i * 3 + 2) _ (by rw [mv, flat_get mcell_length l i 2 hl (by omega)]; rfl)
  exact ⟨ad, e, hb, h0, (add_sub ad (i * 3) 0) ▸ h1, (add_sub ad (i * 3) 1) ▸ h2, h.2 _ (List.getElem_mem hl)⟩
end

def neqMv (x a b y c d : Int) : Bool := !decide (x = y ∧ a = c ∧ b = d)
theorem run_neq_mv (x a b y c d : Int) (w : World) : (binOp .neq 64 (.agg #[.int .i64 x, .int .i64 a, .int .i64 b]) (.agg #[.int .i64 y, .int .i64 c, .int .i64 d])).run Tryz.prog w = .ok (.bool (neqMv x a b y c d)) w := by
  unfold neqMv
  rw [run_neq_struct, run_equalIn_struct _ _ _ _ _ (by kernel_rfl) (by kernel_rfl)]
  by_cases h0 : x = y <;> by_cases h1 : a = c <;> by_cases h2 : b = d <;> simp [go_sem, Program.fieldsOf, Tryz.underlying64, Tryz.underlying62, Op.eqFields, h0, h1, h2]
attribute [local go_sem ↓] run_neq_mv

end Go.Proofs.YtojbjaklngdlcaaGreatDoor
