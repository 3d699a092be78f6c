/-
  week.Diff and the reference's Diff.
-/
import Derived.Test.YtojbjaklngdlcaaGreatDoorSameW
namespace Go.Proofs.YtojbjaklngdlcaaGreatDoor
open Go.RowKit
set_option linter.unusedVariables false
set_option linter.unusedSimpArgs false
attribute [local go_sem ↓] run_neq_pl run_neq_mv

/-- The moves among the first k lessons. -/
def diffTo (a b : List Pl) : Nat → List Mv
  | 0 => []
  | k + 1 => diffTo a b k ++ (if a.getD k (0, 0) = b.getD k (0, 0) then [] else [⟨k, b.getD k (0, 0)⟩])
theorem diffTo_len (a b : List Pl) (k : Nat) : (diffTo a b k).length ≤ k := by
  induction k with
  | zero => simp [diffTo]
  | succ k ih => unfold diffTo; rw [List.length_append]; split <;> simp <;> omega
def diffL (a b : List Pl) : List Mv := if a.length = b.length then diffTo a b b.length else []
def diffE (a b : List Pl) : Int := if a.length = b.length then 0 else 1
theorem okMs_diffTo {a b : List Pl} (hb : okPs b) (k : Nat) (hk : k ≤ 1099511627776) : okMs (diffTo a b k) := by
  induction k with
  | zero => simp [diffTo, okMs]
  | succ k ih =>
    unfold diffTo
    intro m hm
    rcases List.mem_append.1 hm with h | h
    · exact ih (by omega) m h
    · split at h
      · simp at h
      · simp only [List.mem_singleton] at h
        subst h
        refine ⟨⟨by dsimp only; omega, by dsimp only; omega⟩, ?_⟩
        dsimp only
        rw [List.getD_eq_getElem?_getD]
        cases hg : b[k]? with
        | none => simp [okI]
        | some p => exact hb p (List.mem_of_getElem? hg)

/-- What Diff hands back. -/
def DiffPost (a b : List Pl) (w : World) (e : Ending) (w' : World) : Prop :=
  ∃ v, e = .returned (.tuple #[v, .int .i64 (diffE a b)]) ∧ w'.ownsRow w.heap.size 64 3 v (diffL a b).length (mv (diffL a b)) ∧ Below w.heap.size w w'

set_option maxHeartbeats 1000000 in
theorem diff_any (A A' : Option Addr) (n c n' c' : Nat) (l r : List Pl) (w : World) (h : RdP w w.heap.size A n c l) (h' : RdP w w.heap.size A' n' c' r) (hn : n ≤ 1073741824) :
    Calls Tryz.prog 26 #[.agg #[.slice A n c], .agg #[.slice A' n' c']] w (DiffPost l r w) := by
  have hm := h.max
  have hm' := h'.max
  have hle := h.le
  have hle' := h'.le
  have hlen := Lib.hid h.len
  have hlen' := Lib.hid h'.len
  have hb2 := ((Below.refl w.heap.size w).alloc (Nat.le_refl _) (.cells #[.slice A n c] 31)).alloc (show w.heap.size ≤ (w.alloc (.cells #[.slice A n c] 31)).heap.size by simp) (.cells #[.slice A' n' c'] 31)
  by_cases hne : n = n'
  · subst hne
    have HD : Hid (diffL l r = diffTo l r n ∧ diffE l r = 0) := by
      refine ⟨?_, ?_⟩
      · unfold diffL; rw [hlen.out, hlen'.out, if_pos rfl]
      · unfold diffE; rw [hlen.out, hlen'.out, if_pos rfl]
    go_enter Tryz.func26, Tryz.ntmps26
    go_wp2_with fail
    obtain ⟨W2, hW2⟩ : ∃ W2, W2 = ((w.alloc (.cells #[.slice A n c] 31)).alloc (.cells #[.slice A' n c'] 31)) := ⟨_, rfl⟩
    have hs2 : W2.heap.size = w.heap.size + 2 := by rw [hW2]; simp
    have x1 : W2.cell? ⟨w.heap.size, 0, none⟩ = some (.slice A n c) := by rw [hW2]; simp [go_sem]
    have x2 : W2.cell? ⟨w.heap.size + 1, 0, none⟩ = some (.slice A' n c') := by rw [hW2]; simp [go_sem]
    rw [← hW2] at hb2 ⊢
    have hr := (h.below hb2).more hb2.size
    have hr' := (h'.below hb2).more hb2.size
    clear hW2
    go_loopw [18, 4] (fun i v wr => ∃ k : Nat, k ≤ n ∧ i = .int .i64 k ∧ wr.ownsRow W2.heap.size 64 3 v (diffTo l r k).length (mv (diffTo l r k)) ∧ Below W2.heap.size W2 wr) (fun i _ _ => n - (intOf i).toNat)
    case atStart => exact ⟨0, by omega, rfl, World.ownsRow_nil _ _ _ _, Below.refl _ _⟩
    case round =>
      obtain ⟨k, hk, rfl, hown, hb⟩ := hrel
      have y1 : wr.cell? ⟨w.heap.size, 0, none⟩ = some (.slice A n c) := (hb.cell (p := ⟨w.heap.size, 0, none⟩) (by simp; omega)).trans x1
      have y2 : wr.cell? ⟨w.heap.size + 1, 0, none⟩ = some (.slice A' n c') := (hb.cell (p := ⟨w.heap.size + 1, 0, none⟩) (by simp; omega)).trans x2
      have hdl := diffTo_len l r k
      by_cases hkn : k < n
      · have hkl : k < l.length := by rw [hlen.out]; exact hkn
        have hkr : k < r.length := by rw [hlen'.out]; exact hkn
        obtain ⟨ad, rfl, hab, c1, c2, _, _⟩ := (hr.below hb).at_ hkn hkl
        obtain ⟨ad', rfl, hab', c1', c2', _, _⟩ := (hr'.below hb).at_ hkn hkr
        have d5 : decide ((k : Int) < (n : Int)) = true := by simp; omega
        have HT : Hid (diffTo l r (k + 1) = diffTo l r k ++ (if l[k] = r[k] then [] else [⟨k, r[k]⟩])) := by
          show diffTo l r (k + 1) = _
          conv => lhs; unfold diffTo
          simp [List.getD_eq_getElem?_getD, hkl, hkr]
        generalize l[k] = p at *
        generalize r[k] = q at *
        obtain ⟨p1, p2⟩ := p
        obtain ⟨q1, q2⟩ := q
        have hba : Below W2.heap.size W2 (wr.alloc (.cells #[.int .i64 q1, .int .i64 q2] 62)) := hb.alloc hb.size _
        have hoa := hown.alloc (.cells #[.int .i64 q1, .int .i64 q2] 62)
        have hca : ∀ p : Addr, p.block < W2.heap.size → (wr.alloc (.cells #[.int .i64 q1, .int .i64 q2] 62)).cell? p = wr.cell? p := fun p hp => World.cell?_alloc_lt wr _ p (by have := hb.size; omega)
        have z1 := (hca ⟨w.heap.size, 0, none⟩ (by simp; omega)).trans y1
        have z3 := (hca (ad.add (k * 2)) (by rw [add_block]; exact hab)).trans c1
        have z4 := (hca ⟨(ad.add (k * 2)).block, (ad.add (k * 2)).off + 1, none⟩ (by dsimp only; rw [add_block]; exact hab)).trans c2
        have z5 : (wr.alloc (.cells #[.int .i64 q1, .int .i64 q2] 62)).cell? ⟨wr.heap.size, 0, none⟩ = some (.int .i64 q1) := by simp [go_sem]
        have z6 : (wr.alloc (.cells #[.int .i64 q1, .int .i64 q2] 62)).cell? ⟨wr.heap.size, 1, none⟩ = some (.int .i64 q2) := by simp [go_sem]
        go_wp2
        generalize wr.alloc (.cells #[.int .i64 q1, .int .i64 q2] 62) = W3 at *
        clear hca c1 c2 c1' c2' y1 y2
        go_quiet (fail)
        by_cases he : q1 = p1 ∧ q2 = p2
        · have de : neqPl q1 q2 p1 p2 = false := by unfold neqPl; rw [decide_eq_true he]; rfl
          rw [de]
          obtain ⟨rfl, rfl⟩ := he
          go_wp2
          go_roundw
          case rel =>
            refine ⟨k + 1, by omega, by go_num, ?_, below_drewN' hba _⟩
            rw [HT.out, if_pos rfl, List.append_nil]
            exact own_drewN hoa _
          case measure => simp [intOf]; omega
        · have de : neqPl q1 q2 p1 p2 = true := by unfold neqPl; rw [decide_eq_false he]; rfl
          rw [de]
          have HT2 : Hid (diffTo l r (k + 1) = diffTo l r k ++ [⟨k, (q1, q2)⟩]) := by
            show diffTo l r (k + 1) = _
            rw [HT.out, if_neg (fun e => he (by simpa [eq_comm] using e))]
          clear HT
          generalize diffTo l r k = dl at *
          go_wp2_with (at_builtin; refine wpList_appK _ _ elM ((own_drewN hoa _).alloc _) (RdK.new 3 _ _ _ _ 1 rfl (by omega)) (by simp [Value.oneCell']) (by omega) (by omega) (by have := hba.size; simp; omega) rfl rfl rfl rfl ?_; intro v' w1 hown1 hg1 hat1)
          go_roundw
          case rel =>
            have hb3 := (below_drewN' hba nq).alloc (show W2.heap.size ≤ (W3.drewN nq).heap.size from hba.size) (.cells #[.int .i64 (k : Int), .int .i64 q1, .int .i64 q2] 64)
            refine ⟨k + 1, by omega, by go_num, ?_, hb3.grown hg1 hb3.size (own_lt hoa)⟩
            rw [HT2.out, mv_append, List.length_append]
            exact hown1
          case measure => simp [intOf]; omega
      · obtain rfl : k = n := by omega
        have d5 : decide ((k : Int) < (k : Int)) = false := by simp
        go_wp2_with fail
        go_ret2
        refine ⟨u4, ?_, ?_, hb2.trans (hb.mono hb2.size)⟩
        · rw [HD.out.2]; rfl
        · rw [HD.out.1]; exact own_mono hown hb2.size
  · have d1 : ((n : Int) != (n' : Int)) = true := by simp; omega
    have HD : Hid (diffL l r = [] ∧ diffE l r = 1) := by
      refine ⟨?_, ?_⟩
      · unfold diffL; rw [hlen.out, hlen'.out, if_neg hne]
      · unfold diffE; rw [hlen.out, hlen'.out, if_neg hne]
    go_enter Tryz.func26, Tryz.ntmps26
    go_wp2_with fail
    go_ret2
    refine ⟨.slice none 0 0, ?_, ?_, hb2⟩
    · rw [HD.out.2]; rfl
    · rw [HD.out.1]; exact World.ownsRow_nil _ _ _ _

end Go.Proofs.YtojbjaklngdlcaaGreatDoor
