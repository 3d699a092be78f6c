/-
  The walks of slices.Grow from nil and of slices.Concat of two, at bytes.
-/
import Derived.Test.YtfacdoemgalodaaFrameW
import Derived.Test.YtfacdoemgalodaaWords
import Derived.Lib.AppendZeros
namespace Go.Proofs.Ytfacdoemgalodaa
open Go.RowKit
set_option linter.unusedVariables false
set_option linter.unusedSimpArgs false

theorem wpList_run_append {P : Program} {ops : Array Oper} {rest : List Oper} {o : Oper} {a : Act} {Q : Exit → Act → World → Prop} {w w' : World} {ts : Array TypeId} {vs vx v' : Value} (s x : Operand)
    (hgd : o.guard = none) (ho : o.op = .call { callee := .builtin .append, args := #[s, x], argTypes := ts }) (hs : a.eval s = vs) (hx : a.eval x = vx)
    (hrun : (Builtin.append_ ts o.type #[vs, vx]).run P w = .ok v' w') (h : wpList P ops Q rest (a.put o.dst v') w') : wpList P ops Q (o :: rest) a w := by
  refine wpList_plain hgd fun K hK => ?_
  unfold Oper.wp execOp
  simp only [ho, resolve, invoke, builtin, Sem.run_bind, Sem.run_pure, Result.andThen_ok, List.map_toArray, List.map_cons, List.map_nil, hs, hx, hrun]
  exact hK _ _ h

set_option maxRecDepth 100000 in
set_option maxHeartbeats 1000000 in
theorem growB_any (n : Nat) (w : World) (hn : n ≤ 4294967296) :
    Calls Try.prog 53 #[.slice none 0 0, .int .i64 n] w fun e w' => ∃ v, e = .returned v ∧ w'.ownsRow w.heap.size 5 1 v 0 [] ∧ Below w.heap.size w w' := by
  rcases Nat.eq_zero_or_pos n with h0 | h0
  · subst h0
    go_enter Try.func53, Try.ntmps53
    go_wp2_with fail
    go_ret
    exact ⟨_, rfl, World.ownsRow_nil _ _ _ _, Below.refl _ _⟩
  · have d1 : decide ((n : Int) < 0) = false := by simp
    have d2 : decide ((0 : Int) < (n : Int)) = true := by simp; omega
    obtain ⟨i0, hi, hz0, hz1, hz2⟩ := info_parts elB.i
    have hcap1 := grownCap_ge w n 0 5
    have hcap2 := grownCap_le_maxLen w n 0 5 (by unfold maxLen; omega)
    have hrun := fun ty => Go.Lib.run_append_nil_zeros (P := Try.prog) w 22 3 ty 5 i0 (.int .u8 0) .i64 .i64 Try.underlying22 Try.underlying3 hi hz0 n h0 (by omega) (by omega) (by rw [hz2]; omega)
    generalize grownCap w n 0 5 = cap at *
    have hsz : (Builtin.zeroCells (Value.int .u8 0).cells n ++ Builtin.zeroCells (Value.int .u8 0).cells (cap - n)).size = cap := by
      rw [Array.size_append, size_zeroCells, size_zeroCells]
      show n * 1 + (cap - n) * 1 = cap
      omega
    generalize Builtin.zeroCells (Value.int .u8 0).cells n ++ Builtin.zeroCells (Value.int .u8 0).cells (cap - n) = cs at *
    have hcap3 : cap ≤ 9223372036854775807 := hcap2
    go_enter Try.func53, Try.ntmps53
    have HRUN := Lib.hid hrun
    clear hrun
    go_wp2_with (at_builtin; refine wpList_run_append _ _ rfl rfl rfl rfl (HRUN.out _) ?_)
    go_ret
    exact ⟨_, rfl, World.ownsRow_made w.drew cs cap (Nat.le_refl _) hcap2 (by omega), (Below.refl w.heap.size w).drew.alloc (Nat.le_refl _) _⟩

set_option maxRecDepth 100000 in
set_option maxHeartbeats 4000000 in
theorem concat2_any (bS : Nat) (A : Option Addr) (n c : Nat) (s : List UInt8) (B : Option Addr) (m d : Nat) (o : List UInt8) (w : World) (b : w.heap[bS]? = some (.cells #[.slice A n c, .slice B m d] 22)) (h : RdB w w.heap.size A n c s) (h' : RdB w w.heap.size B m d o) (hn : n ≤ 1073741824) (hm : m ≤ 1073741824) :
    Calls Try.prog 35 #[.slice (some ⟨bS, 0, none⟩) 2 2] w (RetNew 5 (n + m) (bv (s ++ o)) w) := by
  have h1 := h.max
  have h2 := h'.max
  have c0 := blk_cell (j := 0) b
  have c1 := blk_cell (j := 1) b
  simp only [List.getElem?_toArray, List.getElem?_cons_zero, List.getElem?_cons_succ] at c0 c1
  go_enter Try.func35, Try.ntmps35
  go_wp2_with fail
  go_loop [3, 11] (fun sv iv => (sv = .int .i64 0 ∧ iv = .int .i64 0) ∨ (sv = .int .i64 n ∧ iv = .int .i64 1) ∨ (sv = .int .i64 ((n : Int) + m) ∧ iv = .int .i64 2)) (fun _ i => 2 - (intOf i).toNat)
  case atStart => exact .inl ⟨rfl, rfl⟩
  case round =>
    rcases hrel with ⟨rfl, rfl⟩ | ⟨rfl, rfl⟩ | ⟨rfl, rfl⟩
    · have d1 : decide ((n : Int) < 0) = false := by simp
      go_wp2_with fail
      go_round
      case rel => exact .inr (.inl ⟨by go_num, by go_num⟩)
      case measure => simp [intOf]
    · have d1 : decide ((n : Int) + (m : Int) < 0) = false := by simp; omega
      go_wp2_with fail
      go_round
      case rel => exact .inr (.inr ⟨by go_num, by go_num⟩)
      case measure => simp [intOf]
    · go_wp2_with fail
      have hc : ((n : Int) + (m : Int)) = ((n + m : Nat) : Int) := by omega
      rw [hc]
      clear hc
      refine (growB_any (n + m) w (by omega)).mono ?_
      rintro e w1 ⟨v, rfl, ho, hb⟩
      have hbs := hb.size
      clear c0 c1
      obtain ⟨Av, cv, rfl, _⟩ := own_rd ho
      go_wp2_with fail
      go_loopw [6, 27] (fun nv iv wr => Below w.heap.size w wr ∧ ((wr.ownsRow w.heap.size 5 1 nv 0 [] ∧ iv = .int .i64 0) ∨ (wr.ownsRow w.heap.size 5 1 nv n (bv s) ∧ iv = .int .i64 1) ∨ (wr.ownsRow w.heap.size 5 1 nv (n + m) (bv (s ++ o)) ∧ iv = .int .i64 2))) (fun _ i _ => 2 - (intOf i).toNat)
      case atStart => exact ⟨hb, .inl ⟨ho, rfl⟩⟩
      case round =>
        clear ho hb
        obtain ⟨hb, hrel⟩ := hrel
        have b2 := blk_below b hb
        have c0 := blk_cell (j := 0) b2
        have c1 := blk_cell (j := 1) b2
        simp only [List.getElem?_toArray, List.getElem?_cons_zero, List.getElem?_cons_succ] at c0 c1
        have k1 := h.below hb
        have k2 := h'.below hb
        have hbs := hb.size
        rcases hrel with ⟨ho, rfl⟩ | ⟨ho, rfl⟩ | ⟨ho, rfl⟩
        · go_wp2_with (at_builtin; refine wpList_app _ _ elB ho k1 (bv_one _) (by omega) (by omega) hbs rfl rfl rfl rfl ?_; intro v2 w2 o2 g2 t2)
          simp only [Nat.zero_add, List.nil_append] at o2
          go_roundw
          case rel => exact ⟨hb.grown g2 hbs (own_lt ho), .inr (.inl ⟨o2, by go_num⟩)⟩
          case measure => simp [intOf]
        · go_wp2_with (at_builtin; refine wpList_app _ _ elB ho k2 (bv_one _) (by omega) (by omega) hbs rfl rfl rfl rfl ?_; intro v2 w2 o2 g2 t2)
          rw [← bv_append] at o2
          go_roundw
          case rel => exact ⟨hb.grown g2 hbs (own_lt ho), .inr (.inr ⟨o2, by go_num⟩)⟩
          case measure => simp [intOf]
        · go_wp2_with fail
          go_ret
          exact ⟨_, rfl, ho, hb⟩
end Go.Proofs.Ytfacdoemgalodaa
