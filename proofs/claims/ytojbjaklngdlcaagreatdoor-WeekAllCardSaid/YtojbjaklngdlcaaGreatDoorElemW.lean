/-
  The walks of elements and of its iterator at the sorts 1 to 5.
-/
import Derived.Test.YtojbjaklngdlcaaGreatDoorEachW
namespace Go.Proofs.YtojbjaklngdlcaaGreatDoor
open Go.RowKit Go.Shelf
set_option linter.unusedVariables false
set_option linter.unusedSimpArgs false

attribute [local go_sem] Oper.semAt_some
/-- What a round keeps for the iterator: what lay below m, and its two boxes. -/
def KpE (m bK bS : Nat) (A B : World) : Prop := Below m A B ∧ B.heap[bK]? = A.heap[bK]? ∧ B.heap[bS]? = A.heap[bS]?
theorem elements_any (f : Sc.Five) (k : Int) (w : World) :
    Calls Tryz.prog 42 #[.agg f.vals, .int .i64 k] w fun e w' => e = .returned (.func (.func 60) #[] #[.pointer (some ⟨w.heap.size + 1, 0, none⟩), .pointer (some ⟨w.heap.size, 0, none⟩)]) ∧ w' = (w.alloc (.cells f.vals 28)).alloc (.cells #[.int .i64 k] 3) := by
  unfold Sc.Five.vals
  go_enter Tryz.func42, Tryz.ntmps42
  go_wp2
  go_ret
  exact ⟨rfl, rfl⟩

set_option maxRecDepth 100000 in
set_option maxHeartbeats 4000000 in
theorem elements1_iter (bK bS m : Nat) (k : Int) (f : Sc.Five) (s : Sc.Sch) (w : World) (b1 : w.heap[bK]? = some (.cells #[.int .i64 k] 3)) (b2 : w.heap[bS]? = some (.cells f.vals 28)) (h : Sc.RdSch w m f s) (hm : m ≤ w.heap.size) (hk1 : 1 ≤ k) (hk2 : k ≤ 5) :
    Iter Tryz.prog 60 #[.pointer (some ⟨bK, 0, none⟩), .pointer (some ⟨bS, 0, none⟩)] (fun A B => Below A.heap.size A B) (KpE m bK bS) (Sc.names s k).length (elY (Sc.names s k)) w := by
  intro l0 J Jx W hKw hJ hJx hY h0
  have b1 := hKw.2.1.trans b1
  have b2 := hKw.2.2.trans b2
  have h := h.below hKw.1
  have hmW : m ≤ W.heap.size := Nat.le_trans hm hKw.1.size
  have HJ := Lib.hid hJ
  have HY : Hid (∀ i args W1, i < (Sc.names s k).length → J i W1 → elY (Sc.names s k) i args W1 → YieldAt Fence.wide 1 Tryz.prog l0 args W1 fun e W' => (e = .returned (.bool true) ∧ J (i + 1) W' ∧ KpN m W1 W') ∨ (e = .returned (.bool false) ∧ Jx (i + 1) W')) := fun i args W1 hi hj hy => by
    obtain ⟨fn, tmps, assign, body, hq, hR⟩ := hY i args W1 hi hj hy
    refine ⟨fn, tmps, assign, body, hq, hR.mono ?_⟩
    rintro e W' (⟨rfl, h1, h2⟩ | ⟨rfl, h1⟩)
    · exact .inl ⟨rfl, h1, h2.1⟩
    · exact .inr ⟨rfl, h1⟩
  clear hJ hJx hY hKw
  unfold Sc.Five.vals at b2
  have c0 := blk_cell (j := 0) b1
  have e0 := blk_cell (j := 0) b2
  have e1 := blk_cell (j := 1) b2
  have e2 := blk_cell (j := 2) b2
  have e3 := blk_cell (j := 3) b2
  have e4 := blk_cell (j := 4) b2
  simp only [List.getElem?_toArray, List.getElem?_cons_zero, List.getElem?_cons_succ] at c0 e0 e1 e2 e3 e4
  refine callsIn_of_wp Tryz.func60 rfl trivial ?_ rfl
  simp only [Tryz.ntmps60, List.size_toArray, List.length_cons, List.length_nil, Nat.reduceAdd, Nat.reduceSub, Array.replicate_succ, Array.replicate_zero, List.push_toArray, List.append_toArray, List.nil_append, List.cons_append]
  have hcases : k = 1 ∨ k = 2 ∨ k = 3 ∨ k = 4 ∨ k = 5 := by omega
  rcases hcases with rfl | rfl | rfl | rfl | rfl
  · gi_wp2_with fail
    refine ⟨trivial, ?_⟩
    refine CallsIn.mono (callsIn_wide.2 (seachL_in l0 f.aL f.nL f.cL s.lessons m J Jx W h.lessons hmW HJ.out ?_ h0)) ?_
    · intro i args W1 hi hj hy
      exact HY.out i args W1 (by show _ < (List.map _ _).length; rw [List.length_map]; exact hi) hj hy
    rintro e W2 ⟨⟨v, rfl⟩, hend⟩
    gi_wp2
    refine bodyPost_end (results_none rfl _ _ _) rfl ?_
    have hl : (Sc.names s 1).length = s.lessons.length := by show (List.map _ _).length = _; rw [List.length_map]
    rw [hl]
    exact ⟨⟨_, rfl⟩, hend⟩
  · gi_wp2_with fail
    refine ⟨trivial, ?_⟩
    refine CallsIn.mono (callsIn_wide.2 (seachS_in l0 f.aS f.nS f.cS s.slots m J Jx W h.slots hmW HJ.out ?_ h0)) ?_
    · intro i args W1 hi hj hy
      exact HY.out i args W1 (by show _ < (List.map _ _).length; rw [List.length_map]; exact hi) hj hy
    rintro e W2 ⟨⟨v, rfl⟩, hend⟩
    gi_wp2
    refine bodyPost_end (results_none rfl _ _ _) rfl ?_
    have hl : (Sc.names s 2).length = s.slots.length := by show (List.map _ _).length = _; rw [List.length_map]
    rw [hl]
    exact ⟨⟨_, rfl⟩, hend⟩
  · gi_wp2_with fail
    refine ⟨trivial, ?_⟩
    refine CallsIn.mono (callsIn_wide.2 (seachR_in l0 f.aR f.nR f.cR s.rooms m J Jx W h.rooms hmW HJ.out ?_ h0)) ?_
    · intro i args W1 hi hj hy
      exact HY.out i args W1 (by show _ < (List.map _ _).length; rw [List.length_map]; exact hi) hj hy
    rintro e W2 ⟨⟨v, rfl⟩, hend⟩
    gi_wp2
    refine bodyPost_end (results_none rfl _ _ _) rfl ?_
    have hl : (Sc.names s 3).length = s.rooms.length := by show (List.map _ _).length = _; rw [List.length_map]
    rw [hl]
    exact ⟨⟨_, rfl⟩, hend⟩
  · gi_wp2_with fail
    refine ⟨trivial, ?_⟩
    refine CallsIn.mono (callsIn_wide.2 (seachP_in l0 f.aP f.nP f.cP s.people m J Jx W h.people hmW HJ.out ?_ h0)) ?_
    · intro i args W1 hi hj hy
      exact HY.out i args W1 (by show _ < (List.map _ _).length; rw [List.length_map]; exact hi) hj hy
    rintro e W2 ⟨⟨v, rfl⟩, hend⟩
    gi_wp2
    refine bodyPost_end (results_none rfl _ _ _) rfl ?_
    have hl : (Sc.names s 4).length = s.people.length := by show (List.map _ _).length = _; rw [List.length_map]
    rw [hl]
    exact ⟨⟨_, rfl⟩, hend⟩
  · gi_wp2_with fail
    refine ⟨trivial, ?_⟩
    refine CallsIn.mono (callsIn_wide.2 (seachG_in l0 f.aG f.nG f.cG s.groups m J Jx W h.groups hmW HJ.out ?_ h0)) ?_
    · intro i args W1 hi hj hy
      exact HY.out i args W1 (by show _ < (List.map _ _).length; rw [List.length_map]; exact hi) hj hy
    rintro e W2 ⟨⟨v, rfl⟩, hend⟩
    gi_wp2
    refine bodyPost_end (results_none rfl _ _ _) rfl ?_
    have hl : (Sc.names s 5).length = s.groups.length := by show (List.map _ _).length = _; rw [List.length_map]
    rw [hl]
    exact ⟨⟨_, rfl⟩, hend⟩
end Go.Proofs.YtojbjaklngdlcaaGreatDoor
