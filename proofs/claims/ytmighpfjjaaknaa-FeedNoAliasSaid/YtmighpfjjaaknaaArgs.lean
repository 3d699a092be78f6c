/-
  What the laws' arguments read as.
-/
import Derived.Test.YtmighpfjjaaknaaTrod
import Derived.Test.YtmighpfjjaaknaaLiveW
import Derived.ProofKit
namespace Go.Proofs.Ytmighpfjjaaknaa
open Go.RowKit Go.ChangeShapes Go.WideShapes
set_option linter.unusedVariables false

section
variable {H : Type} {enc : TypeId × Value → H} {W : World} {cs : List Value} {r : Reach} {b0 : Nat} {v : Value} {d : DataW H} {p : List MemPlace}
theorem tr_place (h : Tr enc Try.prog W 60 cs) : ∃ p : Pl, cs = pcell p ∧ okI p.1 ∧ okI p.2 := by
  obtain ⟨hl, hf⟩ := h.struct Try.underlying60
  have hl2 : cs.length = 2 := hl
  match cs, hl2 with
  | [a, b], _ =>
    obtain ⟨n, h1, ok1⟩ := Tr.i64 (t := 3) Try.underlying3 (hf 0 _ rfl)
    obtain ⟨m, h2, ok2⟩ := Tr.i64 (t := 3) Try.underlying3 (hf 1 _ rfl)
    have e1 : [a] = [Value.int .i64 n] := h1
    have e2 : [b] = [Value.int .i64 m] := h2
    injection e1 with e1
    injection e2 with e2
    subst e1 e2
    exact ⟨(n, m), rfl, ok1, ok2⟩
theorem tr_places (h : Tr enc Try.prog W 23 cs) : ∃ A n c l, cs = [.slice A n c] ∧ RdP W W.heap.size A n c l := by
  obtain ⟨A, n, c, els, h1, h2, h3, h4, h5, h6⟩ := h.list 2 (fun cs (p : Pl) => cs = pcell p ∧ okI p.1 ∧ okI p.2) Try.underlying23 (by kernel_rfl) (by omega) (fun cs h => tr_place h)
  have hfl : ∀ els : List (List Value × Pl), (∀ x ∈ els, x.1 = pcell x.2) → els.flatMap (·.1) = pv (els.map (·.2)) := fun els he => by
    unfold pv
    rw [List.flatMap_map]
    induction els with
    | nil => rfl
    | cons x r ih => rw [List.flatMap_cons, List.flatMap_cons, ih (fun y hy => he y (List.mem_cons_of_mem _ hy)), he x (List.mem_cons_self ..)]
  rw [hfl els (fun x hx => (h5 x hx).2.1)] at h6
  refine ⟨A, n, c, els.map (·.2), h1, ⟨?_, h3, h4, h6⟩, fun p hp => ?_⟩
  · rw [pv, flat_length pcell_length, List.length_map, h2]
  · obtain ⟨x, hx, rfl⟩ := List.mem_map.1 hp
    exact (h5 x hx).2.2
theorem tr_move (h : Tr enc Try.prog W 64 cs) : ∃ p : Mv, cs = mcell p ∧ okI p.lesson ∧ okI p.to.1 ∧ okI p.to.2 := by
  obtain ⟨hl, hf⟩ := h.struct Try.underlying64
  have hl2 : cs.length = 3 := hl
  match cs, hl2 with
  | [a, b, c], _ =>
    obtain ⟨n, h1, ok1⟩ := Tr.i64 (t := 3) Try.underlying3 (hf 0 _ rfl)
    obtain ⟨q, h2, ok2⟩ := tr_place (hf 1 _ rfl)
    have e1 : [a] = [Value.int .i64 n] := h1
    have e2 : [b, c] = [Value.int .i64 q.1, Value.int .i64 q.2] := h2
    injection e1 with e1
    injection e2 with e2 e3
    injection e3 with e3
    subst e1 e2 e3
    exact ⟨⟨n, q⟩, rfl, ok1, ok2⟩
theorem tr_moves (h : Tr enc Try.prog W 30 cs) : ∃ A n c l, cs = [.slice A n c] ∧ RdM W W.heap.size A n c l := by
  obtain ⟨A, n, c, els, h1, h2, h3, h4, h5, h6⟩ := h.list 3 (fun cs (p : Mv) => cs = mcell p ∧ okI p.lesson ∧ okI p.to.1 ∧ okI p.to.2) Try.underlying30 (by kernel_rfl) (by omega) (fun cs h => tr_move h)
  have hfl : ∀ els : List (List Value × Mv), (∀ x ∈ els, x.1 = mcell x.2) → els.flatMap (·.1) = mv (els.map (·.2)) := fun els he => by
    unfold mv
    rw [List.flatMap_map]
    induction els with
    | nil => rfl
    | cons x r ih => rw [List.flatMap_cons, List.flatMap_cons, ih (fun y hy => he y (List.mem_cons_of_mem _ hy)), he x (List.mem_cons_self ..)]
  rw [hfl els (fun x hx => (h5 x hx).2.1)] at h6
  refine ⟨A, n, c, els.map (·.2), h1, ⟨?_, h3, h4, h6⟩, fun p hp => ?_⟩
  · rw [mv, flat_length mcell_length, List.length_map, h2]
  · obtain ⟨x, hx, rfl⟩ := List.mem_map.1 hp
    exact (h5 x hx).2.2
theorem tr_week (h : Tr enc Try.prog W 25 cs) : ∃ A n c l, cs = [.slice A n c] ∧ RdP W W.heap.size A n c l := by
  obtain ⟨hl, hf⟩ := h.struct Try.underlying25
  have hl2 : cs.length = 1 := hl
  match cs, hl2 with
  | [a], _ => exact tr_places (hf 0 _ rfl)
theorem tr_version (h : Tr enc Try.prog W 52 cs) : ∃ x : Ver × Value, cs = vcell x.1 x.2 ∧ ∃ A' c', x.2 = .slice A' x.1.week.length c' ∧ RdP W W.heap.size A' x.1.week.length c' x.1.week ∧ okI x.1.no ∧ okI x.1.cost := by
  obtain ⟨hl, hf⟩ := h.struct Try.underlying52
  have hl2 : cs.length = 4 := hl
  match cs, hl2 with
  | [a, b, c, d], _ =>
    obtain ⟨n, h1, ok1⟩ := Tr.i64 (t := 3) Try.underlying3 (hf 0 _ rfl)
    obtain ⟨A, k, ca, l, h2, ok2⟩ := tr_week (hf 1 _ rfl)
    obtain ⟨m, h3, ok3⟩ := Tr.i64 (t := 3) Try.underlying3 (hf 2 _ rfl)
    obtain ⟨q, h4⟩ := Tr.bool (t := 4) Try.underlying4 (hf 3 _ rfl)
    have e1 : [a] = [Value.int .i64 n] := h1
    have e2 : [b] = [Value.slice A k ca] := h2
    have e3 : [c] = [Value.int .i64 m] := h3
    have e4 : [d] = [Value.bool q] := h4
    injection e1 with e1
    injection e2 with e2
    injection e3 with e3
    injection e4 with e4
    subst e1 e2 e3 e4
    have hk := ok2.len
    subst hk
    exact ⟨(⟨n, l, m, q⟩, _), rfl, A, ca, rfl, ok2, ok1, ok3⟩
theorem tr_versions (h : Tr enc Try.prog W 22 cs) : ∃ A n c l, cs = [.slice A n c] ∧ RdV W W.heap.size A n c l := by
  obtain ⟨A, n, c, els, h1, h2, h3, h4, h5, h6⟩ := h.list 4 (fun cs (x : Ver × Value) => cs = vcell x.1 x.2 ∧ ∃ A' c', x.2 = .slice A' x.1.week.length c' ∧ RdP W W.heap.size A' x.1.week.length c' x.1.week ∧ okI x.1.no ∧ okI x.1.cost) Try.underlying22 (by kernel_rfl) (by omega) (fun cs h => tr_version h)
  have hfl : ∀ els : List (List Value × Ver × Value), (∀ x ∈ els, x.1 = vcell x.2.1 x.2.2) → els.flatMap (·.1) = ((els.map (·.2.1)).zip (els.map (·.2.2))).flatMap fun x => vcell x.1 x.2 := fun els he => by
    induction els with
    | nil => rfl
    | cons x r ih => rw [List.flatMap_cons, ih (fun y hy => he y (List.mem_cons_of_mem _ hy)), he x (List.mem_cons_self ..)]; rfl
  rw [hfl els (fun x hx => (h5 x hx).2.1)] at h6
  refine ⟨A, n, c, els.map (·.2.1), h1, els.map (·.2.2), by simp, ⟨?_, h3, h4, h6⟩, fun i v s hi hs => ?_⟩
  · rw [flat_length vcell_length, List.length_zip, List.length_map, List.length_map, h2]; omega
  · rw [List.getElem?_map] at hi hs
    obtain ⟨x, hx, rfl⟩ := Option.map_eq_some_iff.1 hi
    obtain ⟨y, hy, rfl⟩ := Option.map_eq_some_iff.1 hs
    rw [hx] at hy
    injection hy with hy
    subst hy
    exact (h5 x (List.mem_of_getElem? hx)).2.2

theorem arg_versions (hv : Value.okWide Try.prog W r b0 22 v) (h : DataW.Trod enc Try.prog W 0 (fun _ => true) true 22 v d p) : ∃ A n c l, v = .slice A n c ∧ RdV W W.heap.size A n c l := by
  obtain ⟨a0, len0, cap0, rfl⟩ := okWide_slice Try.underlying22 hv
  obtain ⟨A, n, c, l, h1, h2⟩ := tr_versions (Tr.of h)
  have e : [Value.slice a0 len0 cap0] = [.slice A n c] := h1
  injection e with e
  exact ⟨A, n, c, l, e, h2⟩
theorem arg_client (hv : Value.okWide Try.prog W r b0 27 v) (h : DataW.Trod enc Try.prog W 0 (fun _ => true) true 27 v d p) : ∃ no A n c l, v = .agg #[.int .i64 no, .slice A n c] ∧ okI no ∧ RdP W W.heap.size A n c l := by
  obtain ⟨cs, rfl, hsz⟩ := okWide_struct Try.underlying27 hv
  have ht := Tr.of h
  obtain ⟨hl, hf⟩ := Tr.struct Try.underlying27 ht
  obtain ⟨cs⟩ := cs
  have hl2 : cs.length = 2 := hsz
  match cs, hl2 with
  | [a, b], _ =>
    obtain ⟨n, h1, ok1⟩ := Tr.i64 (t := 3) Try.underlying3 (hf 0 _ rfl)
    obtain ⟨A, k, ca, l, h2, ok2⟩ := tr_week (hf 1 _ rfl)
    have e1 : [a] = [Value.int .i64 n] := h1
    have e2 : [b] = [Value.slice A k ca] := h2
    injection e1 with e1
    injection e2 with e2
    subst e1 e2
    exact ⟨n, A, k, ca, l, rfl, ok1, ok2⟩
theorem arg_msg (hv : Value.okWide Try.prog W r b0 32 v) (h : DataW.Trod enc Try.prog W 0 (fun _ => true) true 32 v d p) :
    ∃ x0 x1 x2 x3 A n c l B m k ms, v = .agg #[.int .i64 x0, .int .i64 x1, .int .i64 x2, .int .i64 x3, .slice A n c, .slice B m k] ∧ okI x0 ∧ okI x1 ∧ okI x2 ∧ okI x3 ∧ RdP W W.heap.size A n c l ∧ RdM W W.heap.size B m k ms := by
  obtain ⟨cs, rfl, hsz⟩ := okWide_struct Try.underlying32 hv
  have ht := Tr.of h
  obtain ⟨hl, hf⟩ := Tr.struct Try.underlying32 ht
  obtain ⟨cs⟩ := cs
  have hl2 : cs.length = 6 := hsz
  match cs, hl2 with
  | [a, b, c, d, x, y], _ =>
    obtain ⟨n0, h0, ok0⟩ := Tr.i64 (t := 3) Try.underlying3 (hf 0 _ rfl)
    obtain ⟨n1, h1, ok1⟩ := Tr.i64 (t := 3) Try.underlying3 (hf 1 _ rfl)
    obtain ⟨n2, h2, ok2⟩ := Tr.i64 (t := 3) Try.underlying3 (hf 2 _ rfl)
    obtain ⟨n3, h3, ok3⟩ := Tr.i64 (t := 3) Try.underlying3 (hf 3 _ rfl)
    obtain ⟨A, k, ca, l, h4, ok4⟩ := tr_week (hf 4 _ rfl)
    obtain ⟨B, m, cb, ms, h5, ok5⟩ := tr_moves (hf 5 _ rfl)
    have e0 : [a] = [Value.int .i64 n0] := h0
    have e1 : [b] = [Value.int .i64 n1] := h1
    have e2 : [c] = [Value.int .i64 n2] := h2
    have e3 : [d] = [Value.int .i64 n3] := h3
    have e4 : [x] = [Value.slice A k ca] := h4
    have e5 : [y] = [Value.slice B m cb] := h5
    injection e0 with e0
    injection e1 with e1
    injection e2 with e2
    injection e3 with e3
    injection e4 with e4
    injection e5 with e5
    subst e0 e1 e2 e3 e4 e5
    exact ⟨n0, n1, n2, n3, A, k, ca, l, B, m, cb, ms, rfl, ok0, ok1, ok2, ok3, ok4, ok5⟩
theorem arg_int (hv : Value.okWide Try.prog W r b0 3 v) (h : DataW.Trod enc Try.prog W 0 (fun _ => true) true 3 v d p) : ∃ a : Int, v = .int .i64 a ∧ okI a := by
  obtain ⟨a, rfl, _, _, w1⟩ := open_int Try.underlying3 hv h
  have hb : -9223372036854775808 ≤ a ∧ a ≤ 9223372036854775807 := by simpa [Lit.wf, IntKind.min, IntKind.max, IntKind.signed, IntKind.bits] using w1
  exact ⟨a, rfl, hb⟩
theorem arg_u8 (hv : Value.okWide Try.prog W r b0 5 v) (h : DataW.Trod enc Try.prog W 0 (fun _ => true) true 5 v d p) : ∃ a : Nat, v = .int .u8 (a : Int) ∧ a ≤ 255 := by
  obtain ⟨a, rfl, _, _, w1⟩ := open_int Try.underlying5 hv h
  have hb : 0 ≤ a ∧ a ≤ 255 := by simpa [Lit.wf, IntKind.min, IntKind.max, IntKind.signed, IntKind.bits] using w1
  obtain ⟨n, rfl⟩ := Int.eq_ofNat_of_zero_le hb.1
  exact ⟨n, rfl, by omega⟩
end
end Go.Proofs.Ytmighpfjjaaknaa
