/-
  What the laws' arguments read as.
-/
import Derived.Test.YtfacdoemgalodaaTrodS
import Derived.Test.YtfacdoemgalodaaVer
import Derived.ProofKit
namespace Go.Proofs.Ytfacdoemgalodaa
open Go.RowKit Go.ChangeShapes Go.WideShapes
set_option linter.unusedVariables false
set_option maxRecDepth 100000

section
variable {H : Type} {enc : TypeId × Value → H} {W : World} {cs : List Value} {r : Reach} {b0 : Nat} {v : Value} {d : DataW H} {p : List MemPlace}
theorem tr_bytes (h : Tr enc Try.prog W 22 cs) : ∃ A n c l, cs = [.slice A n c] ∧ RdB W W.heap.size A n c l := by
  obtain ⟨A, n, c, els, h1, h2, h3, h4, h5, h6⟩ := h.list 1 (fun cs (p : UInt8) => cs = [.int .u8 (p.toNat : Int)]) Try.underlying22 (by kernel_rfl) (by omega) (fun cs h => Tr.u8 Try.underlying5 h)
  have hfl : ∀ els : List (List Value × UInt8), (∀ x ∈ els, x.1 = [.int .u8 (x.2.toNat : Int)]) → els.flatMap (·.1) = bv (els.map (·.2)) := fun els he => by
    induction els with
    | nil => rfl
    | cons x r ih => rw [List.flatMap_cons, ih (fun y hy => he y (List.mem_cons_of_mem _ hy)), he x (List.mem_cons_self ..)]; rfl
  rw [hfl els (fun x hx => (h5 x hx).2)] at h6
  refine ⟨A, n, c, els.map (·.2), h1, ⟨?_, h3, h4, fun hp => ?_⟩⟩
  · rw [bv_length, List.length_map, h2]
  · simpa using h6 hp
theorem trs_bytes (h : TrS enc Try.prog W 22 cs) : ∃ A n c l, cs = [.slice A n c] ∧ RdB W W.heap.size A n c l ∧ n ≤ 140737488355328 := by
  obtain ⟨A, n, c, l, h1, h2⟩ := tr_bytes h.tr
  obtain ⟨A', n', c', h3, h4, h5, h6, _⟩ := h.slice Try.underlying22 (by decide +kernel)
  rw [h1] at h3
  injection h3 with h3
  injection h3 with e1 e2 e3
  subst e1 e2 e3
  have hb : Try.prog.bytesOf 5 = 1 := by kernel_rfl
  rw [hb] at h6
  unfold reachBytes at h6
  exact ⟨A, n, c, l, h1, h2, by omega⟩
theorem arg_disk (hv : Value.okWide Try.prog W r b0 24 v) (h : TrS enc Try.prog W 24 v.cells.toList) :
    ∃ A n c s B m d o, v = .agg #[.slice A n c, .slice B m d] ∧ RdB W W.heap.size A n c s ∧ RdB W W.heap.size B m d o ∧ n ≤ 140737488355328 ∧ m ≤ 140737488355328 := by
  obtain ⟨cs, rfl, hsz⟩ := okWide_struct Try.underlying24 hv
  obtain ⟨hl, hf⟩ := TrS.struct Try.underlying24 h
  obtain ⟨cs⟩ := cs
  have hl2 : cs.length = 2 := hsz
  match cs, hl2 with
  | [a, b], _ =>
    obtain ⟨A, n, c, s, h1, ok1, k1⟩ := trs_bytes (hf 0 _ rfl)
    obtain ⟨B, m, d, o, h2, ok2, k2⟩ := trs_bytes (hf 1 _ rfl)
    have e1 : [a] = [Value.slice A n c] := h1
    have e2 : [b] = [Value.slice B m d] := h2
    injection e1 with e1
    injection e2 with e2
    subst e1 e2
    exact ⟨A, n, c, s, B, m, d, o, rfl, ok1, ok2, k1, k2⟩
theorem arg_int (hv : Value.okWide Try.prog W r b0 3 v) (h : DataW.Trod enc Try.prog W 0 (fun _ => true) true 3 v d p) : ∃ a : Int, v = .int .i64 a ∧ okI a := by
  obtain ⟨a, rfl, _, _, w1⟩ := open_int Try.underlying3 hv h
  have hb : -9223372036854775808 ≤ a ∧ a ≤ 9223372036854775807 := by simpa [Lit.wf, IntKind.min, IntKind.max, IntKind.signed, IntKind.bits] using w1
  exact ⟨a, rfl, hb⟩
theorem arg_u8 (hv : Value.okWide Try.prog W r b0 5 v) (h : DataW.Trod enc Try.prog W 0 (fun _ => true) true 5 v d p) : ∃ a : UInt8, v = .int .u8 (a.toNat : Int) := by
  obtain ⟨a, rfl, _, _, w1⟩ := open_int Try.underlying5 hv h
  have hb : 0 ≤ a ∧ a ≤ 255 := by simpa [Lit.wf, IntKind.min, IntKind.max, IntKind.signed, IntKind.bits] using w1
  exact ⟨UInt8.ofNat a.toNat, by rw [show ((UInt8.ofNat a.toNat).toNat : Int) = a from by simp [UInt8.toNat_ofNat']; omega]⟩
theorem tr_place (h : Tr enc Try.prog W 76 cs) : ∃ p : Pl, cs = pcell p ∧ okI p.1 ∧ okI p.2 := by
  obtain ⟨hl, hf⟩ := h.struct Try.underlying76
  have hl2 : cs.length = 2 := hl
  match cs, hl2 with
  | [a, b], _ =>
    obtain ⟨n, h1, ok1⟩ := Tr.i64 (t := 3) Try.underlying3 (hf 0 _ rfl)
    obtain ⟨m, h2, ok2⟩ := Tr.i64 (t := 3) Try.underlying3 (hf 1 _ rfl)
    have e1 : [a] = [Value.int .i64 n] := h1
    have e2 : [b] = [Value.int .i64 m] := h2
    injection e1 with e1
    injection e2 with e2
    subst e1 e2
    exact ⟨(n, m), rfl, ok1, ok2⟩
theorem tr_places (h : Tr enc Try.prog W 38 cs) : ∃ A n c l, cs = [.slice A n c] ∧ RdP W W.heap.size A n c l := by
  obtain ⟨A, n, c, els, h1, h2, h3, h4, h5, h6⟩ := h.list 2 (fun cs (p : Pl) => cs = pcell p ∧ okI p.1 ∧ okI p.2) Try.underlying38 (by kernel_rfl) (by omega) (fun cs h => tr_place h)
  have hfl : ∀ els : List (List Value × Pl), (∀ x ∈ els, x.1 = pcell x.2) → els.flatMap (·.1) = pv (els.map (·.2)) := fun els he => by
    unfold pv
    rw [List.flatMap_map]
    induction els with
    | nil => rfl
    | cons x r ih => rw [List.flatMap_cons, List.flatMap_cons, ih (fun y hy => he y (List.mem_cons_of_mem _ hy)), he x (List.mem_cons_self ..)]
  rw [hfl els (fun x hx => (h5 x hx).2.1)] at h6
  refine ⟨A, n, c, els.map (·.2), h1, ⟨?_, h3, h4, h6⟩, fun p hp => ?_⟩
  · rw [pv, flat_length pcell_length, List.length_map, h2]
  · obtain ⟨x, hx, rfl⟩ := List.mem_map.1 hp
    exact (h5 x hx).2.2
theorem tr_week (h : Tr enc Try.prog W 40 cs) : ∃ A n c l, cs = [.slice A n c] ∧ RdP W W.heap.size A n c l := by
  obtain ⟨hl, hf⟩ := h.struct Try.underlying40
  have hl2 : cs.length = 1 := hl
  match cs, hl2 with
  | [a], _ => exact tr_places (hf 0 _ rfl)
theorem tr_version (h : Tr enc Try.prog W 42 cs) : ∃ x : Ver × Value, cs = vcell x.1 x.2 ∧ ∃ A' c', x.2 = .slice A' x.1.week.length c' ∧ RdP W W.heap.size A' x.1.week.length c' x.1.week ∧ okI x.1.no ∧ okI x.1.cost := by
  obtain ⟨hl, hf⟩ := h.struct Try.underlying42
  have hl2 : cs.length = 4 := hl
  match cs, hl2 with
  | [a, b, c, d], _ =>
    obtain ⟨n, h1, ok1⟩ := Tr.i64 (t := 3) Try.underlying3 (hf 0 _ rfl)
    obtain ⟨A, k, ca, l, h2, ok2⟩ := tr_week (hf 1 _ rfl)
    obtain ⟨m, h3, ok3⟩ := Tr.i64 (t := 3) Try.underlying3 (hf 2 _ rfl)
    obtain ⟨q, h4⟩ := Tr.bool (t := 4) Try.underlying4 (hf 3 _ rfl)
    have e1 : [a] = [Value.int .i64 n] := h1
    have e2 : [b] = [Value.slice A k ca] := h2
    have e3 : [c] = [Value.int .i64 m] := h3
    have e4 : [d] = [Value.bool q] := h4
    injection e1 with e1
    injection e2 with e2
    injection e3 with e3
    injection e4 with e4
    subst e1 e2 e3 e4
    have hk := ok2.len
    subst hk
    exact ⟨(⟨n, l, m, q⟩, _), rfl, A, ca, rfl, ok2, ok1, ok3⟩
theorem tr_versions (h : Tr enc Try.prog W 27 cs) : ∃ A n c l, cs = [.slice A n c] ∧ RdV W W.heap.size A n c l := by
  obtain ⟨A, n, c, els, h1, h2, h3, h4, h5, h6⟩ := h.list 4 (fun cs (x : Ver × Value) => cs = vcell x.1 x.2 ∧ ∃ A' c', x.2 = .slice A' x.1.week.length c' ∧ RdP W W.heap.size A' x.1.week.length c' x.1.week ∧ okI x.1.no ∧ okI x.1.cost) Try.underlying27 (by kernel_rfl) (by omega) (fun cs h => tr_version h)
  have hfl : ∀ els : List (List Value × Ver × Value), (∀ x ∈ els, x.1 = vcell x.2.1 x.2.2) → els.flatMap (·.1) = ((els.map (·.2.1)).zip (els.map (·.2.2))).flatMap fun x => vcell x.1 x.2 := fun els he => by
    induction els with
    | nil => rfl
    | cons x r ih => rw [List.flatMap_cons, ih (fun y hy => he y (List.mem_cons_of_mem _ hy)), he x (List.mem_cons_self ..)]; rfl
  rw [hfl els (fun x hx => (h5 x hx).2.1)] at h6
  refine ⟨A, n, c, els.map (·.2.1), h1, els.map (·.2.2), by simp, ⟨?_, h3, h4, h6⟩, fun i v s hi hs => ?_⟩
  · rw [flat_length vcell_length, List.length_zip, List.length_map, List.length_map, h2]; omega
  · rw [List.getElem?_map] at hi hs
    obtain ⟨x, hx, rfl⟩ := Option.map_eq_some_iff.1 hi
    obtain ⟨y, hy, rfl⟩ := Option.map_eq_some_iff.1 hs
    rw [hx] at hy
    injection hy with hy
    subst hy
    exact (h5 x (List.mem_of_getElem? hx)).2.2
theorem arg_versions (hv : Value.okWide Try.prog W r b0 27 v) (h : DataW.Trod enc Try.prog W 0 (fun _ => true) true 27 v d p) : ∃ A n c l, v = .slice A n c ∧ RdV W W.heap.size A n c l := by
  obtain ⟨a0, len0, cap0, rfl⟩ := okWide_slice Try.underlying27 hv
  obtain ⟨A, n, c, l, h1, h2⟩ := tr_versions (Tr.of h)
  have e : [Value.slice a0 len0 cap0] = [.slice A n c] := h1
  injection e with e
  exact ⟨A, n, c, l, e, h2⟩
theorem arg_version (hv : Value.okWide Try.prog W r b0 42 v) (h : DataW.Trod enc Try.prog W 0 (fun _ => true) true 42 v d p) : ∃ (u : Ver) (A : Option Addr) (c : Nat), v = .agg #[.int .i64 u.no, .slice A u.week.length c, .int .i64 u.cost, .bool u.best] ∧ RdP W W.heap.size A u.week.length c u.week ∧ okI u.no ∧ okI u.cost := by
  obtain ⟨cs, rfl, hsz⟩ := okWide_struct Try.underlying42 hv
  obtain ⟨x, h1, A', c', h2, h3, h4, h5⟩ := tr_version (Tr.of h)
  obtain ⟨cs⟩ := cs
  have e : cs = vcell x.1 x.2 := h1
  rw [h2] at e
  subst e
  exact ⟨x.1, A', c', rfl, h3, h4, h5⟩
end
end Go.Proofs.Ytfacdoemgalodaa
