/-
  What the laws' arguments read as.
-/
import Derived.Test.YtgklnkholflabaaTrod
import Derived.Test.YtgklnkholflabaaLiveW
import Derived.ProofKit
namespace Go.Proofs.Ytgklnkholflabaa
open Go.RowKit Go.ChangeShapes Go.WideShapes
set_option linter.unusedVariables false

section
variable {H : Type} {enc : TypeId × Value → H} {W : World} {cs : List Value} {r : Reach} {b0 : Nat} {v : Value} {d : DataW H} {p : List MemPlace}
theorem tr_bytes (h : Tr enc Try.prog W 22 cs) : ∃ A n c l, cs = [.slice A n c] ∧ RdB W W.heap.size A n c l := by
  obtain ⟨A, n, c, els, h1, h2, h3, h4, h5, h6⟩ := h.list 1 (fun cs (p : UInt8) => cs = [.int .u8 (p.toNat : Int)]) Try.underlying22 (by kernel_rfl) (by omega) (fun cs h => Tr.u8 Try.underlying5 h)
  have hfl : ∀ els : List (List Value × UInt8), (∀ x ∈ els, x.1 = [.int .u8 (x.2.toNat : Int)]) → els.flatMap (·.1) = bv (els.map (·.2)) := fun els he => by
    induction els with
    | nil => rfl
    | cons x r ih => rw [List.flatMap_cons, ih (fun y hy => he y (List.mem_cons_of_mem _ hy)), he x (List.mem_cons_self ..)]; rfl
  rw [hfl els (fun x hx => (h5 x hx).2)] at h6
  refine ⟨A, n, c, els.map (·.2), h1, ⟨?_, h3, h4, fun hp => ?_⟩⟩
  · rw [bv_length, List.length_map, h2]
  · simpa using h6 hp
theorem tr_ints (h : Tr enc Try.prog W 34 cs) : ∃ A n c l, cs = [.slice A n c] ∧ RdI W W.heap.size A n c l := by
  obtain ⟨A, n, c, els, h1, h2, h3, h4, h5, h6⟩ := h.list 1 (fun cs (p : Int) => cs = [.int .i64 p] ∧ -9223372036854775808 ≤ p ∧ p ≤ 9223372036854775807) Try.underlying34 (by kernel_rfl) (by omega) (fun cs h => Tr.i64 Try.underlying3 h)
  have hfl : ∀ els : List (List Value × Int), (∀ x ∈ els, x.1 = [.int .i64 x.2]) → els.flatMap (·.1) = iv (els.map (·.2)) := fun els he => by
    induction els with
    | nil => rfl
    | cons x r ih => rw [List.flatMap_cons, ih (fun y hy => he y (List.mem_cons_of_mem _ hy)), he x (List.mem_cons_self ..)]; rfl
  rw [hfl els (fun x hx => (h5 x hx).2.1)] at h6
  refine ⟨A, n, c, els.map (·.2), h1, ⟨?_, h3, h4, fun hp => ?_⟩, fun p hp => ?_⟩
  · rw [iv_length, List.length_map, h2]
  · simpa using h6 hp
  · obtain ⟨x, hx, rfl⟩ := List.mem_map.1 hp
    exact (h5 x hx).2.2
theorem arg_bytes (hv : Value.okWide Try.prog W r b0 22 v) (h : DataW.Trod enc Try.prog W 0 (fun _ => true) true 22 v d p) : ∃ A n c l, v = .slice A n c ∧ RdB W W.heap.size A n c l := by
  obtain ⟨a0, len0, cap0, rfl⟩ := okWide_slice Try.underlying22 hv
  obtain ⟨A, n, c, l, h1, h2⟩ := tr_bytes (Tr.of h)
  have e : [Value.slice a0 len0 cap0] = [.slice A n c] := h1
  injection e with e
  exact ⟨A, n, c, l, e, h2⟩
theorem arg_ints (hv : Value.okWide Try.prog W r b0 34 v) (h : DataW.Trod enc Try.prog W 0 (fun _ => true) true 34 v d p) : ∃ A n c l, v = .slice A n c ∧ RdI W W.heap.size A n c l := by
  obtain ⟨a0, len0, cap0, rfl⟩ := okWide_slice Try.underlying34 hv
  obtain ⟨A, n, c, l, h1, h2⟩ := tr_ints (Tr.of h)
  have e : [Value.slice a0 len0 cap0] = [.slice A n c] := h1
  injection e with e
  exact ⟨A, n, c, l, e, h2⟩
theorem arg_int (hv : Value.okWide Try.prog W r b0 3 v) (h : DataW.Trod enc Try.prog W 0 (fun _ => true) true 3 v d p) : ∃ a : Int, v = .int .i64 a ∧ -9223372036854775808 ≤ a ∧ a ≤ 9223372036854775807 := by
  obtain ⟨a, rfl, _, _, w1⟩ := open_int Try.underlying3 hv h
  have hb : -9223372036854775808 ≤ a ∧ a ≤ 9223372036854775807 := by simpa [Lit.wf, IntKind.min, IntKind.max, IntKind.signed, IntKind.bits] using w1
  exact ⟨a, rfl, hb⟩
theorem arg_string (hv : Value.okWide Try.prog W r b0 9 v) (h : DataW.Trod enc Try.prog W 0 (fun _ => true) true 9 v d p) : ∃ s : ByteArray, v = .string s ∧ s.size ≤ 9223372036854775807 := by
  obtain ⟨s, rfl, _, _, hs⟩ := Go.ChangeMaps.open_string Try.underlying9 hv h
  exact ⟨s, rfl, by unfold maxLen at hs; omega⟩
end
end Go.Proofs.Ytgklnkholflabaa
