/-
  What an argument that came in reads as, by its type.
-/
import Derived.Test.YtoagegphhefboaaListW
import Derived.Test.YtoagegphhefboaaRows1
import Derived.Deep.Matrix
import Derived.ProofKit
import Derived.OpenShut
namespace Go.Proofs.Ytoagegphhefboaa
open Go.RowKit Go.ChangeShapes Go.WideShapes Go.ChangeAt Go.Deep
set_option linter.unusedVariables false

section
variable {H : Type} {enc : TypeId × Value → H} {W : World} {r : Reach} {b0 : Nat} {v : Value} {d : DataW H} {p : List MemPlace}

theorem arg_bytes (hv : Value.okWide Try.prog W r b0 22 v) (h : DataW.Trod enc Try.prog W 0 (fun _ => true) true 22 v d p) : ∃ A n c l, v = .slice A n c ∧ RdB W W.heap.size A n c l := by
  obtain ⟨a0, len0, cap0, rfl⟩ := okWide_slice Try.underlying22 hv
  obtain ⟨fuel, hf⟩ := h
  rcases open_ints Try.underlying22 Try.underlying5 (by kernel_rfl) hf with ⟨hcs, _⟩ | ⟨x, l, c, zs, hcs, _, hl, hm, hz, _, hcell, hwz⟩
  · simp [Value.cells] at hcs
    obtain ⟨rfl, rfl, rfl⟩ := hcs
    exact ⟨_, _, _, [], rfl, RdB.nil W _⟩
  · simp [Value.cells] at hcs
    obtain ⟨rfl, rfl, rfl⟩ := hcs
    obtain ⟨l, hl'⟩ := isRow_bytes (w := W) (a := some x) (.inr ⟨_, rfl, hl, hm, by simpa using hz, hcell, hwz⟩)
    exact ⟨_, _, _, l, rfl, hl'⟩

theorem arg_bytess (hv : Value.okWide Try.prog W r b0 37 v) (h : DataW.Trod enc Try.prog W 0 (fun _ => true) true 37 v d p) : ∃ A n c ls, v = .slice A n c ∧ RdBB W W.heap.size A n c ls := by
  obtain ⟨a0, len0, cap0, rfl⟩ := okWide_slice Try.underlying37 hv
  obtain ⟨fuel, hf⟩ := h
  rcases open_int_rows Try.underlying37 Try.underlying22 Try.underlying5 (by kernel_rfl) (by kernel_rfl) hf with ⟨hcs, _⟩ | ⟨x, len, cap, A, L, C, Z, hcs, _, hl, hm, _, hrow⟩
  · simp [Value.cells] at hcs
    obtain ⟨rfl, rfl, rfl⟩ := hcs
    exact ⟨_, _, _, [], rfl, rfl, [], Rd.nil W _, fun i l hi => by simp at hi⟩
  · simp [Value.cells] at hcs
    obtain ⟨rfl, rfl, rfl⟩ := hcs
    have each : ∀ i, i < cap0 → ∃ l, RdB W W.heap.size (A i) (L i) (C i) l := by
      intro i hi
      obtain ⟨hc, h1, h2, h3, h4, h5, h6⟩ := hrow i hi
      refine isRow_bytes (zs := Z i) ?_
      cases hA : A i with
      | none =>
        have := h5 hA
        exact .inl ⟨rfl, by omega, this, List.eq_nil_of_length_eq_zero (by omega)⟩
      | some a' => exact .inr ⟨a', rfl, h1, h2, h3, fun j hj => (h6 a' hA).2 j (by omega), h4⟩
    have hex : ∃ f : Nat → List UInt8, ∀ i, i < cap0 → RdB W W.heap.size (A i) (L i) (C i) (f i) :=
      ⟨fun i => if h : i < cap0 then Classical.choose (each i h) else [], fun i hi => by simp only [hi, dif_pos]; exact Classical.choose_spec (each i hi)⟩
    obtain ⟨f, hf'⟩ := hex
    refine ⟨_, _, _, (List.range len0).map f, rfl, by simp, (List.range len0).map (fun i => .slice (A i) (L i) (C i)), ⟨by simp, hl, hm, fun hn => ⟨x, rfl, ?_, fun j u hu => ?_⟩⟩, fun i l hi => ?_⟩
    · have := World.block_lt_of_cell? W (x.add 0) (hrow 0 (by omega)).1
      rwa [add_block] at this
    · rw [List.getElem?_map] at hu
      obtain ⟨k, hk, rfl⟩ := Option.map_eq_some_iff.1 hu
      obtain ⟨hk1, rfl⟩ := List.getElem?_eq_some_iff.1 hk
      simp at hk1 ⊢
      exact (hrow j (by omega)).1
    · rw [List.getElem?_map] at hi
      obtain ⟨k, hk, rfl⟩ := Option.map_eq_some_iff.1 hi
      obtain ⟨hk1, rfl⟩ := List.getElem?_eq_some_iff.1 hk
      simp at hk1
      have hr := hf' i (by omega)
      have hlen := hr.len
      refine ⟨A i, C i, ?_, ?_⟩
      · simp [hk1, hlen]
      · simp only [List.getElem_range]; rw [hlen]; exact hr

theorem arg_int (hv : Value.okWide Try.prog W r b0 3 v) (h : DataW.Trod enc Try.prog W 0 (fun _ => true) true 3 v d p) : ∃ a : Int, v = .int .i64 a ∧ -9223372036854775808 ≤ a ∧ a ≤ 9223372036854775807 := by
  obtain ⟨a, rfl, _, _, w1⟩ := open_int Try.underlying3 hv h
  have hb : -9223372036854775808 ≤ a ∧ a ≤ 9223372036854775807 := by simpa [Lit.wf, IntKind.min, IntKind.max, IntKind.signed, IntKind.bits] using w1
  exact ⟨a, rfl, hb.1, hb.2⟩
theorem arg_u8 (hv : Value.okWide Try.prog W r b0 5 v) (h : DataW.Trod enc Try.prog W 0 (fun _ => true) true 5 v d p) : ∃ a : UInt8, v = .int .u8 (a.toNat : Int) := by
  obtain ⟨a, rfl, _, _, w1⟩ := open_int Try.underlying5 hv h
  have hb := wf_u8 w1
  exact ⟨UInt8.ofNat a.toNat, by rw [show ((UInt8.ofNat a.toNat).toNat : Int) = a from by simp [UInt8.toNat_ofNat']; omega]⟩
end
end Go.Proofs.Ytoagegphhefboaa
