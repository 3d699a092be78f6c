/-
  What a slice of bytes that came in reads as.
-/
import Derived.Test.YtoagegphhefboaaMem
namespace Go.Proofs.Ytoagegphhefboaa
open Go.RowKit

/-- A slice of integers that came in: nil, or a row of 'cap' cells whose numbers fit their kind. -/
def IsRow (k : IntKind) (w : World) (a : Option Addr) (len cap : Nat) (zs : List Int) : Prop :=
  (a = none ∧ len = 0 ∧ cap = 0 ∧ zs = []) ∨
  ∃ x, a = some x ∧ len ≤ cap ∧ cap ≤ maxLen ∧ zs.length = cap ∧ (∀ i, i < zs.length → w.cell? (x.add i) = some (.int k (zs.getD i 0))) ∧ ∀ n ∈ zs, (Lit.int k n).wf = true

theorem wf_u8 {n : Int} (h : (Lit.int .u8 n).wf = true) : 0 ≤ n ∧ n ≤ 255 := by
  simpa [Lit.wf, IntKind.min, IntKind.max, IntKind.signed, IntKind.bits] using h

theorem isRow_bytes {w : World} {a : Option Addr} {len cap : Nat} {zs : List Int} (h : IsRow .u8 w a len cap zs) : ∃ l, RdB w w.heap.size a len cap l := by
  rcases h with ⟨rfl, rfl, rfl, rfl⟩ | ⟨x, rfl, hl, hm, hz, hc, hw⟩
  · exact ⟨[], RdB.nil w _⟩
  · refine ⟨(zs.take len).map fun n => UInt8.ofNat n.toNat, ?_, hl, hm, fun hn => ⟨x, rfl, ?_, fun j u hu => ?_⟩⟩
    · rw [bv_length, List.length_map, List.length_take]; omega
    · have := World.block_lt_of_cell? w (x.add 0) (hc 0 (by omega))
      rwa [add_block] at this
    · unfold bv at hu
      rw [List.map_map, List.getElem?_map, List.getElem?_take] at hu
      by_cases hj : j < len
      · have hjz : j < zs.length := by omega
        rw [if_pos hj, List.getElem?_eq_getElem hjz, Option.map_some] at hu
        injection hu with hu
        rw [hc j hjz, ← hu, List.getD_eq_getElem?_getD, List.getElem?_eq_getElem hjz, Option.getD_some]
        have hb := wf_u8 (hw zs[j] (List.getElem_mem hjz))
        simp only [Function.comp_apply, bcell]
        rw [show ((UInt8.ofNat zs[j].toNat).toNat : Int) = zs[j] from by simp [UInt8.toNat_ofNat']; omega]
      · rw [if_neg hj] at hu
        simp at hu
end Go.Proofs.Ytoagegphhefboaa
