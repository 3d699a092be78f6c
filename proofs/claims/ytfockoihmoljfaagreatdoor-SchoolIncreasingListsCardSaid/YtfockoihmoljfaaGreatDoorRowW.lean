/-
  The walks of row, of its closure, and of each over a list of empty structs.
-/
import Derived.Test.YtfockoihmoljfaaGreatDoorLotN
import Derived.Test.YtfockoihmoljfaaGreatDoorShelf
import Derived.Stop.RegionWithIn
namespace Go.Proofs.YtfockoihmoljfaaGreatDoor
open Go.RowKit Go.Shelf
set_option linter.unusedVariables false
set_option linter.unusedSimpArgs false
attribute [local go_sem] Oper.semAt_some
theorem srow_any (word : ByteArray) (y : Value) (hy : y.oneCell' = true) (w : World) :
    Calls Tryz.prog 99 #[.string word, y] w fun e w' => e = .returned (.func (.func 127) #[] #[.pointer (some ⟨w.heap.size + 1, 0, none⟩), .pointer (some ⟨w.heap.size, 0, none⟩)]) ∧ w' = (w.alloc (.cells #[.string word] 9)).alloc (.cells #[y] 125) := by
  go_enter Tryz.func99, Tryz.ntmps99
  go_wp2
  go_ret
  exact ⟨rfl, rfl⟩

set_option maxRecDepth 100000 in
set_option maxHeartbeats 4000000 in
theorem srow1_in (l0 bW bY i : Nat) (word nm s : ByteArray) (hi : i < 10) (W : World) (b1 : W.heap[bW]? = some (.cells #[.string word] 9)) (b2 : W.heap[bY]? = some (.cells #[.func (.yield l0) #[] #[]] 125))
    (dg : ByteArray) (hd : (⟨(Lib.decDigits i).toArray⟩ : ByteArray) = dg) (hn : word ++ dg = nm) (hz : word.size ≤ 100 ∧ dg.size ≤ 100) (Z : Bool → World → Prop)
    (hY : YieldAt Fence.wide 1 Tryz.prog l0 #[.int .i64 (i : Int), .string nm] W.drew fun e W' => ∃ b, e = .returned (.bool b) ∧ Z b W') :
    CallsIn Fence.wide 2 Tryz.prog 127 #[.int .i64 (i : Int), .string s, .pointer (some ⟨bY, 0, none⟩), .pointer (some ⟨bW, 0, none⟩)] W fun e W' => ∃ b, e = .returned (.bool b) ∧ Z b W' := by
  obtain ⟨hz1, hz2⟩ := hz
  have z1 : decide (9223372036854775807 < (word.size : Int) + (dg.size : Int)) = false := by simp; omega
  have z2 : ¬ (9223372036854775807 < (word.size : Int) + (dg.size : Int)) := by omega
  have z3 : ¬ (9223372036854775807 < word.size + dg.size) := by omega
  obtain ⟨fn, tmps, assign, body, hy, hR⟩ := hY
  have HR := Lib.hid hR
  clear hR
  have c1 := blk_cell (j := 0) b1
  have c2 := blk_cell (j := 0) b2
  simp only [List.getElem?_toArray, List.getElem?_cons_zero] at c1 c2
  refine callsIn_of_wp Tryz.func127 rfl trivial ?_ rfl
  simp only [Tryz.ntmps127, List.size_toArray, List.length_cons, List.length_nil, Nat.reduceAdd, Nat.reduceSub, Array.replicate_succ, Array.replicate_zero, List.push_toArray, List.append_toArray, List.nil_append, List.cons_append]
  gi_wp2
  gi_region_with (first | (refine ⟨trivial, CallsIn.mono (callsIn_wide.2 (Tryz.strconv_Itoa_small i (by omega) _)) ?_⟩; rintro e w' ⟨rfl, rfl⟩; rw [hd]) | (refine HR.out.mono ?_; rintro e w' ⟨b, rfl, hz⟩))
  all_goals gi_wp2
  all_goals (first | (go_ret; exact ⟨b, rfl, hz⟩) | skip)
  done

end Go.Proofs.YtfockoihmoljfaaGreatDoor
