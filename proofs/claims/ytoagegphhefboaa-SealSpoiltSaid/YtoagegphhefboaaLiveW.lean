/-
  The sanity check of the laws of layer 2.
-/
import Derived.Test.YtoagegphhefboaaRefW
import Derived.Lib.SlBytesConst
namespace Go.Proofs.Ytoagegphhefboaa
open Go.RowKit
set_option linter.unusedVariables false

def digits9 : List UInt8 := [49, 50, 51, 52, 53, 54, 55, 56, 57]
theorem crc_digits : Crc.crc digits9 = 3421780262 := by decide +kernel
theorem frame_nil : frameB [] = [0, 0, 0, 0, 0, 0, 0, 0] := by decide +kernel
theorem open_nil : openI [0, 0, 0, 0, 0, 0, 0, 0] 0 = ⟨0, [], 8⟩ := by kernel_rfl
theorem digits_cells : bv digits9 = [.int .u8 49, .int .u8 50, .int .u8 51, .int .u8 52, .int .u8 53, .int .u8 54, .int .u8 55, .int .u8 56, .int .u8 57] := rfl
theorem zeros_cells : bv [0, 0, 0, 0, 0, 0, 0, 0] = [.int .u8 0, .int .u8 0, .int .u8 0, .int .u8 0, .int .u8 0, .int .u8 0, .int .u8 0, .int .u8 0] := rfl

set_option maxHeartbeats 1000000 in
theorem live2_any (w : World) : Calls Try.prog 12 #[] w fun e w' => e = .returned (.bool true) ∧ Below w.heap.size w w' := by
  have hmk : ∀ w, (Instr.makeSlice 22 (.int .i64 8) (.int .i64 8)).run Try.prog w = .ok (.slice (some ⟨w.heap.size, 0, none⟩) 8 8) (w.alloc (.cells #[.int .u8 0, .int .u8 0, .int .u8 0, .int .u8 0, .int .u8 0, .int .u8 0, .int .u8 0, .int .u8 0] 5)) := fun _ => by kernel_rfl
  go_enter Try.func12, Try.ntmps12
  go_wp2_with fail
  refine (frame_any none 0 0 [] w (RdB.nil w _)).mono ?_
  rintro e w1 (⟨hbad, _⟩ | ⟨_, v1, rfl, hown1, hb1⟩)
  · simp at hbad
  rw [frame_nil] at hown1
  obtain ⟨A1, c1, rfl, hr1⟩ := own_rdB hown1
  go_wp2_with fail
  refine (open_any A1 8 c1 _ 0 w1 hr1 (by omega) (by omega) (by omega)).mono ?_
  rw [open_nil]
  rintro e w2 ⟨v2, rfl, hown2, hb2⟩
  obtain ⟨A2, c2, rfl, hr2⟩ := own_rdB hown2
  have hr1' := (hr1.below hb2).more hb2.size
  have hB2 : Below w.heap.size w w2 := hb1.trans (hb2.mono hb1.size)
  have kc := fun (w : World) (C : Array Value) (n c : Nat) => Go.Lib.run_convert_bytes_const (P := Try.prog) w 22 5 C n c Try.underlying22 Try.underlying5
  have hd : RdB (w2.alloc (.cells #[.int .u8 49, .int .u8 50, .int .u8 51, .int .u8 52, .int .u8 53, .int .u8 54, .int .u8 55, .int .u8 56, .int .u8 57] 5 (9, 10))) (w2.alloc (.cells #[.int .u8 49, .int .u8 50, .int .u8 51, .int .u8 52, .int .u8 53, .int .u8 54, .int .u8 55, .int .u8 56, .int .u8 57] 5 (9, 10))).heap.size (some ⟨w2.heap.size, 0, none⟩) 9 9 digits9 := by
    have := Rd.newF w2 #[.int .u8 49, .int .u8 50, .int .u8 51, .int .u8 52, .int .u8 53, .int .u8 54, .int .u8 55, .int .u8 56, .int .u8 57] 5 (9, 10) 9 rfl (by omega)
    rw [World.size_alloc]
    exact this
  have hr1'' := hr1'.alloc (Nat.le_refl _) (.cells #[.int .u8 49, .int .u8 50, .int .u8 51, .int .u8 52, .int .u8 53, .int .u8 54, .int .u8 55, .int .u8 56, .int .u8 57] 5 (9, 10))
  have hB3 := hB2.alloc hB2.size (.cells #[.int .u8 49, .int .u8 50, .int .u8 51, .int .u8 52, .int .u8 53, .int .u8 54, .int .u8 55, .int .u8 56, .int .u8 57] 5 (9, 10))
  go_wp2_with fail
  refine (sum_any _ 9 9 digits9 _ hd).mono ?_
  rw [crc_digits]
  rintro e w3 ⟨rfl, hb3⟩
  simp only [World.size_alloc] at hb3
  have hr3 := ((hr1''.more (Nat.le_succ _)).below hb3).more (show w2.heap.size + 1 ≤ w3.heap.size from by have := hb3.size; simpa using this)
  have hB4 : Below w.heap.size w w3 := hB3.trans (hb3.mono (by have := hB2.size; omega))
  clear kc hd hr1'' hB3 hb3 hr1' hr1 hB2
  have hz : RdB (w3.alloc (.cells #[.int .u8 0, .int .u8 0, .int .u8 0, .int .u8 0, .int .u8 0, .int .u8 0, .int .u8 0, .int .u8 0] 5)) (w3.heap.size + 1) (some ⟨w3.heap.size, 0, none⟩) 8 8 [0, 0, 0, 0, 0, 0, 0, 0] :=
    Rd.new w3 #[.int .u8 0, .int .u8 0, .int .u8 0, .int .u8 0, .int .u8 0, .int .u8 0, .int .u8 0, .int .u8 0] 5 8 rfl (by omega)
  have hr4 := (hr3.alloc (Nat.le_refl _) (.cells #[.int .u8 0, .int .u8 0, .int .u8 0, .int .u8 0, .int .u8 0, .int .u8 0, .int .u8 0, .int .u8 0] 5)).more (Nat.le_succ _)
  have hB5 := hB4.alloc hB4.size (.cells #[.int .u8 0, .int .u8 0, .int .u8 0, .int .u8 0, .int .u8 0, .int .u8 0, .int .u8 0, .int .u8 0] 5)
  go_wp2_with fail
  refine (same_any A1 _ 8 c1 8 8 _ _ _ (by simpa using hr4) (by simpa using hz)).mono ?_
  rintro e w4 ⟨rfl, rfl⟩
  go_wp2_with fail
  go_ret
  exact ⟨rfl, hB5⟩
end Go.Proofs.Ytoagegphhefboaa
