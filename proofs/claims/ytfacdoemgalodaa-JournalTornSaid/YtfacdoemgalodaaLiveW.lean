/-
  The sanity check of the laws of layer 2.
-/
import Derived.Test.YtfacdoemgalodaaRefW
import Derived.Lib.SlBytesConst
namespace Go.Proofs.Ytfacdoemgalodaa
open Go.RowKit
set_option linter.unusedVariables false

def digits9 : List UInt8 := [49, 50, 51, 52, 53, 54, 55, 56, 57]
theorem crc_digits : Crc.crc digits9 = 3421780262 := by decide +kernel
theorem frame_nil : frameB [] = [0, 0, 0, 0, 0, 0, 0, 0] := by decide +kernel
theorem open_nil : openI [0, 0, 0, 0, 0, 0, 0, 0] 0 = ⟨0, [], 8⟩ := by kernel_rfl
theorem digits_cells : bv digits9 = [.int .u8 49, .int .u8 50, .int .u8 51, .int .u8 52, .int .u8 53, .int .u8 54, .int .u8 55, .int .u8 56, .int .u8 57] := rfl
theorem zeros_cells : bv [0, 0, 0, 0, 0, 0, 0, 0] = [.int .u8 0, .int .u8 0, .int .u8 0, .int .u8 0, .int .u8 0, .int .u8 0, .int .u8 0, .int .u8 0] := rfl

end Go.Proofs.Ytfacdoemgalodaa
