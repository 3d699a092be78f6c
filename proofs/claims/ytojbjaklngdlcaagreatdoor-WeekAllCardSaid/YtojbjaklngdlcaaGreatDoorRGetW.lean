/-
  The reference's GetInt.
-/
import Derived.Test.YtojbjaklngdlcaaGreatDoorProg
import Derived.KernelRfl
import Derived.Test.YtojbjaklngdlcaaGreatDoorBits
namespace Go.Proofs.YtojbjaklngdlcaaGreatDoor
open Go.RowKit
set_option linter.unusedVariables false
set_option linter.unusedSimpArgs false

end Go.Proofs.YtojbjaklngdlcaaGreatDoor
