/-
  PART OF THIS CLAIM'S PROOF.
-/
import Derived.Test.YtndnnndnhnlkdaaGreatDoorRows
set_option linter.unusedVariables false
set_option linter.unusedSimpArgs false
set_option linter.unusedSectionVars false
namespace Go.Proofs.YtndnnndnhnlkdaaGreatDoor
open Go.Proofs.Tryz
open Go
theorem aE4:Tryz.pinned.checked.prog.mainIs=some (true,"8371be38e6d09cbbb4a0d8b0db703afe9272034047d943113dfded6ac587c36e".toList):=by kernel_rfl
end Go.Proofs.YtndnnndnhnlkdaaGreatDoor
