/-
  PART OF THIS CLAIM'S PROOF.
-/
import Derived.Test.YtmimdleeihjdoaaGreatDoorRows
set_option linter.unusedVariables false
set_option linter.unusedSimpArgs false
set_option linter.unusedSectionVars false
namespace Go.Proofs.YtmimdleeihjdoaaGreatDoor
open Go.Proofs.Tryz
open Go
theorem Sp:Tryz.pinned.checked.prog.mainIs=some (true,"7d92180c8c808a9160a8b6506553a7c67555d704ab9f23fc27fe7a2ead928584".toList):=by kernel_rfl
end Go.Proofs.YtmimdleeihjdoaaGreatDoor
