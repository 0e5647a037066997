/-
  PART OF THIS CLAIM'S PROOF.
-/
import Derived.Test.YtciiopkbmjppfaaGreatDoorRows
set_option linter.unusedVariables false
set_option linter.unusedSimpArgs false
set_option linter.unusedSectionVars false
namespace Go.Proofs.YtciiopkbmjppfaaGreatDoor
open Go.Proofs.Tryz
open Go
theorem aHo:Tryz.pinned.checked.prog.mainIs=some (true,"2014fd8ab8016d835e835ca6b24be09272b113ffd6dce9282fa5aefc86db93f2".toList):=by kernel_rfl
end Go.Proofs.YtciiopkbmjppfaaGreatDoor
