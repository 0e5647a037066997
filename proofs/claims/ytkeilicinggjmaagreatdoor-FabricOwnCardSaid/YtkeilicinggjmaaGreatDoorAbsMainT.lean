/-
  PART OF THIS CLAIM'S PROOF.
-/
import Derived.Test.YtkeilicinggjmaaGreatDoorRows
set_option linter.unusedVariables false
set_option linter.unusedSimpArgs false
set_option linter.unusedSectionVars false
namespace Go.Proofs.YtkeilicinggjmaaGreatDoor
open Go.Proofs.Tryz
open Go
theorem Ly:Tryz.pinned.checked.prog.mainIs=some (true,"255e3e5681ae386412456c20253e29dfeb1992f5f284414a713a9b6bb7a43280".toList):=by kernel_rfl
end Go.Proofs.YtkeilicinggjmaaGreatDoor
