/-
  DERIVED. GIVEN WITH THE SEED: THE CARDS: each row of YtkeilicinggjmaaGreatDoorRows.lean that lists a variable, with what it lists TIED to the program's text (the seventh form; the later family's looks); each row that meets fmt, with fmt's text TOLD by the authors' own Lean function (tested against real Go, not proved from fmt's source: count such statements apart). THE CARD IS WHAT COUNTS. Prove the row's statement (the work); the ties are given (YtkeilicinggjmaaGreatDoorTie.lean); close each card by the builder's one call (the guide's Derived/Test/ToyasCard.lean, 'card_holds'). Laid BY PROGRAM, IN A SANDBOX (cutbox-door.mjs). By AI agents, Wed Nov 11 2026. No macro, syntax, notation, axiom, sorry.
-/
import Derived.Test.YtkeilicinggjmaaGreatDoorRows
import GoSem.ClaimSeven
namespace Go.Proofs.YtkeilicinggjmaaGreatDoor
namespace Rows

/-- THE TIED CARD OF 'shunterlaw16.NodeTells'. -/
def nodeTellsCard : Claim7 := { stood := { row := nodeTellsRow, standIns := [], harness := (true, "255e3e5681ae386412456c20253e29dfeb1992f5f284414a713a9b6bb7a43280"), looks := false }, kinds := [], alts := [], laidByText := true, laidKinds := [.data], laidTests := true, laidLooks := .later }
def NodeTellsCardSaid : Prop := Claim7.holds Tryz.pinned (.plain (OpenSpec.ofChange nodeTellsSpec)) nodeTellsCard

/-- THE TIED CARD OF 'shunterlaw16.NodePlans'. -/
def nodePlansCard : Claim7 := { stood := { row := nodePlansRow, standIns := [], harness := (true, "255e3e5681ae386412456c20253e29dfeb1992f5f284414a713a9b6bb7a43280"), looks := false }, kinds := [], alts := [], laidByText := true, laidKinds := [.data], laidTests := true, laidLooks := .later }
def NodePlansCardSaid : Prop := Claim7.holds Tryz.pinned (.plain (OpenSpec.ofChange nodePlansSpec)) nodePlansCard

/-- THE TIED CARD OF 'shunterlaw16.NodePasses'. -/
def nodePassesCard : Claim7 := { stood := { row := nodePassesRow, standIns := [], harness := (true, "255e3e5681ae386412456c20253e29dfeb1992f5f284414a713a9b6bb7a43280"), looks := false }, kinds := [], alts := [], laidByText := true, laidKinds := [.data], laidTests := true, laidLooks := .later }
def NodePassesCardSaid : Prop := Claim7.holds Tryz.pinned (.plain (OpenSpec.ofChange nodePassesSpec)) nodePassesCard

/-- THE TIED CARD OF 'shunterlaw17.FabricOwn'. -/
def fabricOwnCard : Claim7 := { stood := { row := fabricOwnRow, standIns := [], harness := (true, "255e3e5681ae386412456c20253e29dfeb1992f5f284414a713a9b6bb7a43280"), looks := false }, kinds := [], alts := [], laidByText := true, laidKinds := [.data], laidTests := true, laidLooks := .later }
def FabricOwnCardSaid : Prop := Claim7.holds Tryz.pinned (.plain (OpenSpec.ofChange fabricOwnSpec)) fabricOwnCard

/-- THE TIED CARD OF 'shunterlaw17.FabricIdle'. -/
def fabricIdleCard : Claim7 := { stood := { row := fabricIdleRow, standIns := [], harness := (true, "255e3e5681ae386412456c20253e29dfeb1992f5f284414a713a9b6bb7a43280"), looks := false }, kinds := [], alts := [], laidByText := true, laidKinds := [.data], laidTests := true, laidLooks := .later }
def FabricIdleCardSaid : Prop := Claim7.holds Tryz.pinned (.plain (OpenSpec.ofChange fabricIdleSpec)) fabricIdleCard

/-- THE TIED CARD OF 'shunterlaw17.FabricStraight'. -/
def fabricStraightCard : Claim7 := { stood := { row := fabricStraightRow, standIns := [], harness := (true, "255e3e5681ae386412456c20253e29dfeb1992f5f284414a713a9b6bb7a43280"), looks := false }, kinds := [], alts := [], laidByText := true, laidKinds := [.data], laidTests := true, laidLooks := .later }
def FabricStraightCardSaid : Prop := Claim7.holds Tryz.pinned (.plain (OpenSpec.ofChange fabricStraightSpec)) fabricStraightCard

/-- THE TIED CARD OF 'shunterlaw17.FabricArgs'. -/
def fabricArgsCard : Claim7 := { stood := { row := fabricArgsRow, standIns := [], harness := (true, "255e3e5681ae386412456c20253e29dfeb1992f5f284414a713a9b6bb7a43280"), looks := false }, kinds := [], alts := [], laidByText := true, laidKinds := [.data], laidTests := true, laidLooks := .later }
def FabricArgsCardSaid : Prop := Claim7.holds Tryz.pinned (.plain (OpenSpec.ofChange fabricArgsSpec)) fabricArgsCard

/-- THE SECOND FORM's CARD OF 'shunterlaw16.NodeTells'. -/
def nodeTellsUptoCard : Claim7 := { stood := { row := nodeTellsUptoRow, standIns := [], harness := (true, "255e3e5681ae386412456c20253e29dfeb1992f5f284414a713a9b6bb7a43280"), looks := false }, kinds := [], alts := [], laidByText := true, laidKinds := [.data], laidTests := true, laidLooks := .later }
def NodeTellsUptoCardSaid : Prop := Claim7.holds Tryz.pinned (.plain (OpenSpec.upto nodeTellsSpec)) nodeTellsUptoCard

/-- THE SECOND FORM's CARD OF 'shunterlaw16.NodePlans'. -/
def nodePlansUptoCard : Claim7 := { stood := { row := nodePlansUptoRow, standIns := [], harness := (true, "255e3e5681ae386412456c20253e29dfeb1992f5f284414a713a9b6bb7a43280"), looks := false }, kinds := [], alts := [], laidByText := true, laidKinds := [.data], laidTests := true, laidLooks := .later }
def NodePlansUptoCardSaid : Prop := Claim7.holds Tryz.pinned (.plain (OpenSpec.upto nodePlansSpec)) nodePlansUptoCard

/-- THE SECOND FORM's CARD OF 'shunterlaw16.NodePasses'. -/
def nodePassesUptoCard : Claim7 := { stood := { row := nodePassesUptoRow, standIns := [], harness := (true, "255e3e5681ae386412456c20253e29dfeb1992f5f284414a713a9b6bb7a43280"), looks := false }, kinds := [], alts := [], laidByText := true, laidKinds := [.data], laidTests := true, laidLooks := .later }
def NodePassesUptoCardSaid : Prop := Claim7.holds Tryz.pinned (.plain (OpenSpec.upto nodePassesSpec)) nodePassesUptoCard

/-- THE SECOND FORM's CARD OF 'shunterlaw17.FabricOwn'. -/
def fabricOwnUptoCard : Claim7 := { stood := { row := fabricOwnUptoRow, standIns := [], harness := (true, "255e3e5681ae386412456c20253e29dfeb1992f5f284414a713a9b6bb7a43280"), looks := false }, kinds := [], alts := [], laidByText := true, laidKinds := [.data], laidTests := true, laidLooks := .later }
def FabricOwnUptoCardSaid : Prop := Claim7.holds Tryz.pinned (.plain (OpenSpec.upto fabricOwnSpec)) fabricOwnUptoCard

/-- THE SECOND FORM's CARD OF 'shunterlaw17.FabricIdle'. -/
def fabricIdleUptoCard : Claim7 := { stood := { row := fabricIdleUptoRow, standIns := [], harness := (true, "255e3e5681ae386412456c20253e29dfeb1992f5f284414a713a9b6bb7a43280"), looks := false }, kinds := [], alts := [], laidByText := true, laidKinds := [.data], laidTests := true, laidLooks := .later }
def FabricIdleUptoCardSaid : Prop := Claim7.holds Tryz.pinned (.plain (OpenSpec.upto fabricIdleSpec)) fabricIdleUptoCard

/-- THE SECOND FORM's CARD OF 'shunterlaw17.FabricStraight'. -/
def fabricStraightUptoCard : Claim7 := { stood := { row := fabricStraightUptoRow, standIns := [], harness := (true, "255e3e5681ae386412456c20253e29dfeb1992f5f284414a713a9b6bb7a43280"), looks := false }, kinds := [], alts := [], laidByText := true, laidKinds := [.data], laidTests := true, laidLooks := .later }
def FabricStraightUptoCardSaid : Prop := Claim7.holds Tryz.pinned (.plain (OpenSpec.upto fabricStraightSpec)) fabricStraightUptoCard

/-- THE SECOND FORM's CARD OF 'shunterlaw17.FabricArgs'. -/
def fabricArgsUptoCard : Claim7 := { stood := { row := fabricArgsUptoRow, standIns := [], harness := (true, "255e3e5681ae386412456c20253e29dfeb1992f5f284414a713a9b6bb7a43280"), looks := false }, kinds := [], alts := [], laidByText := true, laidKinds := [.data], laidTests := true, laidLooks := .later }
def FabricArgsUptoCardSaid : Prop := Claim7.holds Tryz.pinned (.plain (OpenSpec.upto fabricArgsSpec)) fabricArgsUptoCard
end Rows
end Go.Proofs.YtkeilicinggjmaaGreatDoor
