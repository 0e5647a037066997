/-
  DERIVED. GIVEN WITH THE SEED: THE CARDS: each row of YtmimdleeihjdoaaGreatDoorRows.lean that lists a variable, with what it lists TIED to the program's text (the seventh form; the later family's looks); each row that meets fmt, with fmt's text TOLD by the authors' own Lean function (tested against real Go, not proved from fmt's source: count such statements apart). THE CARD IS WHAT COUNTS. Prove the row's statement (the work); the ties are given (YtmimdleeihjdoaaGreatDoorTie.lean); close each card by the builder's one call (the guide's Derived/Test/ToyasCard.lean, 'card_holds'). Laid BY PROGRAM, IN A SANDBOX (cutbox-door.mjs). By AI agents, Wed Nov 11 2026. No macro, syntax, notation, axiom, sorry.
-/
import Derived.Test.YtmimdleeihjdoaaGreatDoorRows
import GoSem.ClaimSeven
namespace Go.Proofs.YtmimdleeihjdoaaGreatDoor
namespace Rows

/-- THE TIED CARD OF 'shuntertop.TopRoom'. -/
def topRoomCard : Claim7 := { stood := { row := topRoomRow, standIns := [], harness := (true, "7d92180c8c808a9160a8b6506553a7c67555d704ab9f23fc27fe7a2ead928584"), looks := false }, kinds := [], alts := [], laidByText := true, laidKinds := [.data], laidTests := true, laidLooks := .later }
def TopRoomCardSaid : Prop := Claim7.holds Tryz.pinned (.plain (OpenSpec.ofChange topRoomSpec)) topRoomCard

/-- THE TIED CARD OF 'shuntertop.TopExact'. -/
def topExactCard : Claim7 := { stood := { row := topExactRow, standIns := [], harness := (true, "7d92180c8c808a9160a8b6506553a7c67555d704ab9f23fc27fe7a2ead928584"), looks := false }, kinds := [], alts := [], laidByText := true, laidKinds := [.data], laidTests := true, laidLooks := .later }
def TopExactCardSaid : Prop := Claim7.holds Tryz.pinned (.plain (OpenSpec.ofChange topExactSpec)) topExactCard

/-- THE TIED CARD OF 'shuntertop.TopRegains'. -/
def topRegainsCard : Claim7 := { stood := { row := topRegainsRow, standIns := [], harness := (true, "7d92180c8c808a9160a8b6506553a7c67555d704ab9f23fc27fe7a2ead928584"), looks := false }, kinds := [], alts := [], laidByText := true, laidKinds := [.data], laidTests := true, laidLooks := .later }
def TopRegainsCardSaid : Prop := Claim7.holds Tryz.pinned (.plain (OpenSpec.ofChange topRegainsSpec)) topRegainsCard

/-- THE TIED CARD OF 'shunterlaw16.NodeInjects'. -/
def nodeInjectsCard : Claim7 := { stood := { row := nodeInjectsRow, standIns := [], harness := (true, "7d92180c8c808a9160a8b6506553a7c67555d704ab9f23fc27fe7a2ead928584"), looks := false }, kinds := [], alts := [], laidByText := true, laidKinds := [.data], laidTests := true, laidLooks := .later }
def NodeInjectsCardSaid : Prop := Claim7.holds Tryz.pinned (.plain (OpenSpec.ofChange nodeInjectsSpec)) nodeInjectsCard

/-- THE TIED CARD OF 'shunterlaw16.NodeTells'. -/
def nodeTellsCard : Claim7 := { stood := { row := nodeTellsRow, standIns := [], harness := (true, "7d92180c8c808a9160a8b6506553a7c67555d704ab9f23fc27fe7a2ead928584"), looks := false }, kinds := [], alts := [], laidByText := true, laidKinds := [.data], laidTests := true, laidLooks := .later }
def NodeTellsCardSaid : Prop := Claim7.holds Tryz.pinned (.plain (OpenSpec.ofChange nodeTellsSpec)) nodeTellsCard

/-- THE TIED CARD OF 'shunterlaw16.NodePlans'. -/
def nodePlansCard : Claim7 := { stood := { row := nodePlansRow, standIns := [], harness := (true, "7d92180c8c808a9160a8b6506553a7c67555d704ab9f23fc27fe7a2ead928584"), looks := false }, kinds := [], alts := [], laidByText := true, laidKinds := [.data], laidTests := true, laidLooks := .later }
def NodePlansCardSaid : Prop := Claim7.holds Tryz.pinned (.plain (OpenSpec.ofChange nodePlansSpec)) nodePlansCard

/-- THE TIED CARD OF 'shunterlaw16.NodePasses'. -/
def nodePassesCard : Claim7 := { stood := { row := nodePassesRow, standIns := [], harness := (true, "7d92180c8c808a9160a8b6506553a7c67555d704ab9f23fc27fe7a2ead928584"), looks := false }, kinds := [], alts := [], laidByText := true, laidKinds := [.data], laidTests := true, laidLooks := .later }
def NodePassesCardSaid : Prop := Claim7.holds Tryz.pinned (.plain (OpenSpec.ofChange nodePassesSpec)) nodePassesCard

/-- THE TIED CARD OF 'shunterlaw16.NodeRefuses'. -/
def nodeRefusesCard : Claim7 := { stood := { row := nodeRefusesRow, standIns := [], harness := (true, "7d92180c8c808a9160a8b6506553a7c67555d704ab9f23fc27fe7a2ead928584"), looks := false }, kinds := [], alts := [], laidByText := true, laidKinds := [.data], laidTests := true, laidLooks := .later }
def NodeRefusesCardSaid : Prop := Claim7.holds Tryz.pinned (.plain (OpenSpec.ofChange nodeRefusesSpec)) nodeRefusesCard

/-- THE TIED CARD OF 'shunterlaw16.NodeBounds'. -/
def nodeBoundsCard : Claim7 := { stood := { row := nodeBoundsRow, standIns := [], harness := (true, "7d92180c8c808a9160a8b6506553a7c67555d704ab9f23fc27fe7a2ead928584"), looks := false }, kinds := [], alts := [], laidByText := true, laidKinds := [.data], laidTests := true, laidLooks := .later }
def NodeBoundsCardSaid : Prop := Claim7.holds Tryz.pinned (.plain (OpenSpec.ofChange nodeBoundsSpec)) nodeBoundsCard

/-- THE TIED CARD OF 'shunterlaw16.NodeDoes'. -/
def nodeDoesCard : Claim7 := { stood := { row := nodeDoesRow, standIns := [], harness := (true, "7d92180c8c808a9160a8b6506553a7c67555d704ab9f23fc27fe7a2ead928584"), looks := false }, kinds := [], alts := [], laidByText := true, laidKinds := [.data], laidTests := true, laidLooks := .later }
def NodeDoesCardSaid : Prop := Claim7.holds Tryz.pinned (.plain (OpenSpec.ofChange nodeDoesSpec)) nodeDoesCard

/-- THE TIED CARD OF 'shunterlaw18.WatchFresh'. -/
def watchFreshCard : Claim7 := { stood := { row := watchFreshRow, standIns := [], harness := (true, "7d92180c8c808a9160a8b6506553a7c67555d704ab9f23fc27fe7a2ead928584"), looks := false }, kinds := [], alts := [], laidByText := true, laidKinds := [.data], laidTests := true, laidLooks := .later }
def WatchFreshCardSaid : Prop := Claim7.holds Tryz.pinned (.plain (OpenSpec.ofChange watchFreshSpec)) watchFreshCard

/-- THE TIED CARD OF 'shunterlaw17.FabricOwn'. -/
def fabricOwnCard : Claim7 := { stood := { row := fabricOwnRow, standIns := [], harness := (true, "7d92180c8c808a9160a8b6506553a7c67555d704ab9f23fc27fe7a2ead928584"), looks := false }, kinds := [], alts := [], laidByText := true, laidKinds := [.data], laidTests := true, laidLooks := .later }
def FabricOwnCardSaid : Prop := Claim7.holds Tryz.pinned (.plain (OpenSpec.ofChange fabricOwnSpec)) fabricOwnCard

/-- THE TIED CARD OF 'shunterlaw17.FabricIdle'. -/
def fabricIdleCard : Claim7 := { stood := { row := fabricIdleRow, standIns := [], harness := (true, "7d92180c8c808a9160a8b6506553a7c67555d704ab9f23fc27fe7a2ead928584"), looks := false }, kinds := [], alts := [], laidByText := true, laidKinds := [.data], laidTests := true, laidLooks := .later }
def FabricIdleCardSaid : Prop := Claim7.holds Tryz.pinned (.plain (OpenSpec.ofChange fabricIdleSpec)) fabricIdleCard

/-- THE TIED CARD OF 'shunterlaw17.FabricStraight'. -/
def fabricStraightCard : Claim7 := { stood := { row := fabricStraightRow, standIns := [], harness := (true, "7d92180c8c808a9160a8b6506553a7c67555d704ab9f23fc27fe7a2ead928584"), looks := false }, kinds := [], alts := [], laidByText := true, laidKinds := [.data], laidTests := true, laidLooks := .later }
def FabricStraightCardSaid : Prop := Claim7.holds Tryz.pinned (.plain (OpenSpec.ofChange fabricStraightSpec)) fabricStraightCard

/-- THE TIED CARD OF 'shunterlaw17.FabricArgs'. -/
def fabricArgsCard : Claim7 := { stood := { row := fabricArgsRow, standIns := [], harness := (true, "7d92180c8c808a9160a8b6506553a7c67555d704ab9f23fc27fe7a2ead928584"), looks := false }, kinds := [], alts := [], laidByText := true, laidKinds := [.data], laidTests := true, laidLooks := .later }
def FabricArgsCardSaid : Prop := Claim7.holds Tryz.pinned (.plain (OpenSpec.ofChange fabricArgsSpec)) fabricArgsCard

/-- THE TIED CARD OF 'shunterlaw17.FabricDoes'. -/
def fabricDoesCard : Claim7 := { stood := { row := fabricDoesRow, standIns := [], harness := (true, "7d92180c8c808a9160a8b6506553a7c67555d704ab9f23fc27fe7a2ead928584"), looks := false }, kinds := [], alts := [], laidByText := true, laidKinds := [.data], laidTests := true, laidLooks := .later }
def FabricDoesCardSaid : Prop := Claim7.holds Tryz.pinned (.plain (OpenSpec.ofChange fabricDoesSpec)) fabricDoesCard

/-- THE TIED CARD OF 'shunterlaw17.FabricPlans'. -/
def fabricPlansCard : Claim7 := { stood := { row := fabricPlansRow, standIns := [], harness := (true, "7d92180c8c808a9160a8b6506553a7c67555d704ab9f23fc27fe7a2ead928584"), looks := false }, kinds := [], alts := [], laidByText := true, laidKinds := [.data], laidTests := true, laidLooks := .later }
def FabricPlansCardSaid : Prop := Claim7.holds Tryz.pinned (.plain (OpenSpec.ofChange fabricPlansSpec)) fabricPlansCard

/-- THE TIED CARD OF 'shunterlaw18.WatchLost'. -/
def watchLostCard : Claim7 := { stood := { row := watchLostRow, standIns := [], harness := (true, "7d92180c8c808a9160a8b6506553a7c67555d704ab9f23fc27fe7a2ead928584"), looks := false }, kinds := [], alts := [], laidByText := true, laidKinds := [.data], laidTests := true, laidLooks := .later }
def WatchLostCardSaid : Prop := Claim7.holds Tryz.pinned (.plain (OpenSpec.ofChange watchLostSpec)) watchLostCard

/-- THE TIED CARD OF 'shunterlaw18.WatchTwice'. -/
def watchTwiceCard : Claim7 := { stood := { row := watchTwiceRow, standIns := [], harness := (true, "7d92180c8c808a9160a8b6506553a7c67555d704ab9f23fc27fe7a2ead928584"), looks := false }, kinds := [], alts := [], laidByText := true, laidKinds := [.data], laidTests := true, laidLooks := .later }
def WatchTwiceCardSaid : Prop := Claim7.holds Tryz.pinned (.plain (OpenSpec.ofChange watchTwiceSpec)) watchTwiceCard

/-- THE TIED CARD OF 'shunterlaw18.WatchTells'. -/
def watchTellsCard : Claim7 := { stood := { row := watchTellsRow, standIns := [], harness := (true, "7d92180c8c808a9160a8b6506553a7c67555d704ab9f23fc27fe7a2ead928584"), looks := false }, kinds := [], alts := [], laidByText := true, laidKinds := [.data], laidTests := true, laidLooks := .later }
def WatchTellsCardSaid : Prop := Claim7.holds Tryz.pinned (.plain (OpenSpec.ofChange watchTellsSpec)) watchTellsCard

/-- THE TIED CARD OF 'shunterlaw18.WatchSums'. -/
def watchSumsCard : Claim7 := { stood := { row := watchSumsRow, standIns := [], harness := (true, "7d92180c8c808a9160a8b6506553a7c67555d704ab9f23fc27fe7a2ead928584"), looks := false }, kinds := [], alts := [], laidByText := true, laidKinds := [.data], laidTests := true, laidLooks := .later }
def WatchSumsCardSaid : Prop := Claim7.holds Tryz.pinned (.plain (OpenSpec.ofChange watchSumsSpec)) watchSumsCard

/-- THE SECOND FORM's CARD OF 'shuntertop.TopRoom'. -/
def topRoomUptoCard : Claim7 := { stood := { row := topRoomUptoRow, standIns := [], harness := (true, "7d92180c8c808a9160a8b6506553a7c67555d704ab9f23fc27fe7a2ead928584"), looks := false }, kinds := [], alts := [], laidByText := true, laidKinds := [.data], laidTests := true, laidLooks := .later }
def TopRoomUptoCardSaid : Prop := Claim7.holds Tryz.pinned (.plain (OpenSpec.upto topRoomSpec)) topRoomUptoCard

/-- THE SECOND FORM's CARD OF 'shuntertop.TopExact'. -/
def topExactUptoCard : Claim7 := { stood := { row := topExactUptoRow, standIns := [], harness := (true, "7d92180c8c808a9160a8b6506553a7c67555d704ab9f23fc27fe7a2ead928584"), looks := false }, kinds := [], alts := [], laidByText := true, laidKinds := [.data], laidTests := true, laidLooks := .later }
def TopExactUptoCardSaid : Prop := Claim7.holds Tryz.pinned (.plain (OpenSpec.upto topExactSpec)) topExactUptoCard

/-- THE SECOND FORM's CARD OF 'shuntertop.TopRegains'. -/
def topRegainsUptoCard : Claim7 := { stood := { row := topRegainsUptoRow, standIns := [], harness := (true, "7d92180c8c808a9160a8b6506553a7c67555d704ab9f23fc27fe7a2ead928584"), looks := false }, kinds := [], alts := [], laidByText := true, laidKinds := [.data], laidTests := true, laidLooks := .later }
def TopRegainsUptoCardSaid : Prop := Claim7.holds Tryz.pinned (.plain (OpenSpec.upto topRegainsSpec)) topRegainsUptoCard

/-- THE SECOND FORM's CARD OF 'shunterlaw16.NodeInjects'. -/
def nodeInjectsUptoCard : Claim7 := { stood := { row := nodeInjectsUptoRow, standIns := [], harness := (true, "7d92180c8c808a9160a8b6506553a7c67555d704ab9f23fc27fe7a2ead928584"), looks := false }, kinds := [], alts := [], laidByText := true, laidKinds := [.data], laidTests := true, laidLooks := .later }
def NodeInjectsUptoCardSaid : Prop := Claim7.holds Tryz.pinned (.plain (OpenSpec.upto nodeInjectsSpec)) nodeInjectsUptoCard

/-- THE SECOND FORM's CARD OF 'shunterlaw16.NodeTells'. -/
def nodeTellsUptoCard : Claim7 := { stood := { row := nodeTellsUptoRow, standIns := [], harness := (true, "7d92180c8c808a9160a8b6506553a7c67555d704ab9f23fc27fe7a2ead928584"), looks := false }, kinds := [], alts := [], laidByText := true, laidKinds := [.data], laidTests := true, laidLooks := .later }
def NodeTellsUptoCardSaid : Prop := Claim7.holds Tryz.pinned (.plain (OpenSpec.upto nodeTellsSpec)) nodeTellsUptoCard

/-- THE SECOND FORM's CARD OF 'shunterlaw16.NodePlans'. -/
def nodePlansUptoCard : Claim7 := { stood := { row := nodePlansUptoRow, standIns := [], harness := (true, "7d92180c8c808a9160a8b6506553a7c67555d704ab9f23fc27fe7a2ead928584"), looks := false }, kinds := [], alts := [], laidByText := true, laidKinds := [.data], laidTests := true, laidLooks := .later }
def NodePlansUptoCardSaid : Prop := Claim7.holds Tryz.pinned (.plain (OpenSpec.upto nodePlansSpec)) nodePlansUptoCard

/-- THE SECOND FORM's CARD OF 'shunterlaw16.NodePasses'. -/
def nodePassesUptoCard : Claim7 := { stood := { row := nodePassesUptoRow, standIns := [], harness := (true, "7d92180c8c808a9160a8b6506553a7c67555d704ab9f23fc27fe7a2ead928584"), looks := false }, kinds := [], alts := [], laidByText := true, laidKinds := [.data], laidTests := true, laidLooks := .later }
def NodePassesUptoCardSaid : Prop := Claim7.holds Tryz.pinned (.plain (OpenSpec.upto nodePassesSpec)) nodePassesUptoCard

/-- THE SECOND FORM's CARD OF 'shunterlaw16.NodeRefuses'. -/
def nodeRefusesUptoCard : Claim7 := { stood := { row := nodeRefusesUptoRow, standIns := [], harness := (true, "7d92180c8c808a9160a8b6506553a7c67555d704ab9f23fc27fe7a2ead928584"), looks := false }, kinds := [], alts := [], laidByText := true, laidKinds := [.data], laidTests := true, laidLooks := .later }
def NodeRefusesUptoCardSaid : Prop := Claim7.holds Tryz.pinned (.plain (OpenSpec.upto nodeRefusesSpec)) nodeRefusesUptoCard

/-- THE SECOND FORM's CARD OF 'shunterlaw16.NodeBounds'. -/
def nodeBoundsUptoCard : Claim7 := { stood := { row := nodeBoundsUptoRow, standIns := [], harness := (true, "7d92180c8c808a9160a8b6506553a7c67555d704ab9f23fc27fe7a2ead928584"), looks := false }, kinds := [], alts := [], laidByText := true, laidKinds := [.data], laidTests := true, laidLooks := .later }
def NodeBoundsUptoCardSaid : Prop := Claim7.holds Tryz.pinned (.plain (OpenSpec.upto nodeBoundsSpec)) nodeBoundsUptoCard

/-- THE SECOND FORM's CARD OF 'shunterlaw16.NodeDoes'. -/
def nodeDoesUptoCard : Claim7 := { stood := { row := nodeDoesUptoRow, standIns := [], harness := (true, "7d92180c8c808a9160a8b6506553a7c67555d704ab9f23fc27fe7a2ead928584"), looks := false }, kinds := [], alts := [], laidByText := true, laidKinds := [.data], laidTests := true, laidLooks := .later }
def NodeDoesUptoCardSaid : Prop := Claim7.holds Tryz.pinned (.plain (OpenSpec.upto nodeDoesSpec)) nodeDoesUptoCard

/-- THE SECOND FORM's CARD OF 'shunterlaw18.WatchFresh'. -/
def watchFreshUptoCard : Claim7 := { stood := { row := watchFreshUptoRow, standIns := [], harness := (true, "7d92180c8c808a9160a8b6506553a7c67555d704ab9f23fc27fe7a2ead928584"), looks := false }, kinds := [], alts := [], laidByText := true, laidKinds := [.data], laidTests := true, laidLooks := .later }
def WatchFreshUptoCardSaid : Prop := Claim7.holds Tryz.pinned (.plain (OpenSpec.upto watchFreshSpec)) watchFreshUptoCard

/-- THE SECOND FORM's CARD OF 'shunterlaw17.FabricOwn'. -/
def fabricOwnUptoCard : Claim7 := { stood := { row := fabricOwnUptoRow, standIns := [], harness := (true, "7d92180c8c808a9160a8b6506553a7c67555d704ab9f23fc27fe7a2ead928584"), looks := false }, kinds := [], alts := [], laidByText := true, laidKinds := [.data], laidTests := true, laidLooks := .later }
def FabricOwnUptoCardSaid : Prop := Claim7.holds Tryz.pinned (.plain (OpenSpec.upto fabricOwnSpec)) fabricOwnUptoCard

/-- THE SECOND FORM's CARD OF 'shunterlaw17.FabricIdle'. -/
def fabricIdleUptoCard : Claim7 := { stood := { row := fabricIdleUptoRow, standIns := [], harness := (true, "7d92180c8c808a9160a8b6506553a7c67555d704ab9f23fc27fe7a2ead928584"), looks := false }, kinds := [], alts := [], laidByText := true, laidKinds := [.data], laidTests := true, laidLooks := .later }
def FabricIdleUptoCardSaid : Prop := Claim7.holds Tryz.pinned (.plain (OpenSpec.upto fabricIdleSpec)) fabricIdleUptoCard

/-- THE SECOND FORM's CARD OF 'shunterlaw17.FabricStraight'. -/
def fabricStraightUptoCard : Claim7 := { stood := { row := fabricStraightUptoRow, standIns := [], harness := (true, "7d92180c8c808a9160a8b6506553a7c67555d704ab9f23fc27fe7a2ead928584"), looks := false }, kinds := [], alts := [], laidByText := true, laidKinds := [.data], laidTests := true, laidLooks := .later }
def FabricStraightUptoCardSaid : Prop := Claim7.holds Tryz.pinned (.plain (OpenSpec.upto fabricStraightSpec)) fabricStraightUptoCard

/-- THE SECOND FORM's CARD OF 'shunterlaw17.FabricArgs'. -/
def fabricArgsUptoCard : Claim7 := { stood := { row := fabricArgsUptoRow, standIns := [], harness := (true, "7d92180c8c808a9160a8b6506553a7c67555d704ab9f23fc27fe7a2ead928584"), looks := false }, kinds := [], alts := [], laidByText := true, laidKinds := [.data], laidTests := true, laidLooks := .later }
def FabricArgsUptoCardSaid : Prop := Claim7.holds Tryz.pinned (.plain (OpenSpec.upto fabricArgsSpec)) fabricArgsUptoCard

/-- THE SECOND FORM's CARD OF 'shunterlaw17.FabricDoes'. -/
def fabricDoesUptoCard : Claim7 := { stood := { row := fabricDoesUptoRow, standIns := [], harness := (true, "7d92180c8c808a9160a8b6506553a7c67555d704ab9f23fc27fe7a2ead928584"), looks := false }, kinds := [], alts := [], laidByText := true, laidKinds := [.data], laidTests := true, laidLooks := .later }
def FabricDoesUptoCardSaid : Prop := Claim7.holds Tryz.pinned (.plain (OpenSpec.upto fabricDoesSpec)) fabricDoesUptoCard

/-- THE SECOND FORM's CARD OF 'shunterlaw17.FabricPlans'. -/
def fabricPlansUptoCard : Claim7 := { stood := { row := fabricPlansUptoRow, standIns := [], harness := (true, "7d92180c8c808a9160a8b6506553a7c67555d704ab9f23fc27fe7a2ead928584"), looks := false }, kinds := [], alts := [], laidByText := true, laidKinds := [.data], laidTests := true, laidLooks := .later }
def FabricPlansUptoCardSaid : Prop := Claim7.holds Tryz.pinned (.plain (OpenSpec.upto fabricPlansSpec)) fabricPlansUptoCard

/-- THE SECOND FORM's CARD OF 'shunterlaw18.WatchLost'. -/
def watchLostUptoCard : Claim7 := { stood := { row := watchLostUptoRow, standIns := [], harness := (true, "7d92180c8c808a9160a8b6506553a7c67555d704ab9f23fc27fe7a2ead928584"), looks := false }, kinds := [], alts := [], laidByText := true, laidKinds := [.data], laidTests := true, laidLooks := .later }
def WatchLostUptoCardSaid : Prop := Claim7.holds Tryz.pinned (.plain (OpenSpec.upto watchLostSpec)) watchLostUptoCard

/-- THE SECOND FORM's CARD OF 'shunterlaw18.WatchTwice'. -/
def watchTwiceUptoCard : Claim7 := { stood := { row := watchTwiceUptoRow, standIns := [], harness := (true, "7d92180c8c808a9160a8b6506553a7c67555d704ab9f23fc27fe7a2ead928584"), looks := false }, kinds := [], alts := [], laidByText := true, laidKinds := [.data], laidTests := true, laidLooks := .later }
def WatchTwiceUptoCardSaid : Prop := Claim7.holds Tryz.pinned (.plain (OpenSpec.upto watchTwiceSpec)) watchTwiceUptoCard

/-- THE SECOND FORM's CARD OF 'shunterlaw18.WatchTells'. -/
def watchTellsUptoCard : Claim7 := { stood := { row := watchTellsUptoRow, standIns := [], harness := (true, "7d92180c8c808a9160a8b6506553a7c67555d704ab9f23fc27fe7a2ead928584"), looks := false }, kinds := [], alts := [], laidByText := true, laidKinds := [.data], laidTests := true, laidLooks := .later }
def WatchTellsUptoCardSaid : Prop := Claim7.holds Tryz.pinned (.plain (OpenSpec.upto watchTellsSpec)) watchTellsUptoCard

/-- THE SECOND FORM's CARD OF 'shunterlaw18.WatchSums'. -/
def watchSumsUptoCard : Claim7 := { stood := { row := watchSumsUptoRow, standIns := [], harness := (true, "7d92180c8c808a9160a8b6506553a7c67555d704ab9f23fc27fe7a2ead928584"), looks := false }, kinds := [], alts := [], laidByText := true, laidKinds := [.data], laidTests := true, laidLooks := .later }
def WatchSumsUptoCardSaid : Prop := Claim7.holds Tryz.pinned (.plain (OpenSpec.upto watchSumsSpec)) watchSumsUptoCard
end Rows
end Go.Proofs.YtmimdleeihjdoaaGreatDoor
