/-
  DERIVED. GIVEN WITH THE SEED: THE CARDS: each row of YtciiopkbmjppfaaGreatDoorRows.lean that lists a variable, with what it lists TIED to the program's text (the seventh form; the later family's looks); each row that meets fmt, with fmt's text TOLD by the authors' own Lean function (tested against real Go, not proved from fmt's source: count such statements apart). THE CARD IS WHAT COUNTS. Prove the row's statement (the work); the ties are given (YtciiopkbmjppfaaGreatDoorTie.lean); close each card by the builder's one call (the guide's Derived/Test/ToyasCard.lean, 'card_holds'). Laid BY PROGRAM, IN A SANDBOX (cutbox-door.mjs). By AI agents, Wed Nov 11 2026. No macro, syntax, notation, axiom, sorry.
-/
import Derived.Test.YtciiopkbmjppfaaGreatDoorRows
import GoSem.ClaimSeven
namespace Go.Proofs.YtciiopkbmjppfaaGreatDoor
namespace Rows

/-- THE TIED CARD OF 'shuntertop.TopRoom'. -/
def topRoomCard : Claim7 := { stood := { row := topRoomRow, standIns := [], harness := (true, "2014fd8ab8016d835e835ca6b24be09272b113ffd6dce9282fa5aefc86db93f2"), looks := false }, kinds := [], alts := [], laidByText := true, laidKinds := [.data], laidTests := true, laidLooks := .later }
def TopRoomCardSaid : Prop := Claim7.holds Tryz.pinned (.plain (OpenSpec.ofChange topRoomSpec)) topRoomCard

/-- THE TIED CARD OF 'shuntertop.TopExact'. -/
def topExactCard : Claim7 := { stood := { row := topExactRow, standIns := [], harness := (true, "2014fd8ab8016d835e835ca6b24be09272b113ffd6dce9282fa5aefc86db93f2"), looks := false }, kinds := [], alts := [], laidByText := true, laidKinds := [.data], laidTests := true, laidLooks := .later }
def TopExactCardSaid : Prop := Claim7.holds Tryz.pinned (.plain (OpenSpec.ofChange topExactSpec)) topExactCard

/-- THE TIED CARD OF 'shuntertop.TopRegains'. -/
def topRegainsCard : Claim7 := { stood := { row := topRegainsRow, standIns := [], harness := (true, "2014fd8ab8016d835e835ca6b24be09272b113ffd6dce9282fa5aefc86db93f2"), looks := false }, kinds := [], alts := [], laidByText := true, laidKinds := [.data], laidTests := true, laidLooks := .later }
def TopRegainsCardSaid : Prop := Claim7.holds Tryz.pinned (.plain (OpenSpec.ofChange topRegainsSpec)) topRegainsCard

/-- THE TIED CARD OF 'shunterlaw17.FabricStraight'. -/
def fabricStraightCard : Claim7 := { stood := { row := fabricStraightRow, standIns := [], harness := (true, "2014fd8ab8016d835e835ca6b24be09272b113ffd6dce9282fa5aefc86db93f2"), looks := false }, kinds := [], alts := [], laidByText := true, laidKinds := [.data], laidTests := true, laidLooks := .later }
def FabricStraightCardSaid : Prop := Claim7.holds Tryz.pinned (.plain (OpenSpec.ofChange fabricStraightSpec)) fabricStraightCard

/-- THE TIED CARD OF 'shunterlaw18.WatchLost'. -/
def watchLostCard : Claim7 := { stood := { row := watchLostRow, standIns := [], harness := (true, "2014fd8ab8016d835e835ca6b24be09272b113ffd6dce9282fa5aefc86db93f2"), looks := false }, kinds := [], alts := [], laidByText := true, laidKinds := [.data], laidTests := true, laidLooks := .later }
def WatchLostCardSaid : Prop := Claim7.holds Tryz.pinned (.plain (OpenSpec.ofChange watchLostSpec)) watchLostCard

/-- THE TIED CARD OF 'shunterlaw18.WatchTwice'. -/
def watchTwiceCard : Claim7 := { stood := { row := watchTwiceRow, standIns := [], harness := (true, "2014fd8ab8016d835e835ca6b24be09272b113ffd6dce9282fa5aefc86db93f2"), looks := false }, kinds := [], alts := [], laidByText := true, laidKinds := [.data], laidTests := true, laidLooks := .later }
def WatchTwiceCardSaid : Prop := Claim7.holds Tryz.pinned (.plain (OpenSpec.ofChange watchTwiceSpec)) watchTwiceCard

/-- THE SECOND FORM's CARD OF 'shuntertop.TopRoom'. -/
def topRoomUptoCard : Claim7 := { stood := { row := topRoomUptoRow, standIns := [], harness := (true, "2014fd8ab8016d835e835ca6b24be09272b113ffd6dce9282fa5aefc86db93f2"), looks := false }, kinds := [], alts := [], laidByText := true, laidKinds := [.data], laidTests := true, laidLooks := .later }
def TopRoomUptoCardSaid : Prop := Claim7.holds Tryz.pinned (.plain (OpenSpec.upto topRoomSpec)) topRoomUptoCard

/-- THE SECOND FORM's CARD OF 'shuntertop.TopExact'. -/
def topExactUptoCard : Claim7 := { stood := { row := topExactUptoRow, standIns := [], harness := (true, "2014fd8ab8016d835e835ca6b24be09272b113ffd6dce9282fa5aefc86db93f2"), looks := false }, kinds := [], alts := [], laidByText := true, laidKinds := [.data], laidTests := true, laidLooks := .later }
def TopExactUptoCardSaid : Prop := Claim7.holds Tryz.pinned (.plain (OpenSpec.upto topExactSpec)) topExactUptoCard

/-- THE SECOND FORM's CARD OF 'shuntertop.TopRegains'. -/
def topRegainsUptoCard : Claim7 := { stood := { row := topRegainsUptoRow, standIns := [], harness := (true, "2014fd8ab8016d835e835ca6b24be09272b113ffd6dce9282fa5aefc86db93f2"), looks := false }, kinds := [], alts := [], laidByText := true, laidKinds := [.data], laidTests := true, laidLooks := .later }
def TopRegainsUptoCardSaid : Prop := Claim7.holds Tryz.pinned (.plain (OpenSpec.upto topRegainsSpec)) topRegainsUptoCard

/-- THE SECOND FORM's CARD OF 'shunterlaw17.FabricStraight'. -/
def fabricStraightUptoCard : Claim7 := { stood := { row := fabricStraightUptoRow, standIns := [], harness := (true, "2014fd8ab8016d835e835ca6b24be09272b113ffd6dce9282fa5aefc86db93f2"), looks := false }, kinds := [], alts := [], laidByText := true, laidKinds := [.data], laidTests := true, laidLooks := .later }
def FabricStraightUptoCardSaid : Prop := Claim7.holds Tryz.pinned (.plain (OpenSpec.upto fabricStraightSpec)) fabricStraightUptoCard

/-- THE SECOND FORM's CARD OF 'shunterlaw18.WatchLost'. -/
def watchLostUptoCard : Claim7 := { stood := { row := watchLostUptoRow, standIns := [], harness := (true, "2014fd8ab8016d835e835ca6b24be09272b113ffd6dce9282fa5aefc86db93f2"), looks := false }, kinds := [], alts := [], laidByText := true, laidKinds := [.data], laidTests := true, laidLooks := .later }
def WatchLostUptoCardSaid : Prop := Claim7.holds Tryz.pinned (.plain (OpenSpec.upto watchLostSpec)) watchLostUptoCard

/-- THE SECOND FORM's CARD OF 'shunterlaw18.WatchTwice'. -/
def watchTwiceUptoCard : Claim7 := { stood := { row := watchTwiceUptoRow, standIns := [], harness := (true, "2014fd8ab8016d835e835ca6b24be09272b113ffd6dce9282fa5aefc86db93f2"), looks := false }, kinds := [], alts := [], laidByText := true, laidKinds := [.data], laidTests := true, laidLooks := .later }
def WatchTwiceUptoCardSaid : Prop := Claim7.holds Tryz.pinned (.plain (OpenSpec.upto watchTwiceSpec)) watchTwiceUptoCard
end Rows
end Go.Proofs.YtciiopkbmjppfaaGreatDoor
