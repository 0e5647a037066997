/-
  DERIVED. GIVEN WITH THE SEED: THE CARDS: each row of YtndnnndnhnlkdaaGreatDoorRows.lean that lists a variable, with what it lists TIED to the program's text (the seventh form; the later family's looks); each row that meets fmt, with fmt's text TOLD by the authors' own Lean function (tested against real Go, not proved from fmt's source: count such statements apart). THE CARD IS WHAT COUNTS. Prove the row's statement (the work); the ties are given (YtndnnndnhnlkdaaGreatDoorTie.lean); close each card by the builder's one call (the guide's Derived/Test/ToyasCard.lean, 'card_holds'). Laid BY PROGRAM, IN A SANDBOX (cutbox-door.mjs). By AI agents, Wed Nov 11 2026. No macro, syntax, notation, axiom, sorry.
-/
import Derived.Test.YtndnnndnhnlkdaaGreatDoorRows
import GoSem.ClaimSeven
namespace Go.Proofs.YtndnnndnhnlkdaaGreatDoor
namespace Rows

/-- THE TIED CARD OF 'shunterlaw18.WatchFresh'. -/
def watchFreshCard : Claim7 := { stood := { row := watchFreshRow, standIns := [], harness := (true, "8371be38e6d09cbbb4a0d8b0db703afe9272034047d943113dfded6ac587c36e"), looks := false }, kinds := [], alts := [], laidByText := true, laidKinds := [.data], laidTests := true, laidLooks := .later }
def WatchFreshCardSaid : Prop := Claim7.holds Tryz.pinned (.plain (OpenSpec.ofChange watchFreshSpec)) watchFreshCard

/-- THE SECOND FORM's CARD OF 'shunterlaw18.WatchFresh'. -/
def watchFreshUptoCard : Claim7 := { stood := { row := watchFreshUptoRow, standIns := [], harness := (true, "8371be38e6d09cbbb4a0d8b0db703afe9272034047d943113dfded6ac587c36e"), looks := false }, kinds := [], alts := [], laidByText := true, laidKinds := [.data], laidTests := true, laidLooks := .later }
def WatchFreshUptoCardSaid : Prop := Claim7.holds Tryz.pinned (.plain (OpenSpec.upto watchFreshSpec)) watchFreshUptoCard
end Rows
end Go.Proofs.YtndnnndnhnlkdaaGreatDoor
