/-
  No cell of these rows narrows 'for every input' (looked for: loops, veiled, ifaces, maps, wideKeys, modest, calm, conditions, laid).
  DERIVED. THE GIVEN ROWS OF THIS SEAT. 12 by the template 'for every input the law returns true; each argument reads behind the call as it read before'; 0 by the template 'total and deterministic' (their statements: YtcmmlgdbpnogjaaTotals.lean).
  GIVEN WITH THE SEED: the statements are not yours to turn. If you find one false, say at which input.
  Laid BY PROGRAM, IN A SANDBOX (cutbox-rows.mjs): the forced cells as the released guide's own fill.sh prints them over the translation 8cf0e6e31a5b822d… (all of the seat's roots in one cut). By AI agents, Wed Nov 11 2026. No macro, syntax, notation, axiom, sorry.
-/
import Derived.Test.YtcmmlgdbpnogjaaChecked
import GoSem.Claim
import GoSem.ClaimJoined
import GoSem.ClaimMapViews
import Derived.JoinedTies
import Derived.KernelRfl
namespace Go.Proofs.Ytcmmlgdbpnogjaa
/- THE CELL 'sum', in the pinned program and in every row, IS THE sha256 OF THE DUMP (.gsa) THAT YtcmmlgdbpnogjaaProg.lean LOADS. Nothing in Lean hashes anything: it is a label: what it is worth is what the hold of that sum in a sandbox is worth. -/
noncomputable def Try.pinned : Pinned := { name := "ytcmmlgdbpnogjaa", sum := "8cf0e6e31a5b822d56ef70fda111a52d9adb2e4e0e87617bfd91e8228fb523d7", checked := Try.checked }
namespace Rows
def none {H : Type} : Left H := { results := [], args := [] }

/-- 'shunterlaw04.LinkRoom': WHATEVER THE INPUT: true; the input reads as it did. -/
def linkRoomSpec : ChangeSpec := { name := "linkRoom", fn := fun _ => fun
  | [d1, d2] => { results := [.lit (.bool true)], args := [d1, d2] }
  | _ => none }
def linkRoomRow : OpenClaim := { program := "ytcmmlgdbpnogjaa", sum := "8cf0e6e31a5b822d56ef70fda111a52d9adb2e4e0e87617bfd91e8228fb523d7", func := "shunter/shunterlaw04.LinkRoom", spec := "linkRoom", plainKeys := false, apart := false }
def LinkRoomSaid : Prop := linkRoomRow.holds Try.pinned (OpenSpec.ofChange linkRoomSpec)

/-- ITS FALSE NEIGHBOUR: 'it returns false'. Refute it at one input. -/
def linkRoomWrong : ChangeSpec := { name := "linkRoom", fn := fun _ => fun
  | [d1, d2] => { results := [.lit (.bool false)], args := [d1, d2] }
  | _ => none }
def LinkRoomWrongFalsely : Prop := linkRoomRow.holds Try.pinned (OpenSpec.ofChange linkRoomWrong)

/-- 'shunterlaw04.LinkTakes': WHATEVER THE INPUT: true; the input reads as it did. -/
def linkTakesSpec : ChangeSpec := { name := "linkTakes", fn := fun _ => fun
  | [d1, d2] => { results := [.lit (.bool true)], args := [d1, d2] }
  | _ => none }
def linkTakesRow : OpenClaim := { program := "ytcmmlgdbpnogjaa", sum := "8cf0e6e31a5b822d56ef70fda111a52d9adb2e4e0e87617bfd91e8228fb523d7", func := "shunter/shunterlaw04.LinkTakes", spec := "linkTakes", plainKeys := false, apart := false }
def LinkTakesSaid : Prop := linkTakesRow.holds Try.pinned (OpenSpec.ofChange linkTakesSpec)

/-- ITS FALSE NEIGHBOUR: 'it returns false'. Refute it at one input. -/
def linkTakesWrong : ChangeSpec := { name := "linkTakes", fn := fun _ => fun
  | [d1, d2] => { results := [.lit (.bool false)], args := [d1, d2] }
  | _ => none }
def LinkTakesWrongFalsely : Prop := linkTakesRow.holds Try.pinned (OpenSpec.ofChange linkTakesWrong)

/-- 'shunterlaw04.LinkNone': WHATEVER THE INPUT: true; the input reads as it did. -/
def linkNoneSpec : ChangeSpec := { name := "linkNone", fn := fun _ => fun
  | [d1, d2, d3] => { results := [.lit (.bool true)], args := [d1, d2, d3] }
  | _ => none }
def linkNoneRow : OpenClaim := { program := "ytcmmlgdbpnogjaa", sum := "8cf0e6e31a5b822d56ef70fda111a52d9adb2e4e0e87617bfd91e8228fb523d7", func := "shunter/shunterlaw04.LinkNone", spec := "linkNone", plainKeys := false, apart := false }
def LinkNoneSaid : Prop := linkNoneRow.holds Try.pinned (OpenSpec.ofChange linkNoneSpec)

/-- ITS FALSE NEIGHBOUR: 'it returns false'. Refute it at one input. -/
def linkNoneWrong : ChangeSpec := { name := "linkNone", fn := fun _ => fun
  | [d1, d2, d3] => { results := [.lit (.bool false)], args := [d1, d2, d3] }
  | _ => none }
def LinkNoneWrongFalsely : Prop := linkNoneRow.holds Try.pinned (OpenSpec.ofChange linkNoneWrong)

/-- 'shunterlaw04.LinkDoes': WHATEVER THE INPUT: true; the input reads as it did. -/
def linkDoesSpec : ChangeSpec := { name := "linkDoes", fn := fun _ => fun
  | [d1, d2] => { results := [.lit (.bool true)], args := [d1, d2] }
  | _ => none }
def linkDoesRow : OpenClaim := { program := "ytcmmlgdbpnogjaa", sum := "8cf0e6e31a5b822d56ef70fda111a52d9adb2e4e0e87617bfd91e8228fb523d7", func := "shunter/shunterlaw04.LinkDoes", spec := "linkDoes", plainKeys := false, apart := false }
def LinkDoesSaid : Prop := linkDoesRow.holds Try.pinned (OpenSpec.ofChange linkDoesSpec)

/-- ITS FALSE NEIGHBOUR: 'it returns false'. Refute it at one input. -/
def linkDoesWrong : ChangeSpec := { name := "linkDoes", fn := fun _ => fun
  | [d1, d2] => { results := [.lit (.bool false)], args := [d1, d2] }
  | _ => none }
def LinkDoesWrongFalsely : Prop := linkDoesRow.holds Try.pinned (OpenSpec.ofChange linkDoesWrong)

/-- 'shunterlaw04.LinkKeeps': WHATEVER THE INPUT: true; the input reads as it did. -/
def linkKeepsSpec : ChangeSpec := { name := "linkKeeps", fn := fun _ => fun
  | [d1, d2] => { results := [.lit (.bool true)], args := [d1, d2] }
  | _ => none }
def linkKeepsRow : OpenClaim := { program := "ytcmmlgdbpnogjaa", sum := "8cf0e6e31a5b822d56ef70fda111a52d9adb2e4e0e87617bfd91e8228fb523d7", func := "shunter/shunterlaw04.LinkKeeps", spec := "linkKeeps", plainKeys := false, apart := false }
def LinkKeepsSaid : Prop := linkKeepsRow.holds Try.pinned (OpenSpec.ofChange linkKeepsSpec)

/-- ITS FALSE NEIGHBOUR: 'it returns false'. Refute it at one input. -/
def linkKeepsWrong : ChangeSpec := { name := "linkKeeps", fn := fun _ => fun
  | [d1, d2] => { results := [.lit (.bool false)], args := [d1, d2] }
  | _ => none }
def LinkKeepsWrongFalsely : Prop := linkKeepsRow.holds Try.pinned (OpenSpec.ofChange linkKeepsWrong)

/-- 'shunterlaw04.LinkBends': WHATEVER THE INPUT: true; the input reads as it did. -/
def linkBendsSpec : ChangeSpec := { name := "linkBends", fn := fun _ => fun
  | [d1, d2, d3, d4] => { results := [.lit (.bool true)], args := [d1, d2, d3, d4] }
  | _ => none }
def linkBendsRow : OpenClaim := { program := "ytcmmlgdbpnogjaa", sum := "8cf0e6e31a5b822d56ef70fda111a52d9adb2e4e0e87617bfd91e8228fb523d7", func := "shunter/shunterlaw04.LinkBends", spec := "linkBends", plainKeys := false, apart := false }
def LinkBendsSaid : Prop := linkBendsRow.holds Try.pinned (OpenSpec.ofChange linkBendsSpec)

/-- ITS FALSE NEIGHBOUR: 'it returns false'. Refute it at one input. -/
def linkBendsWrong : ChangeSpec := { name := "linkBends", fn := fun _ => fun
  | [d1, d2, d3, d4] => { results := [.lit (.bool false)], args := [d1, d2, d3, d4] }
  | _ => none }
def LinkBendsWrongFalsely : Prop := linkBendsRow.holds Try.pinned (OpenSpec.ofChange linkBendsWrong)

/-- 'shunterlaw04.LinkTwice': WHATEVER THE INPUT: true; the input reads as it did. -/
def linkTwiceSpec : ChangeSpec := { name := "linkTwice", fn := fun _ => fun
  | [d1, d2, d3] => { results := [.lit (.bool true)], args := [d1, d2, d3] }
  | _ => none }
def linkTwiceRow : OpenClaim := { program := "ytcmmlgdbpnogjaa", sum := "8cf0e6e31a5b822d56ef70fda111a52d9adb2e4e0e87617bfd91e8228fb523d7", func := "shunter/shunterlaw04.LinkTwice", spec := "linkTwice", plainKeys := false, apart := false }
def LinkTwiceSaid : Prop := linkTwiceRow.holds Try.pinned (OpenSpec.ofChange linkTwiceSpec)

/-- ITS FALSE NEIGHBOUR: 'it returns false'. Refute it at one input. -/
def linkTwiceWrong : ChangeSpec := { name := "linkTwice", fn := fun _ => fun
  | [d1, d2, d3] => { results := [.lit (.bool false)], args := [d1, d2, d3] }
  | _ => none }
def LinkTwiceWrongFalsely : Prop := linkTwiceRow.holds Try.pinned (OpenSpec.ofChange linkTwiceWrong)

/-- 'shunterlaw08.RingsNew': WHATEVER THE INPUT: true; the input reads as it did. -/
def ringsNewSpec : ChangeSpec := { name := "ringsNew", fn := fun _ => fun
  | [d1, d2, d3] => { results := [.lit (.bool true)], args := [d1, d2, d3] }
  | _ => none }
def ringsNewRow : OpenClaim := { program := "ytcmmlgdbpnogjaa", sum := "8cf0e6e31a5b822d56ef70fda111a52d9adb2e4e0e87617bfd91e8228fb523d7", func := "shunter/shunterlaw08.RingsNew", spec := "ringsNew", plainKeys := false, apart := false }
def RingsNewSaid : Prop := ringsNewRow.holds Try.pinned (OpenSpec.ofChange ringsNewSpec)

/-- ITS FALSE NEIGHBOUR: 'it returns false'. Refute it at one input. -/
def ringsNewWrong : ChangeSpec := { name := "ringsNew", fn := fun _ => fun
  | [d1, d2, d3] => { results := [.lit (.bool false)], args := [d1, d2, d3] }
  | _ => none }
def RingsNewWrongFalsely : Prop := ringsNewRow.holds Try.pinned (OpenSpec.ofChange ringsNewWrong)

/-- 'shunterlaw08.RingsHead': WHATEVER THE INPUT: true; the input reads as it did. -/
def ringsHeadSpec : ChangeSpec := { name := "ringsHead", fn := fun _ => fun
  | [d1, d2, d3, d4] => { results := [.lit (.bool true)], args := [d1, d2, d3, d4] }
  | _ => none }
def ringsHeadRow : OpenClaim := { program := "ytcmmlgdbpnogjaa", sum := "8cf0e6e31a5b822d56ef70fda111a52d9adb2e4e0e87617bfd91e8228fb523d7", func := "shunter/shunterlaw08.RingsHead", spec := "ringsHead", plainKeys := false, apart := false }
def RingsHeadSaid : Prop := ringsHeadRow.holds Try.pinned (OpenSpec.ofChange ringsHeadSpec)

/-- ITS FALSE NEIGHBOUR: 'it returns false'. Refute it at one input. -/
def ringsHeadWrong : ChangeSpec := { name := "ringsHead", fn := fun _ => fun
  | [d1, d2, d3, d4] => { results := [.lit (.bool false)], args := [d1, d2, d3, d4] }
  | _ => none }
def RingsHeadWrongFalsely : Prop := ringsHeadRow.holds Try.pinned (OpenSpec.ofChange ringsHeadWrong)

/-- 'shunterlaw08.RingsDo': WHATEVER THE INPUT: true; the input reads as it did. -/
def ringsDoSpec : ChangeSpec := { name := "ringsDo", fn := fun _ => fun
  | [d1, d2, d3, d4] => { results := [.lit (.bool true)], args := [d1, d2, d3, d4] }
  | _ => none }
def ringsDoRow : OpenClaim := { program := "ytcmmlgdbpnogjaa", sum := "8cf0e6e31a5b822d56ef70fda111a52d9adb2e4e0e87617bfd91e8228fb523d7", func := "shunter/shunterlaw08.RingsDo", spec := "ringsDo", plainKeys := false, apart := false }
def RingsDoSaid : Prop := ringsDoRow.holds Try.pinned (OpenSpec.ofChange ringsDoSpec)

/-- ITS FALSE NEIGHBOUR: 'it returns false'. Refute it at one input. -/
def ringsDoWrong : ChangeSpec := { name := "ringsDo", fn := fun _ => fun
  | [d1, d2, d3, d4] => { results := [.lit (.bool false)], args := [d1, d2, d3, d4] }
  | _ => none }
def RingsDoWrongFalsely : Prop := ringsDoRow.holds Try.pinned (OpenSpec.ofChange ringsDoWrong)

/-- 'shunterlaw08.RingsOrder': WHATEVER THE INPUT: true; the input reads as it did. -/
def ringsOrderSpec : ChangeSpec := { name := "ringsOrder", fn := fun _ => fun
  | [d1, d2] => { results := [.lit (.bool true)], args := [d1, d2] }
  | _ => none }
def ringsOrderRow : OpenClaim := { program := "ytcmmlgdbpnogjaa", sum := "8cf0e6e31a5b822d56ef70fda111a52d9adb2e4e0e87617bfd91e8228fb523d7", func := "shunter/shunterlaw08.RingsOrder", spec := "ringsOrder", plainKeys := false, apart := false }
def RingsOrderSaid : Prop := ringsOrderRow.holds Try.pinned (OpenSpec.ofChange ringsOrderSpec)

/-- ITS FALSE NEIGHBOUR: 'it returns false'. Refute it at one input. -/
def ringsOrderWrong : ChangeSpec := { name := "ringsOrder", fn := fun _ => fun
  | [d1, d2] => { results := [.lit (.bool false)], args := [d1, d2] }
  | _ => none }
def RingsOrderWrongFalsely : Prop := ringsOrderRow.holds Try.pinned (OpenSpec.ofChange ringsOrderWrong)

/-- 'shunterlaw08.RingsRoom': WHATEVER THE INPUT: true; the input reads as it did. -/
def ringsRoomSpec : ChangeSpec := { name := "ringsRoom", fn := fun _ => fun
  | [d1, d2] => { results := [.lit (.bool true)], args := [d1, d2] }
  | _ => none }
def ringsRoomRow : OpenClaim := { program := "ytcmmlgdbpnogjaa", sum := "8cf0e6e31a5b822d56ef70fda111a52d9adb2e4e0e87617bfd91e8228fb523d7", func := "shunter/shunterlaw08.RingsRoom", spec := "ringsRoom", plainKeys := false, apart := false }
def RingsRoomSaid : Prop := ringsRoomRow.holds Try.pinned (OpenSpec.ofChange ringsRoomSpec)

/-- ITS FALSE NEIGHBOUR: 'it returns false'. Refute it at one input. -/
def ringsRoomWrong : ChangeSpec := { name := "ringsRoom", fn := fun _ => fun
  | [d1, d2] => { results := [.lit (.bool false)], args := [d1, d2] }
  | _ => none }
def RingsRoomWrongFalsely : Prop := ringsRoomRow.holds Try.pinned (OpenSpec.ofChange ringsRoomWrong)

/- THE SECOND FORM. 'bulk': how many values and letters a reading holds, each counted each time it is reached (what is shared counts as often as it is met; a slice's spare places count too). A statement '..UptoSaid' is the law's where the arguments, and the package variables that the reading takes, are together of bulk at most 1048576: NARROWER than '..Said'. Prove '..Said' where nothing that the law and all that it calls make is longer than what came in: it says more and counts as full. Else prove '..UptoSaid'. A law counts once. -/
mutual
def uptoBulk {H : Type} : DataW H → Nat
  | .lit (.string bytes) => bytes.length + 1
  | .lit _ => 1
  | .nil => 1
  | .ptr d => uptoBulk d + 1
  | .slice elems spare => uptoBulkAll elems + uptoBulkAll spare + 1
  | .agg parts => uptoBulkAll parts + 1
  | .iface _ d => uptoBulk d + 1
  | .map entries => uptoBulkEntries entries + 1
  | .held _ => 1
def uptoBulkAll {H : Type} : List (DataW H) → Nat
  | [] => 0
  | d :: r => uptoBulk d + uptoBulkAll r
def uptoBulkEntries {H : Type} : List (Lit × DataW H) → Nat
  | [] => 0
  | x :: r => uptoBulkEntry x + uptoBulkEntries r
def uptoBulkEntry {H : Type} : Lit × DataW H → Nat
  | (.string bytes, d) => bytes.length + uptoBulk d + 1
  | (_, d) => uptoBulk d + 1
 end
def uptoSmall : (H : Type) → List (DataW H) → Bool := fun _ ds => decide (uptoBulkAll ds ≤ 1048576)
def OpenSpec.upto (s : _root_.Go.ChangeSpec) : _root_.Go.OpenSpec := { _root_.Go.OpenSpec.ofChange s with cond := some uptoSmall }

/-- 'shunterlaw04.LinkRoom', WHERE WHAT IT READS IS OF BULK AT MOST 1048576: true; the input reads as it did. -/
def linkRoomUptoRow : OpenClaim := { program := "ytcmmlgdbpnogjaa", sum := "8cf0e6e31a5b822d56ef70fda111a52d9adb2e4e0e87617bfd91e8228fb523d7", func := "shunter/shunterlaw04.LinkRoom", spec := "linkRoom", plainKeys := false, apart := false, narrowed := true }
def LinkRoomUptoSaid : Prop := linkRoomUptoRow.holds Try.pinned (OpenSpec.upto linkRoomSpec)

/-- 'shunterlaw04.LinkTakes', WHERE WHAT IT READS IS OF BULK AT MOST 1048576: true; the input reads as it did. -/
def linkTakesUptoRow : OpenClaim := { program := "ytcmmlgdbpnogjaa", sum := "8cf0e6e31a5b822d56ef70fda111a52d9adb2e4e0e87617bfd91e8228fb523d7", func := "shunter/shunterlaw04.LinkTakes", spec := "linkTakes", plainKeys := false, apart := false, narrowed := true }
def LinkTakesUptoSaid : Prop := linkTakesUptoRow.holds Try.pinned (OpenSpec.upto linkTakesSpec)

/-- 'shunterlaw04.LinkNone', WHERE WHAT IT READS IS OF BULK AT MOST 1048576: true; the input reads as it did. -/
def linkNoneUptoRow : OpenClaim := { program := "ytcmmlgdbpnogjaa", sum := "8cf0e6e31a5b822d56ef70fda111a52d9adb2e4e0e87617bfd91e8228fb523d7", func := "shunter/shunterlaw04.LinkNone", spec := "linkNone", plainKeys := false, apart := false, narrowed := true }
def LinkNoneUptoSaid : Prop := linkNoneUptoRow.holds Try.pinned (OpenSpec.upto linkNoneSpec)

/-- 'shunterlaw04.LinkDoes', WHERE WHAT IT READS IS OF BULK AT MOST 1048576: true; the input reads as it did. -/
def linkDoesUptoRow : OpenClaim := { program := "ytcmmlgdbpnogjaa", sum := "8cf0e6e31a5b822d56ef70fda111a52d9adb2e4e0e87617bfd91e8228fb523d7", func := "shunter/shunterlaw04.LinkDoes", spec := "linkDoes", plainKeys := false, apart := false, narrowed := true }
def LinkDoesUptoSaid : Prop := linkDoesUptoRow.holds Try.pinned (OpenSpec.upto linkDoesSpec)

/-- 'shunterlaw04.LinkKeeps', WHERE WHAT IT READS IS OF BULK AT MOST 1048576: true; the input reads as it did. -/
def linkKeepsUptoRow : OpenClaim := { program := "ytcmmlgdbpnogjaa", sum := "8cf0e6e31a5b822d56ef70fda111a52d9adb2e4e0e87617bfd91e8228fb523d7", func := "shunter/shunterlaw04.LinkKeeps", spec := "linkKeeps", plainKeys := false, apart := false, narrowed := true }
def LinkKeepsUptoSaid : Prop := linkKeepsUptoRow.holds Try.pinned (OpenSpec.upto linkKeepsSpec)

/-- 'shunterlaw04.LinkBends', WHERE WHAT IT READS IS OF BULK AT MOST 1048576: true; the input reads as it did. -/
def linkBendsUptoRow : OpenClaim := { program := "ytcmmlgdbpnogjaa", sum := "8cf0e6e31a5b822d56ef70fda111a52d9adb2e4e0e87617bfd91e8228fb523d7", func := "shunter/shunterlaw04.LinkBends", spec := "linkBends", plainKeys := false, apart := false, narrowed := true }
def LinkBendsUptoSaid : Prop := linkBendsUptoRow.holds Try.pinned (OpenSpec.upto linkBendsSpec)

/-- 'shunterlaw04.LinkTwice', WHERE WHAT IT READS IS OF BULK AT MOST 1048576: true; the input reads as it did. -/
def linkTwiceUptoRow : OpenClaim := { program := "ytcmmlgdbpnogjaa", sum := "8cf0e6e31a5b822d56ef70fda111a52d9adb2e4e0e87617bfd91e8228fb523d7", func := "shunter/shunterlaw04.LinkTwice", spec := "linkTwice", plainKeys := false, apart := false, narrowed := true }
def LinkTwiceUptoSaid : Prop := linkTwiceUptoRow.holds Try.pinned (OpenSpec.upto linkTwiceSpec)

/-- 'shunterlaw08.RingsNew', WHERE WHAT IT READS IS OF BULK AT MOST 1048576: true; the input reads as it did. -/
def ringsNewUptoRow : OpenClaim := { program := "ytcmmlgdbpnogjaa", sum := "8cf0e6e31a5b822d56ef70fda111a52d9adb2e4e0e87617bfd91e8228fb523d7", func := "shunter/shunterlaw08.RingsNew", spec := "ringsNew", plainKeys := false, apart := false, narrowed := true }
def RingsNewUptoSaid : Prop := ringsNewUptoRow.holds Try.pinned (OpenSpec.upto ringsNewSpec)

/-- 'shunterlaw08.RingsHead', WHERE WHAT IT READS IS OF BULK AT MOST 1048576: true; the input reads as it did. -/
def ringsHeadUptoRow : OpenClaim := { program := "ytcmmlgdbpnogjaa", sum := "8cf0e6e31a5b822d56ef70fda111a52d9adb2e4e0e87617bfd91e8228fb523d7", func := "shunter/shunterlaw08.RingsHead", spec := "ringsHead", plainKeys := false, apart := false, narrowed := true }
def RingsHeadUptoSaid : Prop := ringsHeadUptoRow.holds Try.pinned (OpenSpec.upto ringsHeadSpec)

/-- 'shunterlaw08.RingsDo', WHERE WHAT IT READS IS OF BULK AT MOST 1048576: true; the input reads as it did. -/
def ringsDoUptoRow : OpenClaim := { program := "ytcmmlgdbpnogjaa", sum := "8cf0e6e31a5b822d56ef70fda111a52d9adb2e4e0e87617bfd91e8228fb523d7", func := "shunter/shunterlaw08.RingsDo", spec := "ringsDo", plainKeys := false, apart := false, narrowed := true }
def RingsDoUptoSaid : Prop := ringsDoUptoRow.holds Try.pinned (OpenSpec.upto ringsDoSpec)

/-- 'shunterlaw08.RingsOrder', WHERE WHAT IT READS IS OF BULK AT MOST 1048576: true; the input reads as it did. -/
def ringsOrderUptoRow : OpenClaim := { program := "ytcmmlgdbpnogjaa", sum := "8cf0e6e31a5b822d56ef70fda111a52d9adb2e4e0e87617bfd91e8228fb523d7", func := "shunter/shunterlaw08.RingsOrder", spec := "ringsOrder", plainKeys := false, apart := false, narrowed := true }
def RingsOrderUptoSaid : Prop := ringsOrderUptoRow.holds Try.pinned (OpenSpec.upto ringsOrderSpec)

/-- 'shunterlaw08.RingsRoom', WHERE WHAT IT READS IS OF BULK AT MOST 1048576: true; the input reads as it did. -/
def ringsRoomUptoRow : OpenClaim := { program := "ytcmmlgdbpnogjaa", sum := "8cf0e6e31a5b822d56ef70fda111a52d9adb2e4e0e87617bfd91e8228fb523d7", func := "shunter/shunterlaw08.RingsRoom", spec := "ringsRoom", plainKeys := false, apart := false, narrowed := true }
def RingsRoomUptoSaid : Prop := ringsRoomUptoRow.holds Try.pinned (OpenSpec.upto ringsRoomSpec)

end Rows
end Go.Proofs.Ytcmmlgdbpnogjaa
