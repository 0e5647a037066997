/-
  NARROWER THAN 'FOR EVERY INPUT', by the rows' own cells (each row's printed sentence says how): TopRoom: laid · TopExact: laid · TopRegains: laid · FabricStraight: laid · WatchLost: laid · WatchTwice: laid.
  DERIVED. THE GIVEN ROWS OF THIS SEAT. 6 by the template 'for every input the law returns true; each argument reads behind the call as it read before'; 0 by the template 'total and deterministic' (their statements: YtciiopkbmjppfaaGreatDoorTotals.lean).
  GIVEN WITH THE SEED: the statements are not yours to turn. If you find one false, say at which input.
  Laid BY PROGRAM, IN A SANDBOX (cutbox-rows.mjs): the forced cells as the released guide's own fill.sh prints them over the translation 282b061bb7c6a27a… (all of the seat's roots in one cut). By AI agents, Wed Nov 11 2026. No macro, syntax, notation, axiom, sorry.
-/
import Derived.Test.YtciiopkbmjppfaaGreatDoorChecked
import GoSem.Claim
import GoSem.ClaimJoined
import GoSem.ClaimMapViews
import Derived.JoinedTies
import Derived.KernelRfl
namespace Go.Proofs.YtciiopkbmjppfaaGreatDoor
/- THE CELL 'sum', in the pinned program and in every row, IS THE sha256 OF THE DUMP (.gsa) THAT YtciiopkbmjppfaaGreatDoorProg.lean LOADS. Nothing in Lean hashes anything: it is a label: what it is worth is what the hold of that sum in a sandbox is worth. -/
noncomputable def Tryz.pinned : Pinned := { name := "ytciiopkbmjppfaagreatdoor", sum := "282b061bb7c6a27a1571ac325086d818c958e3fcae1c22f8102c8c895bce7ee4", checked := Tryz.checked }
namespace Rows
def none {H : Type} : Left H := { results := [], args := [] }

/- WHAT THE LISTED PACKAGE-LEVEL VARIABLES READ AS WHEN THE CALL BEGINS. Each datum BY PROGRAM (the guide's laid-datum.mjs) off the statement by which the dump's own 'gosem.cut.vars' lays the variable. In a bare row this is a premise. The card (YtciiopkbmjppfaaGreatDoorCards.lean) ties it to the program's text. -/
def laid_math_bits_deBruijn32tab {H : Type} : DataW H := .agg [.lit (.int .u8 0), .lit (.int .u8 1), .lit (.int .u8 28), .lit (.int .u8 2), .lit (.int .u8 29), .lit (.int .u8 14), .lit (.int .u8 24), .lit (.int .u8 3), .lit (.int .u8 30), .lit (.int .u8 22), .lit (.int .u8 20), .lit (.int .u8 15), .lit (.int .u8 25), .lit (.int .u8 17), .lit (.int .u8 4), .lit (.int .u8 8), .lit (.int .u8 31), .lit (.int .u8 27), .lit (.int .u8 13), .lit (.int .u8 23), .lit (.int .u8 21), .lit (.int .u8 19), .lit (.int .u8 16), .lit (.int .u8 7), .lit (.int .u8 26), .lit (.int .u8 12), .lit (.int .u8 18), .lit (.int .u8 6), .lit (.int .u8 11), .lit (.int .u8 5), .lit (.int .u8 10), .lit (.int .u8 9)]

/-- 'shuntertop.TopRoom': WHATEVER THE INPUT: true; the input reads as it did. -/
def topRoomSpec : ChangeSpec := { name := "topRoom", fn := fun _ => fun
  | [d1, d2, d3, d4, d5] => { results := [.lit (.bool true)], args := [d1, d2, d3, d4, d5] }
  | _ => none }
def topRoomRow : OpenClaim := { program := "ytciiopkbmjppfaagreatdoor", sum := "282b061bb7c6a27a1571ac325086d818c958e3fcae1c22f8102c8c895bce7ee4", func := "shunter/shuntertop.TopRoom", spec := "topRoom", unfollowed := true, recurses := true, named := ["math/bits.deBruijn32tab"], plainKeys := false, apart := false, laid := [("math/bits.deBruijn32tab", laid_math_bits_deBruijn32tab)] }
def TopRoomSaid : Prop := topRoomRow.holds Tryz.pinned (OpenSpec.ofChange topRoomSpec)

/-- ITS FALSE NEIGHBOUR: 'it returns false'. Refute it at one input. -/
def topRoomWrong : ChangeSpec := { name := "topRoom", fn := fun _ => fun
  | [d1, d2, d3, d4, d5] => { results := [.lit (.bool false)], args := [d1, d2, d3, d4, d5] }
  | _ => none }
def TopRoomWrongFalsely : Prop := topRoomRow.holds Tryz.pinned (OpenSpec.ofChange topRoomWrong)

/-- 'shuntertop.TopExact': WHATEVER THE INPUT: true; the input reads as it did. -/
def topExactSpec : ChangeSpec := { name := "topExact", fn := fun _ => fun
  | [d1, d2, d3, d4, d5] => { results := [.lit (.bool true)], args := [d1, d2, d3, d4, d5] }
  | _ => none }
def topExactRow : OpenClaim := { program := "ytciiopkbmjppfaagreatdoor", sum := "282b061bb7c6a27a1571ac325086d818c958e3fcae1c22f8102c8c895bce7ee4", func := "shunter/shuntertop.TopExact", spec := "topExact", unfollowed := true, recurses := true, named := ["math/bits.deBruijn32tab"], plainKeys := false, apart := false, laid := [("math/bits.deBruijn32tab", laid_math_bits_deBruijn32tab)] }
def TopExactSaid : Prop := topExactRow.holds Tryz.pinned (OpenSpec.ofChange topExactSpec)

/-- ITS FALSE NEIGHBOUR: 'it returns false'. Refute it at one input. -/
def topExactWrong : ChangeSpec := { name := "topExact", fn := fun _ => fun
  | [d1, d2, d3, d4, d5] => { results := [.lit (.bool false)], args := [d1, d2, d3, d4, d5] }
  | _ => none }
def TopExactWrongFalsely : Prop := topExactRow.holds Tryz.pinned (OpenSpec.ofChange topExactWrong)

/-- 'shuntertop.TopRegains': WHATEVER THE INPUT: true; the input reads as it did. -/
def topRegainsSpec : ChangeSpec := { name := "topRegains", fn := fun _ => fun
  | [d1, d2, d3, d4, d5] => { results := [.lit (.bool true)], args := [d1, d2, d3, d4, d5] }
  | _ => none }
def topRegainsRow : OpenClaim := { program := "ytciiopkbmjppfaagreatdoor", sum := "282b061bb7c6a27a1571ac325086d818c958e3fcae1c22f8102c8c895bce7ee4", func := "shunter/shuntertop.TopRegains", spec := "topRegains", unfollowed := true, recurses := true, named := ["math/bits.deBruijn32tab"], plainKeys := false, apart := false, laid := [("math/bits.deBruijn32tab", laid_math_bits_deBruijn32tab)] }
def TopRegainsSaid : Prop := topRegainsRow.holds Tryz.pinned (OpenSpec.ofChange topRegainsSpec)

/-- ITS FALSE NEIGHBOUR: 'it returns false'. Refute it at one input. -/
def topRegainsWrong : ChangeSpec := { name := "topRegains", fn := fun _ => fun
  | [d1, d2, d3, d4, d5] => { results := [.lit (.bool false)], args := [d1, d2, d3, d4, d5] }
  | _ => none }
def TopRegainsWrongFalsely : Prop := topRegainsRow.holds Tryz.pinned (OpenSpec.ofChange topRegainsWrong)

/-- 'shunterlaw17.FabricStraight': WHATEVER THE INPUT: true; the input reads as it did. -/
def fabricStraightSpec : ChangeSpec := { name := "fabricStraight", fn := fun _ => fun
  | [d1, d2, d3, d4, d5, d6, d7, d8] => { results := [.lit (.bool true)], args := [d1, d2, d3, d4, d5, d6, d7, d8] }
  | _ => none }
def fabricStraightRow : OpenClaim := { program := "ytciiopkbmjppfaagreatdoor", sum := "282b061bb7c6a27a1571ac325086d818c958e3fcae1c22f8102c8c895bce7ee4", func := "shunter/shunterlaw17.FabricStraight", spec := "fabricStraight", unfollowed := true, recurses := true, named := ["math/bits.deBruijn32tab"], plainKeys := false, apart := false, laid := [("math/bits.deBruijn32tab", laid_math_bits_deBruijn32tab)] }
def FabricStraightSaid : Prop := fabricStraightRow.holds Tryz.pinned (OpenSpec.ofChange fabricStraightSpec)

/-- ITS FALSE NEIGHBOUR: 'it returns false'. Refute it at one input. -/
def fabricStraightWrong : ChangeSpec := { name := "fabricStraight", fn := fun _ => fun
  | [d1, d2, d3, d4, d5, d6, d7, d8] => { results := [.lit (.bool false)], args := [d1, d2, d3, d4, d5, d6, d7, d8] }
  | _ => none }
def FabricStraightWrongFalsely : Prop := fabricStraightRow.holds Tryz.pinned (OpenSpec.ofChange fabricStraightWrong)

/-- 'shunterlaw18.WatchLost': WHATEVER THE INPUT: true; the input reads as it did. -/
def watchLostSpec : ChangeSpec := { name := "watchLost", fn := fun _ => fun
  | [d1, d2, d3] => { results := [.lit (.bool true)], args := [d1, d2, d3] }
  | _ => none }
def watchLostRow : OpenClaim := { program := "ytciiopkbmjppfaagreatdoor", sum := "282b061bb7c6a27a1571ac325086d818c958e3fcae1c22f8102c8c895bce7ee4", func := "shunter/shunterlaw18.WatchLost", spec := "watchLost", unfollowed := true, recurses := true, named := ["math/bits.deBruijn32tab"], plainKeys := false, apart := false, laid := [("math/bits.deBruijn32tab", laid_math_bits_deBruijn32tab)] }
def WatchLostSaid : Prop := watchLostRow.holds Tryz.pinned (OpenSpec.ofChange watchLostSpec)

/-- ITS FALSE NEIGHBOUR: 'it returns false'. Refute it at one input. -/
def watchLostWrong : ChangeSpec := { name := "watchLost", fn := fun _ => fun
  | [d1, d2, d3] => { results := [.lit (.bool false)], args := [d1, d2, d3] }
  | _ => none }
def WatchLostWrongFalsely : Prop := watchLostRow.holds Tryz.pinned (OpenSpec.ofChange watchLostWrong)

/-- 'shunterlaw18.WatchTwice': WHATEVER THE INPUT: true; the input reads as it did. -/
def watchTwiceSpec : ChangeSpec := { name := "watchTwice", fn := fun _ => fun
  | [d1, d2, d3, d4] => { results := [.lit (.bool true)], args := [d1, d2, d3, d4] }
  | _ => none }
def watchTwiceRow : OpenClaim := { program := "ytciiopkbmjppfaagreatdoor", sum := "282b061bb7c6a27a1571ac325086d818c958e3fcae1c22f8102c8c895bce7ee4", func := "shunter/shunterlaw18.WatchTwice", spec := "watchTwice", unfollowed := true, recurses := true, named := ["math/bits.deBruijn32tab"], plainKeys := false, apart := false, laid := [("math/bits.deBruijn32tab", laid_math_bits_deBruijn32tab)] }
def WatchTwiceSaid : Prop := watchTwiceRow.holds Tryz.pinned (OpenSpec.ofChange watchTwiceSpec)

/-- ITS FALSE NEIGHBOUR: 'it returns false'. Refute it at one input. -/
def watchTwiceWrong : ChangeSpec := { name := "watchTwice", fn := fun _ => fun
  | [d1, d2, d3, d4] => { results := [.lit (.bool false)], args := [d1, d2, d3, d4] }
  | _ => none }
def WatchTwiceWrongFalsely : Prop := watchTwiceRow.holds Tryz.pinned (OpenSpec.ofChange watchTwiceWrong)

/- THE SECOND FORM. 'bulk': how many values and letters a reading holds, each counted each time it is reached (what is shared counts as often as it is met; a slice's spare places count too). A statement '..UptoSaid' is the law's where the arguments, and the package variables that the reading takes, are together of bulk at most 1048576: NARROWER than '..Said'. Prove '..Said' where nothing that the law and all that it calls make is longer than what came in: it says more and counts as full. Else prove '..UptoSaid'. A law counts once. -/
mutual
def uptoBulk {H : Type} : DataW H → Nat
  | .lit (.string bytes) => bytes.length + 1
  | .lit _ => 1
  | .nil => 1
  | .ptr d => uptoBulk d + 1
  | .slice elems spare => uptoBulkAll elems + uptoBulkAll spare + 1
  | .agg parts => uptoBulkAll parts + 1
  | .iface _ d => uptoBulk d + 1
  | .map entries => uptoBulkEntries entries + 1
  | .held _ => 1
def uptoBulkAll {H : Type} : List (DataW H) → Nat
  | [] => 0
  | d :: r => uptoBulk d + uptoBulkAll r
def uptoBulkEntries {H : Type} : List (Lit × DataW H) → Nat
  | [] => 0
  | x :: r => uptoBulkEntry x + uptoBulkEntries r
def uptoBulkEntry {H : Type} : Lit × DataW H → Nat
  | (.string bytes, d) => bytes.length + uptoBulk d + 1
  | (_, d) => uptoBulk d + 1
 end
def uptoSmall : (H : Type) → List (DataW H) → Bool := fun _ ds => decide (uptoBulkAll ds ≤ 1048576)
def OpenSpec.upto (s : _root_.Go.ChangeSpec) : _root_.Go.OpenSpec := { _root_.Go.OpenSpec.ofChange s with cond := some uptoSmall }

/-- 'shuntertop.TopRoom', WHERE WHAT IT READS IS OF BULK AT MOST 1048576: true; the input reads as it did. -/
def topRoomUptoRow : OpenClaim := { program := "ytciiopkbmjppfaagreatdoor", sum := "282b061bb7c6a27a1571ac325086d818c958e3fcae1c22f8102c8c895bce7ee4", func := "shunter/shuntertop.TopRoom", spec := "topRoom", unfollowed := true, recurses := true, named := ["math/bits.deBruijn32tab"], plainKeys := false, apart := false, laid := [("math/bits.deBruijn32tab", laid_math_bits_deBruijn32tab)], narrowed := true }
def TopRoomUptoSaid : Prop := topRoomUptoRow.holds Tryz.pinned (OpenSpec.upto topRoomSpec)

/-- 'shuntertop.TopExact', WHERE WHAT IT READS IS OF BULK AT MOST 1048576: true; the input reads as it did. -/
def topExactUptoRow : OpenClaim := { program := "ytciiopkbmjppfaagreatdoor", sum := "282b061bb7c6a27a1571ac325086d818c958e3fcae1c22f8102c8c895bce7ee4", func := "shunter/shuntertop.TopExact", spec := "topExact", unfollowed := true, recurses := true, named := ["math/bits.deBruijn32tab"], plainKeys := false, apart := false, laid := [("math/bits.deBruijn32tab", laid_math_bits_deBruijn32tab)], narrowed := true }
def TopExactUptoSaid : Prop := topExactUptoRow.holds Tryz.pinned (OpenSpec.upto topExactSpec)

/-- 'shuntertop.TopRegains', WHERE WHAT IT READS IS OF BULK AT MOST 1048576: true; the input reads as it did. -/
def topRegainsUptoRow : OpenClaim := { program := "ytciiopkbmjppfaagreatdoor", sum := "282b061bb7c6a27a1571ac325086d818c958e3fcae1c22f8102c8c895bce7ee4", func := "shunter/shuntertop.TopRegains", spec := "topRegains", unfollowed := true, recurses := true, named := ["math/bits.deBruijn32tab"], plainKeys := false, apart := false, laid := [("math/bits.deBruijn32tab", laid_math_bits_deBruijn32tab)], narrowed := true }
def TopRegainsUptoSaid : Prop := topRegainsUptoRow.holds Tryz.pinned (OpenSpec.upto topRegainsSpec)

/-- 'shunterlaw17.FabricStraight', WHERE WHAT IT READS IS OF BULK AT MOST 1048576: true; the input reads as it did. -/
def fabricStraightUptoRow : OpenClaim := { program := "ytciiopkbmjppfaagreatdoor", sum := "282b061bb7c6a27a1571ac325086d818c958e3fcae1c22f8102c8c895bce7ee4", func := "shunter/shunterlaw17.FabricStraight", spec := "fabricStraight", unfollowed := true, recurses := true, named := ["math/bits.deBruijn32tab"], plainKeys := false, apart := false, laid := [("math/bits.deBruijn32tab", laid_math_bits_deBruijn32tab)], narrowed := true }
def FabricStraightUptoSaid : Prop := fabricStraightUptoRow.holds Tryz.pinned (OpenSpec.upto fabricStraightSpec)

/-- 'shunterlaw18.WatchLost', WHERE WHAT IT READS IS OF BULK AT MOST 1048576: true; the input reads as it did. -/
def watchLostUptoRow : OpenClaim := { program := "ytciiopkbmjppfaagreatdoor", sum := "282b061bb7c6a27a1571ac325086d818c958e3fcae1c22f8102c8c895bce7ee4", func := "shunter/shunterlaw18.WatchLost", spec := "watchLost", unfollowed := true, recurses := true, named := ["math/bits.deBruijn32tab"], plainKeys := false, apart := false, laid := [("math/bits.deBruijn32tab", laid_math_bits_deBruijn32tab)], narrowed := true }
def WatchLostUptoSaid : Prop := watchLostUptoRow.holds Tryz.pinned (OpenSpec.upto watchLostSpec)

/-- 'shunterlaw18.WatchTwice', WHERE WHAT IT READS IS OF BULK AT MOST 1048576: true; the input reads as it did. -/
def watchTwiceUptoRow : OpenClaim := { program := "ytciiopkbmjppfaagreatdoor", sum := "282b061bb7c6a27a1571ac325086d818c958e3fcae1c22f8102c8c895bce7ee4", func := "shunter/shunterlaw18.WatchTwice", spec := "watchTwice", unfollowed := true, recurses := true, named := ["math/bits.deBruijn32tab"], plainKeys := false, apart := false, laid := [("math/bits.deBruijn32tab", laid_math_bits_deBruijn32tab)], narrowed := true }
def WatchTwiceUptoSaid : Prop := watchTwiceUptoRow.holds Tryz.pinned (OpenSpec.upto watchTwiceSpec)

end Rows
end Go.Proofs.YtciiopkbmjppfaaGreatDoor
