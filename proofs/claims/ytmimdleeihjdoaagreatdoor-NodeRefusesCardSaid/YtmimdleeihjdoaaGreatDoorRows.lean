/-
  NARROWER THAN 'FOR EVERY INPUT', by the rows' own cells (each row's printed sentence says how): TopRoom: laid · TopExact: laid · TopRegains: laid · NodeInjects: laid · NodeTells: laid · NodePlans: laid · NodePasses: laid · NodeRefuses: laid · NodeBounds: laid · NodeDoes: laid · WatchFresh: laid · FabricOwn: laid · FabricIdle: laid · FabricStraight: laid · FabricArgs: laid · FabricDoes: laid · FabricPlans: laid · WatchLost: laid · WatchTwice: laid · WatchTells: laid · WatchSums: laid.
  DERIVED. THE GIVEN ROWS OF THIS SEAT. 21 by the template 'for every input the law returns true; each argument reads behind the call as it read before'; 0 by the template 'total and deterministic' (their statements: YtmimdleeihjdoaaGreatDoorTotals.lean).
  GIVEN WITH THE SEED: the statements are not yours to turn. If you find one false, say at which input.
  Laid BY PROGRAM, IN A SANDBOX (cutbox-rows.mjs): the forced cells as the released guide's own fill.sh prints them over the translation 06d0975796e4f693… (all of the seat's roots in one cut). By AI agents, Wed Nov 11 2026. No macro, syntax, notation, axiom, sorry.
-/
import Derived.Test.YtmimdleeihjdoaaGreatDoorChecked
import GoSem.Claim
import GoSem.ClaimJoined
import GoSem.ClaimMapViews
import Derived.JoinedTies
import Derived.KernelRfl
namespace Go.Proofs.YtmimdleeihjdoaaGreatDoor
/- THE CELL 'sum', in the pinned program and in every row, IS THE sha256 OF THE DUMP (.gsa) THAT YtmimdleeihjdoaaGreatDoorProg.lean LOADS. Nothing in Lean hashes anything: it is a label: what it is worth is what the hold of that sum in a sandbox is worth. -/
noncomputable def Tryz.pinned : Pinned := { name := "ytmimdleeihjdoaagreatdoor", sum := "06d0975796e4f69389509351bf07bd8788eded0bcd86ff34a8344f32f664bff7", checked := Tryz.checked }
namespace Rows
def none {H : Type} : Left H := { results := [], args := [] }

/- WHAT THE LISTED PACKAGE-LEVEL VARIABLES READ AS WHEN THE CALL BEGINS. Each datum BY PROGRAM (the guide's laid-datum.mjs) off the statement by which the dump's own 'gosem.cut.vars' lays the variable. In a bare row this is a premise. The card (YtmimdleeihjdoaaGreatDoorCards.lean) ties it to the program's text. -/
def laid_math_bits_deBruijn32tab {H : Type} : DataW H := .agg [.lit (.int .u8 0), .lit (.int .u8 1), .lit (.int .u8 28), .lit (.int .u8 2), .lit (.int .u8 29), .lit (.int .u8 14), .lit (.int .u8 24), .lit (.int .u8 3), .lit (.int .u8 30), .lit (.int .u8 22), .lit (.int .u8 20), .lit (.int .u8 15), .lit (.int .u8 25), .lit (.int .u8 17), .lit (.int .u8 4), .lit (.int .u8 8), .lit (.int .u8 31), .lit (.int .u8 27), .lit (.int .u8 13), .lit (.int .u8 23), .lit (.int .u8 21), .lit (.int .u8 19), .lit (.int .u8 16), .lit (.int .u8 7), .lit (.int .u8 26), .lit (.int .u8 12), .lit (.int .u8 18), .lit (.int .u8 6), .lit (.int .u8 11), .lit (.int .u8 5), .lit (.int .u8 10), .lit (.int .u8 9)]

/-- 'shuntertop.TopRoom': WHATEVER THE INPUT: true; the input reads as it did. -/
def topRoomSpec : ChangeSpec := { name := "topRoom", fn := fun _ => fun
  | [d1, d2, d3, d4, d5] => { results := [.lit (.bool true)], args := [d1, d2, d3, d4, d5] }
  | _ => none }
def topRoomRow : OpenClaim := { program := "ytmimdleeihjdoaagreatdoor", sum := "06d0975796e4f69389509351bf07bd8788eded0bcd86ff34a8344f32f664bff7", func := "shunter/shuntertop.TopRoom", spec := "topRoom", unfollowed := true, recurses := true, named := ["math/bits.deBruijn32tab"], plainKeys := false, apart := false, laid := [("math/bits.deBruijn32tab", laid_math_bits_deBruijn32tab)] }
def TopRoomSaid : Prop := topRoomRow.holds Tryz.pinned (OpenSpec.ofChange topRoomSpec)

/-- ITS FALSE NEIGHBOUR: 'it returns false'. Refute it at one input. -/
def topRoomWrong : ChangeSpec := { name := "topRoom", fn := fun _ => fun
  | [d1, d2, d3, d4, d5] => { results := [.lit (.bool false)], args := [d1, d2, d3, d4, d5] }
  | _ => none }
def TopRoomWrongFalsely : Prop := topRoomRow.holds Tryz.pinned (OpenSpec.ofChange topRoomWrong)

/-- 'shuntertop.TopExact': WHATEVER THE INPUT: true; the input reads as it did. -/
def topExactSpec : ChangeSpec := { name := "topExact", fn := fun _ => fun
  | [d1, d2, d3, d4, d5] => { results := [.lit (.bool true)], args := [d1, d2, d3, d4, d5] }
  | _ => none }
def topExactRow : OpenClaim := { program := "ytmimdleeihjdoaagreatdoor", sum := "06d0975796e4f69389509351bf07bd8788eded0bcd86ff34a8344f32f664bff7", func := "shunter/shuntertop.TopExact", spec := "topExact", unfollowed := true, recurses := true, named := ["math/bits.deBruijn32tab"], plainKeys := false, apart := false, laid := [("math/bits.deBruijn32tab", laid_math_bits_deBruijn32tab)] }
def TopExactSaid : Prop := topExactRow.holds Tryz.pinned (OpenSpec.ofChange topExactSpec)

/-- ITS FALSE NEIGHBOUR: 'it returns false'. Refute it at one input. -/
def topExactWrong : ChangeSpec := { name := "topExact", fn := fun _ => fun
  | [d1, d2, d3, d4, d5] => { results := [.lit (.bool false)], args := [d1, d2, d3, d4, d5] }
  | _ => none }
def TopExactWrongFalsely : Prop := topExactRow.holds Tryz.pinned (OpenSpec.ofChange topExactWrong)

/-- 'shuntertop.TopRegains': WHATEVER THE INPUT: true; the input reads as it did. -/
def topRegainsSpec : ChangeSpec := { name := "topRegains", fn := fun _ => fun
  | [d1, d2, d3, d4, d5] => { results := [.lit (.bool true)], args := [d1, d2, d3, d4, d5] }
  | _ => none }
def topRegainsRow : OpenClaim := { program := "ytmimdleeihjdoaagreatdoor", sum := "06d0975796e4f69389509351bf07bd8788eded0bcd86ff34a8344f32f664bff7", func := "shunter/shuntertop.TopRegains", spec := "topRegains", unfollowed := true, recurses := true, named := ["math/bits.deBruijn32tab"], plainKeys := false, apart := false, laid := [("math/bits.deBruijn32tab", laid_math_bits_deBruijn32tab)] }
def TopRegainsSaid : Prop := topRegainsRow.holds Tryz.pinned (OpenSpec.ofChange topRegainsSpec)

/-- ITS FALSE NEIGHBOUR: 'it returns false'. Refute it at one input. -/
def topRegainsWrong : ChangeSpec := { name := "topRegains", fn := fun _ => fun
  | [d1, d2, d3, d4, d5] => { results := [.lit (.bool false)], args := [d1, d2, d3, d4, d5] }
  | _ => none }
def TopRegainsWrongFalsely : Prop := topRegainsRow.holds Tryz.pinned (OpenSpec.ofChange topRegainsWrong)

/-- 'shunterlaw16.NodeInjects': WHATEVER THE INPUT: true; the input reads as it did. -/
def nodeInjectsSpec : ChangeSpec := { name := "nodeInjects", fn := fun _ => fun
  | [d1, d2, d3, d4, d5] => { results := [.lit (.bool true)], args := [d1, d2, d3, d4, d5] }
  | _ => none }
def nodeInjectsRow : OpenClaim := { program := "ytmimdleeihjdoaagreatdoor", sum := "06d0975796e4f69389509351bf07bd8788eded0bcd86ff34a8344f32f664bff7", func := "shunter/shunterlaw16.NodeInjects", spec := "nodeInjects", unfollowed := true, recurses := true, named := ["math/bits.deBruijn32tab"], plainKeys := false, apart := false, laid := [("math/bits.deBruijn32tab", laid_math_bits_deBruijn32tab)] }
def NodeInjectsSaid : Prop := nodeInjectsRow.holds Tryz.pinned (OpenSpec.ofChange nodeInjectsSpec)

/-- ITS FALSE NEIGHBOUR: 'it returns false'. Refute it at one input. -/
def nodeInjectsWrong : ChangeSpec := { name := "nodeInjects", fn := fun _ => fun
  | [d1, d2, d3, d4, d5] => { results := [.lit (.bool false)], args := [d1, d2, d3, d4, d5] }
  | _ => none }
def NodeInjectsWrongFalsely : Prop := nodeInjectsRow.holds Tryz.pinned (OpenSpec.ofChange nodeInjectsWrong)

/-- 'shunterlaw16.NodeTells': WHATEVER THE INPUT: true; the input reads as it did. -/
def nodeTellsSpec : ChangeSpec := { name := "nodeTells", fn := fun _ => fun
  | [d1, d2, d3, d4, d5, d6] => { results := [.lit (.bool true)], args := [d1, d2, d3, d4, d5, d6] }
  | _ => none }
def nodeTellsRow : OpenClaim := { program := "ytmimdleeihjdoaagreatdoor", sum := "06d0975796e4f69389509351bf07bd8788eded0bcd86ff34a8344f32f664bff7", func := "shunter/shunterlaw16.NodeTells", spec := "nodeTells", unfollowed := true, recurses := true, named := ["math/bits.deBruijn32tab"], plainKeys := false, apart := false, laid := [("math/bits.deBruijn32tab", laid_math_bits_deBruijn32tab)] }
def NodeTellsSaid : Prop := nodeTellsRow.holds Tryz.pinned (OpenSpec.ofChange nodeTellsSpec)

/-- ITS FALSE NEIGHBOUR: 'it returns false'. Refute it at one input. -/
def nodeTellsWrong : ChangeSpec := { name := "nodeTells", fn := fun _ => fun
  | [d1, d2, d3, d4, d5, d6] => { results := [.lit (.bool false)], args := [d1, d2, d3, d4, d5, d6] }
  | _ => none }
def NodeTellsWrongFalsely : Prop := nodeTellsRow.holds Tryz.pinned (OpenSpec.ofChange nodeTellsWrong)

/-- 'shunterlaw16.NodePlans': WHATEVER THE INPUT: true; the input reads as it did. -/
def nodePlansSpec : ChangeSpec := { name := "nodePlans", fn := fun _ => fun
  | [d1, d2, d3, d4, d5, d6, d7] => { results := [.lit (.bool true)], args := [d1, d2, d3, d4, d5, d6, d7] }
  | _ => none }
def nodePlansRow : OpenClaim := { program := "ytmimdleeihjdoaagreatdoor", sum := "06d0975796e4f69389509351bf07bd8788eded0bcd86ff34a8344f32f664bff7", func := "shunter/shunterlaw16.NodePlans", spec := "nodePlans", unfollowed := true, recurses := true, named := ["math/bits.deBruijn32tab"], plainKeys := false, apart := false, laid := [("math/bits.deBruijn32tab", laid_math_bits_deBruijn32tab)] }
def NodePlansSaid : Prop := nodePlansRow.holds Tryz.pinned (OpenSpec.ofChange nodePlansSpec)

/-- ITS FALSE NEIGHBOUR: 'it returns false'. Refute it at one input. -/
def nodePlansWrong : ChangeSpec := { name := "nodePlans", fn := fun _ => fun
  | [d1, d2, d3, d4, d5, d6, d7] => { results := [.lit (.bool false)], args := [d1, d2, d3, d4, d5, d6, d7] }
  | _ => none }
def NodePlansWrongFalsely : Prop := nodePlansRow.holds Tryz.pinned (OpenSpec.ofChange nodePlansWrong)

/-- 'shunterlaw16.NodePasses': WHATEVER THE INPUT: true; the input reads as it did. -/
def nodePassesSpec : ChangeSpec := { name := "nodePasses", fn := fun _ => fun
  | [d1, d2, d3] => { results := [.lit (.bool true)], args := [d1, d2, d3] }
  | _ => none }
def nodePassesRow : OpenClaim := { program := "ytmimdleeihjdoaagreatdoor", sum := "06d0975796e4f69389509351bf07bd8788eded0bcd86ff34a8344f32f664bff7", func := "shunter/shunterlaw16.NodePasses", spec := "nodePasses", unfollowed := true, recurses := true, named := ["math/bits.deBruijn32tab"], plainKeys := false, apart := false, laid := [("math/bits.deBruijn32tab", laid_math_bits_deBruijn32tab)] }
def NodePassesSaid : Prop := nodePassesRow.holds Tryz.pinned (OpenSpec.ofChange nodePassesSpec)

/-- ITS FALSE NEIGHBOUR: 'it returns false'. Refute it at one input. -/
def nodePassesWrong : ChangeSpec := { name := "nodePasses", fn := fun _ => fun
  | [d1, d2, d3] => { results := [.lit (.bool false)], args := [d1, d2, d3] }
  | _ => none }
def NodePassesWrongFalsely : Prop := nodePassesRow.holds Tryz.pinned (OpenSpec.ofChange nodePassesWrong)

/-- 'shunterlaw16.NodeRefuses': WHATEVER THE INPUT: true; the input reads as it did. -/
def nodeRefusesSpec : ChangeSpec := { name := "nodeRefuses", fn := fun _ => fun
  | [d1, d2, d3, d4, d5, d6, d7] => { results := [.lit (.bool true)], args := [d1, d2, d3, d4, d5, d6, d7] }
  | _ => none }
def nodeRefusesRow : OpenClaim := { program := "ytmimdleeihjdoaagreatdoor", sum := "06d0975796e4f69389509351bf07bd8788eded0bcd86ff34a8344f32f664bff7", func := "shunter/shunterlaw16.NodeRefuses", spec := "nodeRefuses", unfollowed := true, recurses := true, named := ["math/bits.deBruijn32tab"], plainKeys := false, apart := false, laid := [("math/bits.deBruijn32tab", laid_math_bits_deBruijn32tab)] }
def NodeRefusesSaid : Prop := nodeRefusesRow.holds Tryz.pinned (OpenSpec.ofChange nodeRefusesSpec)

/-- ITS FALSE NEIGHBOUR: 'it returns false'. Refute it at one input. -/
def nodeRefusesWrong : ChangeSpec := { name := "nodeRefuses", fn := fun _ => fun
  | [d1, d2, d3, d4, d5, d6, d7] => { results := [.lit (.bool false)], args := [d1, d2, d3, d4, d5, d6, d7] }
  | _ => none }
def NodeRefusesWrongFalsely : Prop := nodeRefusesRow.holds Tryz.pinned (OpenSpec.ofChange nodeRefusesWrong)

/-- 'shunterlaw16.NodeBounds': WHATEVER THE INPUT: true; the input reads as it did. -/
def nodeBoundsSpec : ChangeSpec := { name := "nodeBounds", fn := fun _ => fun
  | [d1, d2, d3, d4, d5, d6] => { results := [.lit (.bool true)], args := [d1, d2, d3, d4, d5, d6] }
  | _ => none }
def nodeBoundsRow : OpenClaim := { program := "ytmimdleeihjdoaagreatdoor", sum := "06d0975796e4f69389509351bf07bd8788eded0bcd86ff34a8344f32f664bff7", func := "shunter/shunterlaw16.NodeBounds", spec := "nodeBounds", unfollowed := true, recurses := true, named := ["math/bits.deBruijn32tab"], plainKeys := false, apart := false, laid := [("math/bits.deBruijn32tab", laid_math_bits_deBruijn32tab)] }
def NodeBoundsSaid : Prop := nodeBoundsRow.holds Tryz.pinned (OpenSpec.ofChange nodeBoundsSpec)

/-- ITS FALSE NEIGHBOUR: 'it returns false'. Refute it at one input. -/
def nodeBoundsWrong : ChangeSpec := { name := "nodeBounds", fn := fun _ => fun
  | [d1, d2, d3, d4, d5, d6] => { results := [.lit (.bool false)], args := [d1, d2, d3, d4, d5, d6] }
  | _ => none }
def NodeBoundsWrongFalsely : Prop := nodeBoundsRow.holds Tryz.pinned (OpenSpec.ofChange nodeBoundsWrong)

/-- 'shunterlaw16.NodeDoes': WHATEVER THE INPUT: true; the input reads as it did. -/
def nodeDoesSpec : ChangeSpec := { name := "nodeDoes", fn := fun _ => fun
  | [d1, d2, d3, d4, d5, d6] => { results := [.lit (.bool true)], args := [d1, d2, d3, d4, d5, d6] }
  | _ => none }
def nodeDoesRow : OpenClaim := { program := "ytmimdleeihjdoaagreatdoor", sum := "06d0975796e4f69389509351bf07bd8788eded0bcd86ff34a8344f32f664bff7", func := "shunter/shunterlaw16.NodeDoes", spec := "nodeDoes", unfollowed := true, recurses := true, named := ["math/bits.deBruijn32tab"], plainKeys := false, apart := false, laid := [("math/bits.deBruijn32tab", laid_math_bits_deBruijn32tab)] }
def NodeDoesSaid : Prop := nodeDoesRow.holds Tryz.pinned (OpenSpec.ofChange nodeDoesSpec)

/-- ITS FALSE NEIGHBOUR: 'it returns false'. Refute it at one input. -/
def nodeDoesWrong : ChangeSpec := { name := "nodeDoes", fn := fun _ => fun
  | [d1, d2, d3, d4, d5, d6] => { results := [.lit (.bool false)], args := [d1, d2, d3, d4, d5, d6] }
  | _ => none }
def NodeDoesWrongFalsely : Prop := nodeDoesRow.holds Tryz.pinned (OpenSpec.ofChange nodeDoesWrong)

/-- 'shunterlaw18.WatchFresh': WHATEVER THE INPUT: true; the input reads as it did. -/
def watchFreshSpec : ChangeSpec := { name := "watchFresh", fn := fun _ => fun
  | [d1, d2, d3, d4, d5] => { results := [.lit (.bool true)], args := [d1, d2, d3, d4, d5] }
  | _ => none }
def watchFreshRow : OpenClaim := { program := "ytmimdleeihjdoaagreatdoor", sum := "06d0975796e4f69389509351bf07bd8788eded0bcd86ff34a8344f32f664bff7", func := "shunter/shunterlaw18.WatchFresh", spec := "watchFresh", unfollowed := true, recurses := true, named := ["math/bits.deBruijn32tab"], plainKeys := false, apart := false, laid := [("math/bits.deBruijn32tab", laid_math_bits_deBruijn32tab)] }
def WatchFreshSaid : Prop := watchFreshRow.holds Tryz.pinned (OpenSpec.ofChange watchFreshSpec)

/-- ITS FALSE NEIGHBOUR: 'it returns false'. Refute it at one input. -/
def watchFreshWrong : ChangeSpec := { name := "watchFresh", fn := fun _ => fun
  | [d1, d2, d3, d4, d5] => { results := [.lit (.bool false)], args := [d1, d2, d3, d4, d5] }
  | _ => none }
def WatchFreshWrongFalsely : Prop := watchFreshRow.holds Tryz.pinned (OpenSpec.ofChange watchFreshWrong)

/-- 'shunterlaw17.FabricOwn': WHATEVER THE INPUT: true; the input reads as it did. -/
def fabricOwnSpec : ChangeSpec := { name := "fabricOwn", fn := fun _ => fun
  | [d1, d2, d3, d4] => { results := [.lit (.bool true)], args := [d1, d2, d3, d4] }
  | _ => none }
def fabricOwnRow : OpenClaim := { program := "ytmimdleeihjdoaagreatdoor", sum := "06d0975796e4f69389509351bf07bd8788eded0bcd86ff34a8344f32f664bff7", func := "shunter/shunterlaw17.FabricOwn", spec := "fabricOwn", unfollowed := true, recurses := true, named := ["math/bits.deBruijn32tab"], plainKeys := false, apart := false, laid := [("math/bits.deBruijn32tab", laid_math_bits_deBruijn32tab)] }
def FabricOwnSaid : Prop := fabricOwnRow.holds Tryz.pinned (OpenSpec.ofChange fabricOwnSpec)

/-- ITS FALSE NEIGHBOUR: 'it returns false'. Refute it at one input. -/
def fabricOwnWrong : ChangeSpec := { name := "fabricOwn", fn := fun _ => fun
  | [d1, d2, d3, d4] => { results := [.lit (.bool false)], args := [d1, d2, d3, d4] }
  | _ => none }
def FabricOwnWrongFalsely : Prop := fabricOwnRow.holds Tryz.pinned (OpenSpec.ofChange fabricOwnWrong)

/-- 'shunterlaw17.FabricIdle': WHATEVER THE INPUT: true; the input reads as it did. -/
def fabricIdleSpec : ChangeSpec := { name := "fabricIdle", fn := fun _ => fun
  | [d1, d2, d3, d4, d5] => { results := [.lit (.bool true)], args := [d1, d2, d3, d4, d5] }
  | _ => none }
def fabricIdleRow : OpenClaim := { program := "ytmimdleeihjdoaagreatdoor", sum := "06d0975796e4f69389509351bf07bd8788eded0bcd86ff34a8344f32f664bff7", func := "shunter/shunterlaw17.FabricIdle", spec := "fabricIdle", unfollowed := true, recurses := true, named := ["math/bits.deBruijn32tab"], plainKeys := false, apart := false, laid := [("math/bits.deBruijn32tab", laid_math_bits_deBruijn32tab)] }
def FabricIdleSaid : Prop := fabricIdleRow.holds Tryz.pinned (OpenSpec.ofChange fabricIdleSpec)

/-- ITS FALSE NEIGHBOUR: 'it returns false'. Refute it at one input. -/
def fabricIdleWrong : ChangeSpec := { name := "fabricIdle", fn := fun _ => fun
  | [d1, d2, d3, d4, d5] => { results := [.lit (.bool false)], args := [d1, d2, d3, d4, d5] }
  | _ => none }
def FabricIdleWrongFalsely : Prop := fabricIdleRow.holds Tryz.pinned (OpenSpec.ofChange fabricIdleWrong)

/-- 'shunterlaw17.FabricStraight': WHATEVER THE INPUT: true; the input reads as it did. -/
def fabricStraightSpec : ChangeSpec := { name := "fabricStraight", fn := fun _ => fun
  | [d1, d2, d3, d4, d5, d6, d7, d8] => { results := [.lit (.bool true)], args := [d1, d2, d3, d4, d5, d6, d7, d8] }
  | _ => none }
def fabricStraightRow : OpenClaim := { program := "ytmimdleeihjdoaagreatdoor", sum := "06d0975796e4f69389509351bf07bd8788eded0bcd86ff34a8344f32f664bff7", func := "shunter/shunterlaw17.FabricStraight", spec := "fabricStraight", unfollowed := true, recurses := true, named := ["math/bits.deBruijn32tab"], plainKeys := false, apart := false, laid := [("math/bits.deBruijn32tab", laid_math_bits_deBruijn32tab)] }
def FabricStraightSaid : Prop := fabricStraightRow.holds Tryz.pinned (OpenSpec.ofChange fabricStraightSpec)

/-- ITS FALSE NEIGHBOUR: 'it returns false'. Refute it at one input. -/
def fabricStraightWrong : ChangeSpec := { name := "fabricStraight", fn := fun _ => fun
  | [d1, d2, d3, d4, d5, d6, d7, d8] => { results := [.lit (.bool false)], args := [d1, d2, d3, d4, d5, d6, d7, d8] }
  | _ => none }
def FabricStraightWrongFalsely : Prop := fabricStraightRow.holds Tryz.pinned (OpenSpec.ofChange fabricStraightWrong)

/-- 'shunterlaw17.FabricArgs': WHATEVER THE INPUT: true; the input reads as it did. -/
def fabricArgsSpec : ChangeSpec := { name := "fabricArgs", fn := fun _ => fun
  | [d1, d2, d3, d4, d5] => { results := [.lit (.bool true)], args := [d1, d2, d3, d4, d5] }
  | _ => none }
def fabricArgsRow : OpenClaim := { program := "ytmimdleeihjdoaagreatdoor", sum := "06d0975796e4f69389509351bf07bd8788eded0bcd86ff34a8344f32f664bff7", func := "shunter/shunterlaw17.FabricArgs", spec := "fabricArgs", unfollowed := true, recurses := true, named := ["math/bits.deBruijn32tab"], plainKeys := false, apart := false, laid := [("math/bits.deBruijn32tab", laid_math_bits_deBruijn32tab)] }
def FabricArgsSaid : Prop := fabricArgsRow.holds Tryz.pinned (OpenSpec.ofChange fabricArgsSpec)

/-- ITS FALSE NEIGHBOUR: 'it returns false'. Refute it at one input. -/
def fabricArgsWrong : ChangeSpec := { name := "fabricArgs", fn := fun _ => fun
  | [d1, d2, d3, d4, d5] => { results := [.lit (.bool false)], args := [d1, d2, d3, d4, d5] }
  | _ => none }
def FabricArgsWrongFalsely : Prop := fabricArgsRow.holds Tryz.pinned (OpenSpec.ofChange fabricArgsWrong)

/-- 'shunterlaw17.FabricDoes': WHATEVER THE INPUT: true; the input reads as it did. -/
def fabricDoesSpec : ChangeSpec := { name := "fabricDoes", fn := fun _ => fun
  | [d1, d2, d3, d4, d5] => { results := [.lit (.bool true)], args := [d1, d2, d3, d4, d5] }
  | _ => none }
def fabricDoesRow : OpenClaim := { program := "ytmimdleeihjdoaagreatdoor", sum := "06d0975796e4f69389509351bf07bd8788eded0bcd86ff34a8344f32f664bff7", func := "shunter/shunterlaw17.FabricDoes", spec := "fabricDoes", unfollowed := true, recurses := true, named := ["math/bits.deBruijn32tab"], plainKeys := false, apart := false, laid := [("math/bits.deBruijn32tab", laid_math_bits_deBruijn32tab)] }
def FabricDoesSaid : Prop := fabricDoesRow.holds Tryz.pinned (OpenSpec.ofChange fabricDoesSpec)

/-- ITS FALSE NEIGHBOUR: 'it returns false'. Refute it at one input. -/
def fabricDoesWrong : ChangeSpec := { name := "fabricDoes", fn := fun _ => fun
  | [d1, d2, d3, d4, d5] => { results := [.lit (.bool false)], args := [d1, d2, d3, d4, d5] }
  | _ => none }
def FabricDoesWrongFalsely : Prop := fabricDoesRow.holds Tryz.pinned (OpenSpec.ofChange fabricDoesWrong)

/-- 'shunterlaw17.FabricPlans': WHATEVER THE INPUT: true; the input reads as it did. -/
def fabricPlansSpec : ChangeSpec := { name := "fabricPlans", fn := fun _ => fun
  | [d1, d2, d3, d4, d5, d6, d7] => { results := [.lit (.bool true)], args := [d1, d2, d3, d4, d5, d6, d7] }
  | _ => none }
def fabricPlansRow : OpenClaim := { program := "ytmimdleeihjdoaagreatdoor", sum := "06d0975796e4f69389509351bf07bd8788eded0bcd86ff34a8344f32f664bff7", func := "shunter/shunterlaw17.FabricPlans", spec := "fabricPlans", unfollowed := true, recurses := true, named := ["math/bits.deBruijn32tab"], plainKeys := false, apart := false, laid := [("math/bits.deBruijn32tab", laid_math_bits_deBruijn32tab)] }
def FabricPlansSaid : Prop := fabricPlansRow.holds Tryz.pinned (OpenSpec.ofChange fabricPlansSpec)

/-- ITS FALSE NEIGHBOUR: 'it returns false'. Refute it at one input. -/
def fabricPlansWrong : ChangeSpec := { name := "fabricPlans", fn := fun _ => fun
  | [d1, d2, d3, d4, d5, d6, d7] => { results := [.lit (.bool false)], args := [d1, d2, d3, d4, d5, d6, d7] }
  | _ => none }
def FabricPlansWrongFalsely : Prop := fabricPlansRow.holds Tryz.pinned (OpenSpec.ofChange fabricPlansWrong)

/-- 'shunterlaw18.WatchLost': WHATEVER THE INPUT: true; the input reads as it did. -/
def watchLostSpec : ChangeSpec := { name := "watchLost", fn := fun _ => fun
  | [d1, d2, d3] => { results := [.lit (.bool true)], args := [d1, d2, d3] }
  | _ => none }
def watchLostRow : OpenClaim := { program := "ytmimdleeihjdoaagreatdoor", sum := "06d0975796e4f69389509351bf07bd8788eded0bcd86ff34a8344f32f664bff7", func := "shunter/shunterlaw18.WatchLost", spec := "watchLost", unfollowed := true, recurses := true, named := ["math/bits.deBruijn32tab"], plainKeys := false, apart := false, laid := [("math/bits.deBruijn32tab", laid_math_bits_deBruijn32tab)] }
def WatchLostSaid : Prop := watchLostRow.holds Tryz.pinned (OpenSpec.ofChange watchLostSpec)

/-- ITS FALSE NEIGHBOUR: 'it returns false'. Refute it at one input. -/
def watchLostWrong : ChangeSpec := { name := "watchLost", fn := fun _ => fun
  | [d1, d2, d3] => { results := [.lit (.bool false)], args := [d1, d2, d3] }
  | _ => none }
def WatchLostWrongFalsely : Prop := watchLostRow.holds Tryz.pinned (OpenSpec.ofChange watchLostWrong)

/-- 'shunterlaw18.WatchTwice': WHATEVER THE INPUT: true; the input reads as it did. -/
def watchTwiceSpec : ChangeSpec := { name := "watchTwice", fn := fun _ => fun
  | [d1, d2, d3, d4] => { results := [.lit (.bool true)], args := [d1, d2, d3, d4] }
  | _ => none }
def watchTwiceRow : OpenClaim := { program := "ytmimdleeihjdoaagreatdoor", sum := "06d0975796e4f69389509351bf07bd8788eded0bcd86ff34a8344f32f664bff7", func := "shunter/shunterlaw18.WatchTwice", spec := "watchTwice", unfollowed := true, recurses := true, named := ["math/bits.deBruijn32tab"], plainKeys := false, apart := false, laid := [("math/bits.deBruijn32tab", laid_math_bits_deBruijn32tab)] }
def WatchTwiceSaid : Prop := watchTwiceRow.holds Tryz.pinned (OpenSpec.ofChange watchTwiceSpec)

/-- ITS FALSE NEIGHBOUR: 'it returns false'. Refute it at one input. -/
def watchTwiceWrong : ChangeSpec := { name := "watchTwice", fn := fun _ => fun
  | [d1, d2, d3, d4] => { results := [.lit (.bool false)], args := [d1, d2, d3, d4] }
  | _ => none }
def WatchTwiceWrongFalsely : Prop := watchTwiceRow.holds Tryz.pinned (OpenSpec.ofChange watchTwiceWrong)

/-- 'shunterlaw18.WatchTells': WHATEVER THE INPUT: true; the input reads as it did. -/
def watchTellsSpec : ChangeSpec := { name := "watchTells", fn := fun _ => fun
  | [d1, d2, d3, d4, d5, d6, d7] => { results := [.lit (.bool true)], args := [d1, d2, d3, d4, d5, d6, d7] }
  | _ => none }
def watchTellsRow : OpenClaim := { program := "ytmimdleeihjdoaagreatdoor", sum := "06d0975796e4f69389509351bf07bd8788eded0bcd86ff34a8344f32f664bff7", func := "shunter/shunterlaw18.WatchTells", spec := "watchTells", unfollowed := true, recurses := true, named := ["math/bits.deBruijn32tab"], plainKeys := false, apart := false, laid := [("math/bits.deBruijn32tab", laid_math_bits_deBruijn32tab)] }
def WatchTellsSaid : Prop := watchTellsRow.holds Tryz.pinned (OpenSpec.ofChange watchTellsSpec)

/-- ITS FALSE NEIGHBOUR: 'it returns false'. Refute it at one input. -/
def watchTellsWrong : ChangeSpec := { name := "watchTells", fn := fun _ => fun
  | [d1, d2, d3, d4, d5, d6, d7] => { results := [.lit (.bool false)], args := [d1, d2, d3, d4, d5, d6, d7] }
  | _ => none }
def WatchTellsWrongFalsely : Prop := watchTellsRow.holds Tryz.pinned (OpenSpec.ofChange watchTellsWrong)

/-- 'shunterlaw18.WatchSums': WHATEVER THE INPUT: true; the input reads as it did. -/
def watchSumsSpec : ChangeSpec := { name := "watchSums", fn := fun _ => fun
  | [d1, d2, d3, d4, d5] => { results := [.lit (.bool true)], args := [d1, d2, d3, d4, d5] }
  | _ => none }
def watchSumsRow : OpenClaim := { program := "ytmimdleeihjdoaagreatdoor", sum := "06d0975796e4f69389509351bf07bd8788eded0bcd86ff34a8344f32f664bff7", func := "shunter/shunterlaw18.WatchSums", spec := "watchSums", unfollowed := true, recurses := true, named := ["math/bits.deBruijn32tab"], plainKeys := false, apart := false, laid := [("math/bits.deBruijn32tab", laid_math_bits_deBruijn32tab)] }
def WatchSumsSaid : Prop := watchSumsRow.holds Tryz.pinned (OpenSpec.ofChange watchSumsSpec)

/-- ITS FALSE NEIGHBOUR: 'it returns false'. Refute it at one input. -/
def watchSumsWrong : ChangeSpec := { name := "watchSums", fn := fun _ => fun
  | [d1, d2, d3, d4, d5] => { results := [.lit (.bool false)], args := [d1, d2, d3, d4, d5] }
  | _ => none }
def WatchSumsWrongFalsely : Prop := watchSumsRow.holds Tryz.pinned (OpenSpec.ofChange watchSumsWrong)

/- THE SECOND FORM. 'bulk': how many values and letters a reading holds, each counted each time it is reached (what is shared counts as often as it is met; a slice's spare places count too). A statement '..UptoSaid' is the law's where the arguments, and the package variables that the reading takes, are together of bulk at most 1048576: NARROWER than '..Said'. Prove '..Said' where nothing that the law and all that it calls make is longer than what came in: it says more and counts as full. Else prove '..UptoSaid'. A law counts once. -/
mutual
def uptoBulk {H : Type} : DataW H → Nat
  | .lit (.string bytes) => bytes.length + 1
  | .lit _ => 1
  | .nil => 1
  | .ptr d => uptoBulk d + 1
  | .slice elems spare => uptoBulkAll elems + uptoBulkAll spare + 1
  | .agg parts => uptoBulkAll parts + 1
  | .iface _ d => uptoBulk d + 1
  | .map entries => uptoBulkEntries entries + 1
  | .held _ => 1
def uptoBulkAll {H : Type} : List (DataW H) → Nat
  | [] => 0
  | d :: r => uptoBulk d + uptoBulkAll r
def uptoBulkEntries {H : Type} : List (Lit × DataW H) → Nat
  | [] => 0
  | x :: r => uptoBulkEntry x + uptoBulkEntries r
def uptoBulkEntry {H : Type} : Lit × DataW H → Nat
  | (.string bytes, d) => bytes.length + uptoBulk d + 1
  | (_, d) => uptoBulk d + 1
 end
def uptoSmall : (H : Type) → List (DataW H) → Bool := fun _ ds => decide (uptoBulkAll ds ≤ 1048576)
def OpenSpec.upto (s : _root_.Go.ChangeSpec) : _root_.Go.OpenSpec := { _root_.Go.OpenSpec.ofChange s with cond := some uptoSmall }

/-- 'shuntertop.TopRoom', WHERE WHAT IT READS IS OF BULK AT MOST 1048576: true; the input reads as it did. -/
def topRoomUptoRow : OpenClaim := { program := "ytmimdleeihjdoaagreatdoor", sum := "06d0975796e4f69389509351bf07bd8788eded0bcd86ff34a8344f32f664bff7", func := "shunter/shuntertop.TopRoom", spec := "topRoom", unfollowed := true, recurses := true, named := ["math/bits.deBruijn32tab"], plainKeys := false, apart := false, laid := [("math/bits.deBruijn32tab", laid_math_bits_deBruijn32tab)], narrowed := true }
def TopRoomUptoSaid : Prop := topRoomUptoRow.holds Tryz.pinned (OpenSpec.upto topRoomSpec)

/-- 'shuntertop.TopExact', WHERE WHAT IT READS IS OF BULK AT MOST 1048576: true; the input reads as it did. -/
def topExactUptoRow : OpenClaim := { program := "ytmimdleeihjdoaagreatdoor", sum := "06d0975796e4f69389509351bf07bd8788eded0bcd86ff34a8344f32f664bff7", func := "shunter/shuntertop.TopExact", spec := "topExact", unfollowed := true, recurses := true, named := ["math/bits.deBruijn32tab"], plainKeys := false, apart := false, laid := [("math/bits.deBruijn32tab", laid_math_bits_deBruijn32tab)], narrowed := true }
def TopExactUptoSaid : Prop := topExactUptoRow.holds Tryz.pinned (OpenSpec.upto topExactSpec)

/-- 'shuntertop.TopRegains', WHERE WHAT IT READS IS OF BULK AT MOST 1048576: true; the input reads as it did. -/
def topRegainsUptoRow : OpenClaim := { program := "ytmimdleeihjdoaagreatdoor", sum := "06d0975796e4f69389509351bf07bd8788eded0bcd86ff34a8344f32f664bff7", func := "shunter/shuntertop.TopRegains", spec := "topRegains", unfollowed := true, recurses := true, named := ["math/bits.deBruijn32tab"], plainKeys := false, apart := false, laid := [("math/bits.deBruijn32tab", laid_math_bits_deBruijn32tab)], narrowed := true }
def TopRegainsUptoSaid : Prop := topRegainsUptoRow.holds Tryz.pinned (OpenSpec.upto topRegainsSpec)

/-- 'shunterlaw16.NodeInjects', WHERE WHAT IT READS IS OF BULK AT MOST 1048576: true; the input reads as it did. -/
def nodeInjectsUptoRow : OpenClaim := { program := "ytmimdleeihjdoaagreatdoor", sum := "06d0975796e4f69389509351bf07bd8788eded0bcd86ff34a8344f32f664bff7", func := "shunter/shunterlaw16.NodeInjects", spec := "nodeInjects", unfollowed := true, recurses := true, named := ["math/bits.deBruijn32tab"], plainKeys := false, apart := false, laid := [("math/bits.deBruijn32tab", laid_math_bits_deBruijn32tab)], narrowed := true }
def NodeInjectsUptoSaid : Prop := nodeInjectsUptoRow.holds Tryz.pinned (OpenSpec.upto nodeInjectsSpec)

/-- 'shunterlaw16.NodeTells', WHERE WHAT IT READS IS OF BULK AT MOST 1048576: true; the input reads as it did. -/
def nodeTellsUptoRow : OpenClaim := { program := "ytmimdleeihjdoaagreatdoor", sum := "06d0975796e4f69389509351bf07bd8788eded0bcd86ff34a8344f32f664bff7", func := "shunter/shunterlaw16.NodeTells", spec := "nodeTells", unfollowed := true, recurses := true, named := ["math/bits.deBruijn32tab"], plainKeys := false, apart := false, laid := [("math/bits.deBruijn32tab", laid_math_bits_deBruijn32tab)], narrowed := true }
def NodeTellsUptoSaid : Prop := nodeTellsUptoRow.holds Tryz.pinned (OpenSpec.upto nodeTellsSpec)

/-- 'shunterlaw16.NodePlans', WHERE WHAT IT READS IS OF BULK AT MOST 1048576: true; the input reads as it did. -/
def nodePlansUptoRow : OpenClaim := { program := "ytmimdleeihjdoaagreatdoor", sum := "06d0975796e4f69389509351bf07bd8788eded0bcd86ff34a8344f32f664bff7", func := "shunter/shunterlaw16.NodePlans", spec := "nodePlans", unfollowed := true, recurses := true, named := ["math/bits.deBruijn32tab"], plainKeys := false, apart := false, laid := [("math/bits.deBruijn32tab", laid_math_bits_deBruijn32tab)], narrowed := true }
def NodePlansUptoSaid : Prop := nodePlansUptoRow.holds Tryz.pinned (OpenSpec.upto nodePlansSpec)

/-- 'shunterlaw16.NodePasses', WHERE WHAT IT READS IS OF BULK AT MOST 1048576: true; the input reads as it did. -/
def nodePassesUptoRow : OpenClaim := { program := "ytmimdleeihjdoaagreatdoor", sum := "06d0975796e4f69389509351bf07bd8788eded0bcd86ff34a8344f32f664bff7", func := "shunter/shunterlaw16.NodePasses", spec := "nodePasses", unfollowed := true, recurses := true, named := ["math/bits.deBruijn32tab"], plainKeys := false, apart := false, laid := [("math/bits.deBruijn32tab", laid_math_bits_deBruijn32tab)], narrowed := true }
def NodePassesUptoSaid : Prop := nodePassesUptoRow.holds Tryz.pinned (OpenSpec.upto nodePassesSpec)

/-- 'shunterlaw16.NodeRefuses', WHERE WHAT IT READS IS OF BULK AT MOST 1048576: true; the input reads as it did. -/
def nodeRefusesUptoRow : OpenClaim := { program := "ytmimdleeihjdoaagreatdoor", sum := "06d0975796e4f69389509351bf07bd8788eded0bcd86ff34a8344f32f664bff7", func := "shunter/shunterlaw16.NodeRefuses", spec := "nodeRefuses", unfollowed := true, recurses := true, named := ["math/bits.deBruijn32tab"], plainKeys := false, apart := false, laid := [("math/bits.deBruijn32tab", laid_math_bits_deBruijn32tab)], narrowed := true }
def NodeRefusesUptoSaid : Prop := nodeRefusesUptoRow.holds Tryz.pinned (OpenSpec.upto nodeRefusesSpec)

/-- 'shunterlaw16.NodeBounds', WHERE WHAT IT READS IS OF BULK AT MOST 1048576: true; the input reads as it did. -/
def nodeBoundsUptoRow : OpenClaim := { program := "ytmimdleeihjdoaagreatdoor", sum := "06d0975796e4f69389509351bf07bd8788eded0bcd86ff34a8344f32f664bff7", func := "shunter/shunterlaw16.NodeBounds", spec := "nodeBounds", unfollowed := true, recurses := true, named := ["math/bits.deBruijn32tab"], plainKeys := false, apart := false, laid := [("math/bits.deBruijn32tab", laid_math_bits_deBruijn32tab)], narrowed := true }
def NodeBoundsUptoSaid : Prop := nodeBoundsUptoRow.holds Tryz.pinned (OpenSpec.upto nodeBoundsSpec)

/-- 'shunterlaw16.NodeDoes', WHERE WHAT IT READS IS OF BULK AT MOST 1048576: true; the input reads as it did. -/
def nodeDoesUptoRow : OpenClaim := { program := "ytmimdleeihjdoaagreatdoor", sum := "06d0975796e4f69389509351bf07bd8788eded0bcd86ff34a8344f32f664bff7", func := "shunter/shunterlaw16.NodeDoes", spec := "nodeDoes", unfollowed := true, recurses := true, named := ["math/bits.deBruijn32tab"], plainKeys := false, apart := false, laid := [("math/bits.deBruijn32tab", laid_math_bits_deBruijn32tab)], narrowed := true }
def NodeDoesUptoSaid : Prop := nodeDoesUptoRow.holds Tryz.pinned (OpenSpec.upto nodeDoesSpec)

/-- 'shunterlaw18.WatchFresh', WHERE WHAT IT READS IS OF BULK AT MOST 1048576: true; the input reads as it did. -/
def watchFreshUptoRow : OpenClaim := { program := "ytmimdleeihjdoaagreatdoor", sum := "06d0975796e4f69389509351bf07bd8788eded0bcd86ff34a8344f32f664bff7", func := "shunter/shunterlaw18.WatchFresh", spec := "watchFresh", unfollowed := true, recurses := true, named := ["math/bits.deBruijn32tab"], plainKeys := false, apart := false, laid := [("math/bits.deBruijn32tab", laid_math_bits_deBruijn32tab)], narrowed := true }
def WatchFreshUptoSaid : Prop := watchFreshUptoRow.holds Tryz.pinned (OpenSpec.upto watchFreshSpec)

/-- 'shunterlaw17.FabricOwn', WHERE WHAT IT READS IS OF BULK AT MOST 1048576: true; the input reads as it did. -/
def fabricOwnUptoRow : OpenClaim := { program := "ytmimdleeihjdoaagreatdoor", sum := "06d0975796e4f69389509351bf07bd8788eded0bcd86ff34a8344f32f664bff7", func := "shunter/shunterlaw17.FabricOwn", spec := "fabricOwn", unfollowed := true, recurses := true, named := ["math/bits.deBruijn32tab"], plainKeys := false, apart := false, laid := [("math/bits.deBruijn32tab", laid_math_bits_deBruijn32tab)], narrowed := true }
def FabricOwnUptoSaid : Prop := fabricOwnUptoRow.holds Tryz.pinned (OpenSpec.upto fabricOwnSpec)

/-- 'shunterlaw17.FabricIdle', WHERE WHAT IT READS IS OF BULK AT MOST 1048576: true; the input reads as it did. -/
def fabricIdleUptoRow : OpenClaim := { program := "ytmimdleeihjdoaagreatdoor", sum := "06d0975796e4f69389509351bf07bd8788eded0bcd86ff34a8344f32f664bff7", func := "shunter/shunterlaw17.FabricIdle", spec := "fabricIdle", unfollowed := true, recurses := true, named := ["math/bits.deBruijn32tab"], plainKeys := false, apart := false, laid := [("math/bits.deBruijn32tab", laid_math_bits_deBruijn32tab)], narrowed := true }
def FabricIdleUptoSaid : Prop := fabricIdleUptoRow.holds Tryz.pinned (OpenSpec.upto fabricIdleSpec)

/-- 'shunterlaw17.FabricStraight', WHERE WHAT IT READS IS OF BULK AT MOST 1048576: true; the input reads as it did. -/
def fabricStraightUptoRow : OpenClaim := { program := "ytmimdleeihjdoaagreatdoor", sum := "06d0975796e4f69389509351bf07bd8788eded0bcd86ff34a8344f32f664bff7", func := "shunter/shunterlaw17.FabricStraight", spec := "fabricStraight", unfollowed := true, recurses := true, named := ["math/bits.deBruijn32tab"], plainKeys := false, apart := false, laid := [("math/bits.deBruijn32tab", laid_math_bits_deBruijn32tab)], narrowed := true }
def FabricStraightUptoSaid : Prop := fabricStraightUptoRow.holds Tryz.pinned (OpenSpec.upto fabricStraightSpec)

/-- 'shunterlaw17.FabricArgs', WHERE WHAT IT READS IS OF BULK AT MOST 1048576: true; the input reads as it did. -/
def fabricArgsUptoRow : OpenClaim := { program := "ytmimdleeihjdoaagreatdoor", sum := "06d0975796e4f69389509351bf07bd8788eded0bcd86ff34a8344f32f664bff7", func := "shunter/shunterlaw17.FabricArgs", spec := "fabricArgs", unfollowed := true, recurses := true, named := ["math/bits.deBruijn32tab"], plainKeys := false, apart := false, laid := [("math/bits.deBruijn32tab", laid_math_bits_deBruijn32tab)], narrowed := true }
def FabricArgsUptoSaid : Prop := fabricArgsUptoRow.holds Tryz.pinned (OpenSpec.upto fabricArgsSpec)

/-- 'shunterlaw17.FabricDoes', WHERE WHAT IT READS IS OF BULK AT MOST 1048576: true; the input reads as it did. -/
def fabricDoesUptoRow : OpenClaim := { program := "ytmimdleeihjdoaagreatdoor", sum := "06d0975796e4f69389509351bf07bd8788eded0bcd86ff34a8344f32f664bff7", func := "shunter/shunterlaw17.FabricDoes", spec := "fabricDoes", unfollowed := true, recurses := true, named := ["math/bits.deBruijn32tab"], plainKeys := false, apart := false, laid := [("math/bits.deBruijn32tab", laid_math_bits_deBruijn32tab)], narrowed := true }
def FabricDoesUptoSaid : Prop := fabricDoesUptoRow.holds Tryz.pinned (OpenSpec.upto fabricDoesSpec)

/-- 'shunterlaw17.FabricPlans', WHERE WHAT IT READS IS OF BULK AT MOST 1048576: true; the input reads as it did. -/
def fabricPlansUptoRow : OpenClaim := { program := "ytmimdleeihjdoaagreatdoor", sum := "06d0975796e4f69389509351bf07bd8788eded0bcd86ff34a8344f32f664bff7", func := "shunter/shunterlaw17.FabricPlans", spec := "fabricPlans", unfollowed := true, recurses := true, named := ["math/bits.deBruijn32tab"], plainKeys := false, apart := false, laid := [("math/bits.deBruijn32tab", laid_math_bits_deBruijn32tab)], narrowed := true }
def FabricPlansUptoSaid : Prop := fabricPlansUptoRow.holds Tryz.pinned (OpenSpec.upto fabricPlansSpec)

/-- 'shunterlaw18.WatchLost', WHERE WHAT IT READS IS OF BULK AT MOST 1048576: true; the input reads as it did. -/
def watchLostUptoRow : OpenClaim := { program := "ytmimdleeihjdoaagreatdoor", sum := "06d0975796e4f69389509351bf07bd8788eded0bcd86ff34a8344f32f664bff7", func := "shunter/shunterlaw18.WatchLost", spec := "watchLost", unfollowed := true, recurses := true, named := ["math/bits.deBruijn32tab"], plainKeys := false, apart := false, laid := [("math/bits.deBruijn32tab", laid_math_bits_deBruijn32tab)], narrowed := true }
def WatchLostUptoSaid : Prop := watchLostUptoRow.holds Tryz.pinned (OpenSpec.upto watchLostSpec)

/-- 'shunterlaw18.WatchTwice', WHERE WHAT IT READS IS OF BULK AT MOST 1048576: true; the input reads as it did. -/
def watchTwiceUptoRow : OpenClaim := { program := "ytmimdleeihjdoaagreatdoor", sum := "06d0975796e4f69389509351bf07bd8788eded0bcd86ff34a8344f32f664bff7", func := "shunter/shunterlaw18.WatchTwice", spec := "watchTwice", unfollowed := true, recurses := true, named := ["math/bits.deBruijn32tab"], plainKeys := false, apart := false, laid := [("math/bits.deBruijn32tab", laid_math_bits_deBruijn32tab)], narrowed := true }
def WatchTwiceUptoSaid : Prop := watchTwiceUptoRow.holds Tryz.pinned (OpenSpec.upto watchTwiceSpec)

/-- 'shunterlaw18.WatchTells', WHERE WHAT IT READS IS OF BULK AT MOST 1048576: true; the input reads as it did. -/
def watchTellsUptoRow : OpenClaim := { program := "ytmimdleeihjdoaagreatdoor", sum := "06d0975796e4f69389509351bf07bd8788eded0bcd86ff34a8344f32f664bff7", func := "shunter/shunterlaw18.WatchTells", spec := "watchTells", unfollowed := true, recurses := true, named := ["math/bits.deBruijn32tab"], plainKeys := false, apart := false, laid := [("math/bits.deBruijn32tab", laid_math_bits_deBruijn32tab)], narrowed := true }
def WatchTellsUptoSaid : Prop := watchTellsUptoRow.holds Tryz.pinned (OpenSpec.upto watchTellsSpec)

/-- 'shunterlaw18.WatchSums', WHERE WHAT IT READS IS OF BULK AT MOST 1048576: true; the input reads as it did. -/
def watchSumsUptoRow : OpenClaim := { program := "ytmimdleeihjdoaagreatdoor", sum := "06d0975796e4f69389509351bf07bd8788eded0bcd86ff34a8344f32f664bff7", func := "shunter/shunterlaw18.WatchSums", spec := "watchSums", unfollowed := true, recurses := true, named := ["math/bits.deBruijn32tab"], plainKeys := false, apart := false, laid := [("math/bits.deBruijn32tab", laid_math_bits_deBruijn32tab)], narrowed := true }
def WatchSumsUptoSaid : Prop := watchSumsUptoRow.holds Tryz.pinned (OpenSpec.upto watchSumsSpec)

end Rows
end Go.Proofs.YtmimdleeihjdoaaGreatDoor
