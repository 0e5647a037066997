/-
  NARROWER THAN 'FOR EVERY INPUT', by the rows' own cells (each row's printed sentence says how): NodeTells: laid · NodePlans: laid · NodePasses: laid · FabricOwn: laid · FabricIdle: laid · FabricStraight: laid · FabricArgs: laid.
  DERIVED. THE GIVEN ROWS OF THIS SEAT. 7 by the template 'for every input the law returns true; each argument reads behind the call as it read before'; 0 by the template 'total and deterministic' (their statements: YtkeilicinggjmaaGreatDoorTotals.lean).
  GIVEN WITH THE SEED: the statements are not yours to turn. If you find one false, say at which input.
  Laid BY PROGRAM, IN A SANDBOX (cutbox-rows.mjs): the forced cells as the released guide's own fill.sh prints them over the translation 7e0258f95d0ff872… (all of the seat's roots in one cut). By AI agents, Wed Nov 11 2026. No macro, syntax, notation, axiom, sorry.
-/
import Derived.Test.YtkeilicinggjmaaGreatDoorChecked
import GoSem.Claim
import GoSem.ClaimJoined
import GoSem.ClaimMapViews
import Derived.JoinedTies
import Derived.KernelRfl
namespace Go.Proofs.YtkeilicinggjmaaGreatDoor
/- THE CELL 'sum', in the pinned program and in every row, IS THE sha256 OF THE DUMP (.gsa) THAT YtkeilicinggjmaaGreatDoorProg.lean LOADS. Nothing in Lean hashes anything: it is a label: what it is worth is what the hold of that sum in a sandbox is worth. -/
noncomputable def Tryz.pinned : Pinned := { name := "ytkeilicinggjmaagreatdoor", sum := "7e0258f95d0ff87224ca8f4ac8c1d47ef9982919cbe013be7218e4d9edfadaea", checked := Tryz.checked }
namespace Rows
def none {H : Type} : Left H := { results := [], args := [] }

/- WHAT THE LISTED PACKAGE-LEVEL VARIABLES READ AS WHEN THE CALL BEGINS. Each datum BY PROGRAM (the guide's laid-datum.mjs) off the statement by which the dump's own 'gosem.cut.vars' lays the variable. In a bare row this is a premise. The card (YtkeilicinggjmaaGreatDoorCards.lean) ties it to the program's text. -/
def laid_math_bits_deBruijn32tab {H : Type} : DataW H := .agg [.lit (.int .u8 0), .lit (.int .u8 1), .lit (.int .u8 28), .lit (.int .u8 2), .lit (.int .u8 29), .lit (.int .u8 14), .lit (.int .u8 24), .lit (.int .u8 3), .lit (.int .u8 30), .lit (.int .u8 22), .lit (.int .u8 20), .lit (.int .u8 15), .lit (.int .u8 25), .lit (.int .u8 17), .lit (.int .u8 4), .lit (.int .u8 8), .lit (.int .u8 31), .lit (.int .u8 27), .lit (.int .u8 13), .lit (.int .u8 23), .lit (.int .u8 21), .lit (.int .u8 19), .lit (.int .u8 16), .lit (.int .u8 7), .lit (.int .u8 26), .lit (.int .u8 12), .lit (.int .u8 18), .lit (.int .u8 6), .lit (.int .u8 11), .lit (.int .u8 5), .lit (.int .u8 10), .lit (.int .u8 9)]

/-- 'shunterlaw16.NodeTells': WHATEVER THE INPUT: true; the input reads as it did. -/
def nodeTellsSpec : ChangeSpec := { name := "nodeTells", fn := fun _ => fun
  | [d1, d2, d3, d4, d5, d6] => { results := [.lit (.bool true)], args := [d1, d2, d3, d4, d5, d6] }
  | _ => none }
def nodeTellsRow : OpenClaim := { program := "ytkeilicinggjmaagreatdoor", sum := "7e0258f95d0ff87224ca8f4ac8c1d47ef9982919cbe013be7218e4d9edfadaea", func := "shunter/shunterlaw16.NodeTells", spec := "nodeTells", unfollowed := true, recurses := true, named := ["math/bits.deBruijn32tab"], plainKeys := false, apart := false, laid := [("math/bits.deBruijn32tab", laid_math_bits_deBruijn32tab)] }
def NodeTellsSaid : Prop := nodeTellsRow.holds Tryz.pinned (OpenSpec.ofChange nodeTellsSpec)

/-- ITS FALSE NEIGHBOUR: 'it returns false'. Refute it at one input. -/
def nodeTellsWrong : ChangeSpec := { name := "nodeTells", fn := fun _ => fun
  | [d1, d2, d3, d4, d5, d6] => { results := [.lit (.bool false)], args := [d1, d2, d3, d4, d5, d6] }
  | _ => none }
def NodeTellsWrongFalsely : Prop := nodeTellsRow.holds Tryz.pinned (OpenSpec.ofChange nodeTellsWrong)

/-- 'shunterlaw16.NodePlans': WHATEVER THE INPUT: true; the input reads as it did. -/
def nodePlansSpec : ChangeSpec := { name := "nodePlans", fn := fun _ => fun
  | [d1, d2, d3, d4, d5, d6, d7] => { results := [.lit (.bool true)], args := [d1, d2, d3, d4, d5, d6, d7] }
  | _ => none }
def nodePlansRow : OpenClaim := { program := "ytkeilicinggjmaagreatdoor", sum := "7e0258f95d0ff87224ca8f4ac8c1d47ef9982919cbe013be7218e4d9edfadaea", func := "shunter/shunterlaw16.NodePlans", spec := "nodePlans", unfollowed := true, recurses := true, named := ["math/bits.deBruijn32tab"], plainKeys := false, apart := false, laid := [("math/bits.deBruijn32tab", laid_math_bits_deBruijn32tab)] }
def NodePlansSaid : Prop := nodePlansRow.holds Tryz.pinned (OpenSpec.ofChange nodePlansSpec)

/-- ITS FALSE NEIGHBOUR: 'it returns false'. Refute it at one input. -/
def nodePlansWrong : ChangeSpec := { name := "nodePlans", fn := fun _ => fun
  | [d1, d2, d3, d4, d5, d6, d7] => { results := [.lit (.bool false)], args := [d1, d2, d3, d4, d5, d6, d7] }
  | _ => none }
def NodePlansWrongFalsely : Prop := nodePlansRow.holds Tryz.pinned (OpenSpec.ofChange nodePlansWrong)

/-- 'shunterlaw16.NodePasses': WHATEVER THE INPUT: true; the input reads as it did. -/
def nodePassesSpec : ChangeSpec := { name := "nodePasses", fn := fun _ => fun
  | [d1, d2, d3] => { results := [.lit (.bool true)], args := [d1, d2, d3] }
  | _ => none }
def nodePassesRow : OpenClaim := { program := "ytkeilicinggjmaagreatdoor", sum := "7e0258f95d0ff87224ca8f4ac8c1d47ef9982919cbe013be7218e4d9edfadaea", func := "shunter/shunterlaw16.NodePasses", spec := "nodePasses", unfollowed := true, recurses := true, named := ["math/bits.deBruijn32tab"], plainKeys := false, apart := false, laid := [("math/bits.deBruijn32tab", laid_math_bits_deBruijn32tab)] }
def NodePassesSaid : Prop := nodePassesRow.holds Tryz.pinned (OpenSpec.ofChange nodePassesSpec)

/-- ITS FALSE NEIGHBOUR: 'it returns false'. Refute it at one input. -/
def nodePassesWrong : ChangeSpec := { name := "nodePasses", fn := fun _ => fun
  | [d1, d2, d3] => { results := [.lit (.bool false)], args := [d1, d2, d3] }
  | _ => none }
def NodePassesWrongFalsely : Prop := nodePassesRow.holds Tryz.pinned (OpenSpec.ofChange nodePassesWrong)

/-- 'shunterlaw17.FabricOwn': WHATEVER THE INPUT: true; the input reads as it did. -/
def fabricOwnSpec : ChangeSpec := { name := "fabricOwn", fn := fun _ => fun
  | [d1, d2, d3, d4] => { results := [.lit (.bool true)], args := [d1, d2, d3, d4] }
  | _ => none }
def fabricOwnRow : OpenClaim := { program := "ytkeilicinggjmaagreatdoor", sum := "7e0258f95d0ff87224ca8f4ac8c1d47ef9982919cbe013be7218e4d9edfadaea", func := "shunter/shunterlaw17.FabricOwn", spec := "fabricOwn", unfollowed := true, recurses := true, named := ["math/bits.deBruijn32tab"], plainKeys := false, apart := false, laid := [("math/bits.deBruijn32tab", laid_math_bits_deBruijn32tab)] }
def FabricOwnSaid : Prop := fabricOwnRow.holds Tryz.pinned (OpenSpec.ofChange fabricOwnSpec)

/-- ITS FALSE NEIGHBOUR: 'it returns false'. Refute it at one input. -/
def fabricOwnWrong : ChangeSpec := { name := "fabricOwn", fn := fun _ => fun
  | [d1, d2, d3, d4] => { results := [.lit (.bool false)], args := [d1, d2, d3, d4] }
  | _ => none }
def FabricOwnWrongFalsely : Prop := fabricOwnRow.holds Tryz.pinned (OpenSpec.ofChange fabricOwnWrong)

/-- 'shunterlaw17.FabricIdle': WHATEVER THE INPUT: true; the input reads as it did. -/
def fabricIdleSpec : ChangeSpec := { name := "fabricIdle", fn := fun _ => fun
  | [d1, d2, d3, d4, d5] => { results := [.lit (.bool true)], args := [d1, d2, d3, d4, d5] }
  | _ => none }
def fabricIdleRow : OpenClaim := { program := "ytkeilicinggjmaagreatdoor", sum := "7e0258f95d0ff87224ca8f4ac8c1d47ef9982919cbe013be7218e4d9edfadaea", func := "shunter/shunterlaw17.FabricIdle", spec := "fabricIdle", unfollowed := true, recurses := true, named := ["math/bits.deBruijn32tab"], plainKeys := false, apart := false, laid := [("math/bits.deBruijn32tab", laid_math_bits_deBruijn32tab)] }
def FabricIdleSaid : Prop := fabricIdleRow.holds Tryz.pinned (OpenSpec.ofChange fabricIdleSpec)

/-- ITS FALSE NEIGHBOUR: 'it returns false'. Refute it at one input. -/
def fabricIdleWrong : ChangeSpec := { name := "fabricIdle", fn := fun _ => fun
  | [d1, d2, d3, d4, d5] => { results := [.lit (.bool false)], args := [d1, d2, d3, d4, d5] }
  | _ => none }
def FabricIdleWrongFalsely : Prop := fabricIdleRow.holds Tryz.pinned (OpenSpec.ofChange fabricIdleWrong)

/-- 'shunterlaw17.FabricStraight': WHATEVER THE INPUT: true; the input reads as it did. -/
def fabricStraightSpec : ChangeSpec := { name := "fabricStraight", fn := fun _ => fun
  | [d1, d2, d3, d4, d5, d6, d7, d8] => { results := [.lit (.bool true)], args := [d1, d2, d3, d4, d5, d6, d7, d8] }
  | _ => none }
def fabricStraightRow : OpenClaim := { program := "ytkeilicinggjmaagreatdoor", sum := "7e0258f95d0ff87224ca8f4ac8c1d47ef9982919cbe013be7218e4d9edfadaea", func := "shunter/shunterlaw17.FabricStraight", spec := "fabricStraight", unfollowed := true, recurses := true, named := ["math/bits.deBruijn32tab"], plainKeys := false, apart := false, laid := [("math/bits.deBruijn32tab", laid_math_bits_deBruijn32tab)] }
def FabricStraightSaid : Prop := fabricStraightRow.holds Tryz.pinned (OpenSpec.ofChange fabricStraightSpec)

/-- ITS FALSE NEIGHBOUR: 'it returns false'. Refute it at one input. -/
def fabricStraightWrong : ChangeSpec := { name := "fabricStraight", fn := fun _ => fun
  | [d1, d2, d3, d4, d5, d6, d7, d8] => { results := [.lit (.bool false)], args := [d1, d2, d3, d4, d5, d6, d7, d8] }
  | _ => none }
def FabricStraightWrongFalsely : Prop := fabricStraightRow.holds Tryz.pinned (OpenSpec.ofChange fabricStraightWrong)

/-- 'shunterlaw17.FabricArgs': WHATEVER THE INPUT: true; the input reads as it did. -/
def fabricArgsSpec : ChangeSpec := { name := "fabricArgs", fn := fun _ => fun
  | [d1, d2, d3, d4, d5] => { results := [.lit (.bool true)], args := [d1, d2, d3, d4, d5] }
  | _ => none }
def fabricArgsRow : OpenClaim := { program := "ytkeilicinggjmaagreatdoor", sum := "7e0258f95d0ff87224ca8f4ac8c1d47ef9982919cbe013be7218e4d9edfadaea", func := "shunter/shunterlaw17.FabricArgs", spec := "fabricArgs", unfollowed := true, recurses := true, named := ["math/bits.deBruijn32tab"], plainKeys := false, apart := false, laid := [("math/bits.deBruijn32tab", laid_math_bits_deBruijn32tab)] }
def FabricArgsSaid : Prop := fabricArgsRow.holds Tryz.pinned (OpenSpec.ofChange fabricArgsSpec)

/-- ITS FALSE NEIGHBOUR: 'it returns false'. Refute it at one input. -/
def fabricArgsWrong : ChangeSpec := { name := "fabricArgs", fn := fun _ => fun
  | [d1, d2, d3, d4, d5] => { results := [.lit (.bool false)], args := [d1, d2, d3, d4, d5] }
  | _ => none }
def FabricArgsWrongFalsely : Prop := fabricArgsRow.holds Tryz.pinned (OpenSpec.ofChange fabricArgsWrong)

/- THE SECOND FORM. 'bulk': how many values and letters a reading holds, each counted each time it is reached (what is shared counts as often as it is met; a slice's spare places count too). A statement '..UptoSaid' is the law's where the arguments, and the package variables that the reading takes, are together of bulk at most 1048576: NARROWER than '..Said'. Prove '..Said' where nothing that the law and all that it calls make is longer than what came in: it says more and counts as full. Else prove '..UptoSaid'. A law counts once. -/
mutual
def uptoBulk {H : Type} : DataW H → Nat
  | .lit (.string bytes) => bytes.length + 1
  | .lit _ => 1
  | .nil => 1
  | .ptr d => uptoBulk d + 1
  | .slice elems spare => uptoBulkAll elems + uptoBulkAll spare + 1
  | .agg parts => uptoBulkAll parts + 1
  | .iface _ d => uptoBulk d + 1
  | .map entries => uptoBulkEntries entries + 1
  | .held _ => 1
def uptoBulkAll {H : Type} : List (DataW H) → Nat
  | [] => 0
  | d :: r => uptoBulk d + uptoBulkAll r
def uptoBulkEntries {H : Type} : List (Lit × DataW H) → Nat
  | [] => 0
  | x :: r => uptoBulkEntry x + uptoBulkEntries r
def uptoBulkEntry {H : Type} : Lit × DataW H → Nat
  | (.string bytes, d) => bytes.length + uptoBulk d + 1
  | (_, d) => uptoBulk d + 1
 end
def uptoSmall : (H : Type) → List (DataW H) → Bool := fun _ ds => decide (uptoBulkAll ds ≤ 1048576)
def OpenSpec.upto (s : _root_.Go.ChangeSpec) : _root_.Go.OpenSpec := { _root_.Go.OpenSpec.ofChange s with cond := some uptoSmall }

/-- 'shunterlaw16.NodeTells', WHERE WHAT IT READS IS OF BULK AT MOST 1048576: true; the input reads as it did. -/
def nodeTellsUptoRow : OpenClaim := { program := "ytkeilicinggjmaagreatdoor", sum := "7e0258f95d0ff87224ca8f4ac8c1d47ef9982919cbe013be7218e4d9edfadaea", func := "shunter/shunterlaw16.NodeTells", spec := "nodeTells", unfollowed := true, recurses := true, named := ["math/bits.deBruijn32tab"], plainKeys := false, apart := false, laid := [("math/bits.deBruijn32tab", laid_math_bits_deBruijn32tab)], narrowed := true }
def NodeTellsUptoSaid : Prop := nodeTellsUptoRow.holds Tryz.pinned (OpenSpec.upto nodeTellsSpec)

/-- 'shunterlaw16.NodePlans', WHERE WHAT IT READS IS OF BULK AT MOST 1048576: true; the input reads as it did. -/
def nodePlansUptoRow : OpenClaim := { program := "ytkeilicinggjmaagreatdoor", sum := "7e0258f95d0ff87224ca8f4ac8c1d47ef9982919cbe013be7218e4d9edfadaea", func := "shunter/shunterlaw16.NodePlans", spec := "nodePlans", unfollowed := true, recurses := true, named := ["math/bits.deBruijn32tab"], plainKeys := false, apart := false, laid := [("math/bits.deBruijn32tab", laid_math_bits_deBruijn32tab)], narrowed := true }
def NodePlansUptoSaid : Prop := nodePlansUptoRow.holds Tryz.pinned (OpenSpec.upto nodePlansSpec)

/-- 'shunterlaw16.NodePasses', WHERE WHAT IT READS IS OF BULK AT MOST 1048576: true; the input reads as it did. -/
def nodePassesUptoRow : OpenClaim := { program := "ytkeilicinggjmaagreatdoor", sum := "7e0258f95d0ff87224ca8f4ac8c1d47ef9982919cbe013be7218e4d9edfadaea", func := "shunter/shunterlaw16.NodePasses", spec := "nodePasses", unfollowed := true, recurses := true, named := ["math/bits.deBruijn32tab"], plainKeys := false, apart := false, laid := [("math/bits.deBruijn32tab", laid_math_bits_deBruijn32tab)], narrowed := true }
def NodePassesUptoSaid : Prop := nodePassesUptoRow.holds Tryz.pinned (OpenSpec.upto nodePassesSpec)

/-- 'shunterlaw17.FabricOwn', WHERE WHAT IT READS IS OF BULK AT MOST 1048576: true; the input reads as it did. -/
def fabricOwnUptoRow : OpenClaim := { program := "ytkeilicinggjmaagreatdoor", sum := "7e0258f95d0ff87224ca8f4ac8c1d47ef9982919cbe013be7218e4d9edfadaea", func := "shunter/shunterlaw17.FabricOwn", spec := "fabricOwn", unfollowed := true, recurses := true, named := ["math/bits.deBruijn32tab"], plainKeys := false, apart := false, laid := [("math/bits.deBruijn32tab", laid_math_bits_deBruijn32tab)], narrowed := true }
def FabricOwnUptoSaid : Prop := fabricOwnUptoRow.holds Tryz.pinned (OpenSpec.upto fabricOwnSpec)

/-- 'shunterlaw17.FabricIdle', WHERE WHAT IT READS IS OF BULK AT MOST 1048576: true; the input reads as it did. -/
def fabricIdleUptoRow : OpenClaim := { program := "ytkeilicinggjmaagreatdoor", sum := "7e0258f95d0ff87224ca8f4ac8c1d47ef9982919cbe013be7218e4d9edfadaea", func := "shunter/shunterlaw17.FabricIdle", spec := "fabricIdle", unfollowed := true, recurses := true, named := ["math/bits.deBruijn32tab"], plainKeys := false, apart := false, laid := [("math/bits.deBruijn32tab", laid_math_bits_deBruijn32tab)], narrowed := true }
def FabricIdleUptoSaid : Prop := fabricIdleUptoRow.holds Tryz.pinned (OpenSpec.upto fabricIdleSpec)

/-- 'shunterlaw17.FabricStraight', WHERE WHAT IT READS IS OF BULK AT MOST 1048576: true; the input reads as it did. -/
def fabricStraightUptoRow : OpenClaim := { program := "ytkeilicinggjmaagreatdoor", sum := "7e0258f95d0ff87224ca8f4ac8c1d47ef9982919cbe013be7218e4d9edfadaea", func := "shunter/shunterlaw17.FabricStraight", spec := "fabricStraight", unfollowed := true, recurses := true, named := ["math/bits.deBruijn32tab"], plainKeys := false, apart := false, laid := [("math/bits.deBruijn32tab", laid_math_bits_deBruijn32tab)], narrowed := true }
def FabricStraightUptoSaid : Prop := fabricStraightUptoRow.holds Tryz.pinned (OpenSpec.upto fabricStraightSpec)

/-- 'shunterlaw17.FabricArgs', WHERE WHAT IT READS IS OF BULK AT MOST 1048576: true; the input reads as it did. -/
def fabricArgsUptoRow : OpenClaim := { program := "ytkeilicinggjmaagreatdoor", sum := "7e0258f95d0ff87224ca8f4ac8c1d47ef9982919cbe013be7218e4d9edfadaea", func := "shunter/shunterlaw17.FabricArgs", spec := "fabricArgs", unfollowed := true, recurses := true, named := ["math/bits.deBruijn32tab"], plainKeys := false, apart := false, laid := [("math/bits.deBruijn32tab", laid_math_bits_deBruijn32tab)], narrowed := true }
def FabricArgsUptoSaid : Prop := fabricArgsUptoRow.holds Tryz.pinned (OpenSpec.upto fabricArgsSpec)

end Rows
end Go.Proofs.YtkeilicinggjmaaGreatDoor
