/-
  No cell of these rows narrows 'for every input' (looked for: loops, veiled, ifaces, maps, wideKeys, modest, calm, conditions, laid).
  DERIVED. THE GIVEN ROWS OF THIS SEAT. 12 by the template 'for every input the law returns true; each argument reads behind the call as it read before'; 0 by the template 'total and deterministic' (their statements: YtdobnaldfmpimaaTotals.lean).
  GIVEN WITH THE SEED: the statements are not yours to turn. If you find one false, say at which input.
  Laid BY PROGRAM, IN A SANDBOX (cutbox-rows.mjs): the forced cells as the released guide's own fill.sh prints them over the translation 8d1595053caef15a… (all of the seat's roots in one cut). By AI agents, Wed Nov 11 2026. No macro, syntax, notation, axiom, sorry.
-/
import Derived.Test.YtdobnaldfmpimaaChecked
import GoSem.Claim
import GoSem.ClaimJoined
import GoSem.ClaimMapViews
import Derived.JoinedTies
import Derived.KernelRfl
namespace Go.Proofs.Ytdobnaldfmpimaa
/- THE CELL 'sum', in the pinned program and in every row, IS THE sha256 OF THE DUMP (.gsa) THAT YtdobnaldfmpimaaProg.lean LOADS. Nothing in Lean hashes anything: it is a label: what it is worth is what the hold of that sum in a sandbox is worth. -/
noncomputable def Try.pinned : Pinned := { name := "ytdobnaldfmpimaa", sum := "8d1595053caef15a38ec3ce0957c73ab022c4cc97d77a5433bee3d9ef5ca73ef", checked := Try.checked }
namespace Rows
def none {H : Type} : Left H := { results := [], args := [] }

/-- 'shunterlaw12.PlanEdges': WHATEVER THE INPUT: true; the input reads as it did. -/
def planEdgesSpec : ChangeSpec := { name := "planEdges", fn := fun _ => fun
  | [d1, d2, d3, d4, d5] => { results := [.lit (.bool true)], args := [d1, d2, d3, d4, d5] }
  | _ => none }
def planEdgesRow : OpenClaim := { program := "ytdobnaldfmpimaa", sum := "8d1595053caef15a38ec3ce0957c73ab022c4cc97d77a5433bee3d9ef5ca73ef", func := "shunter/shunterlaw12.PlanEdges", spec := "planEdges", unfollowed := true, recurses := true, apart := false }
def PlanEdgesSaid : Prop := planEdgesRow.holds Try.pinned (OpenSpec.ofChange planEdgesSpec)

/-- ITS FALSE NEIGHBOUR: 'it returns false'. Refute it at one input. -/
def planEdgesWrong : ChangeSpec := { name := "planEdges", fn := fun _ => fun
  | [d1, d2, d3, d4, d5] => { results := [.lit (.bool false)], args := [d1, d2, d3, d4, d5] }
  | _ => none }
def PlanEdgesWrongFalsely : Prop := planEdgesRow.holds Try.pinned (OpenSpec.ofChange planEdgesWrong)

/-- 'shunterlaw12.PlanHops': WHATEVER THE INPUT: true; the input reads as it did. -/
def planHopsSpec : ChangeSpec := { name := "planHops", fn := fun _ => fun
  | [d1, d2] => { results := [.lit (.bool true)], args := [d1, d2] }
  | _ => none }
def planHopsRow : OpenClaim := { program := "ytdobnaldfmpimaa", sum := "8d1595053caef15a38ec3ce0957c73ab022c4cc97d77a5433bee3d9ef5ca73ef", func := "shunter/shunterlaw12.PlanHops", spec := "planHops", unfollowed := true, recurses := true, apart := false }
def PlanHopsSaid : Prop := planHopsRow.holds Try.pinned (OpenSpec.ofChange planHopsSpec)

/-- ITS FALSE NEIGHBOUR: 'it returns false'. Refute it at one input. -/
def planHopsWrong : ChangeSpec := { name := "planHops", fn := fun _ => fun
  | [d1, d2] => { results := [.lit (.bool false)], args := [d1, d2] }
  | _ => none }
def PlanHopsWrongFalsely : Prop := planHopsRow.holds Try.pinned (OpenSpec.ofChange planHopsWrong)

/-- 'shunterlaw12.PlanRows': WHATEVER THE INPUT: true; the input reads as it did. -/
def planRowsSpec : ChangeSpec := { name := "planRows", fn := fun _ => fun
  | [d1, d2, d3, d4, d5] => { results := [.lit (.bool true)], args := [d1, d2, d3, d4, d5] }
  | _ => none }
def planRowsRow : OpenClaim := { program := "ytdobnaldfmpimaa", sum := "8d1595053caef15a38ec3ce0957c73ab022c4cc97d77a5433bee3d9ef5ca73ef", func := "shunter/shunterlaw12.PlanRows", spec := "planRows", unfollowed := true, recurses := true, apart := false }
def PlanRowsSaid : Prop := planRowsRow.holds Try.pinned (OpenSpec.ofChange planRowsSpec)

/-- ITS FALSE NEIGHBOUR: 'it returns false'. Refute it at one input. -/
def planRowsWrong : ChangeSpec := { name := "planRows", fn := fun _ => fun
  | [d1, d2, d3, d4, d5] => { results := [.lit (.bool false)], args := [d1, d2, d3, d4, d5] }
  | _ => none }
def PlanRowsWrongFalsely : Prop := planRowsRow.holds Try.pinned (OpenSpec.ofChange planRowsWrong)

/-- 'shunterlaw12.PlanTells': WHATEVER THE INPUT: true; the input reads as it did. -/
def planTellsSpec : ChangeSpec := { name := "planTells", fn := fun _ => fun
  | [d1, d2, d3] => { results := [.lit (.bool true)], args := [d1, d2, d3] }
  | _ => none }
def planTellsRow : OpenClaim := { program := "ytdobnaldfmpimaa", sum := "8d1595053caef15a38ec3ce0957c73ab022c4cc97d77a5433bee3d9ef5ca73ef", func := "shunter/shunterlaw12.PlanTells", spec := "planTells", unfollowed := true, recurses := true, apart := false }
def PlanTellsSaid : Prop := planTellsRow.holds Try.pinned (OpenSpec.ofChange planTellsSpec)

/-- ITS FALSE NEIGHBOUR: 'it returns false'. Refute it at one input. -/
def planTellsWrong : ChangeSpec := { name := "planTells", fn := fun _ => fun
  | [d1, d2, d3] => { results := [.lit (.bool false)], args := [d1, d2, d3] }
  | _ => none }
def PlanTellsWrongFalsely : Prop := planTellsRow.holds Try.pinned (OpenSpec.ofChange planTellsWrong)

/-- 'shunterlaw12.PlanMakes': WHATEVER THE INPUT: true; the input reads as it did. -/
def planMakesSpec : ChangeSpec := { name := "planMakes", fn := fun _ => fun
  | [d1, d2, d3, d4, d5, d6, d7, d8] => { results := [.lit (.bool true)], args := [d1, d2, d3, d4, d5, d6, d7, d8] }
  | _ => none }
def planMakesRow : OpenClaim := { program := "ytdobnaldfmpimaa", sum := "8d1595053caef15a38ec3ce0957c73ab022c4cc97d77a5433bee3d9ef5ca73ef", func := "shunter/shunterlaw12.PlanMakes", spec := "planMakes", unfollowed := true, recurses := true, apart := false }
def PlanMakesSaid : Prop := planMakesRow.holds Try.pinned (OpenSpec.ofChange planMakesSpec)

/-- ITS FALSE NEIGHBOUR: 'it returns false'. Refute it at one input. -/
def planMakesWrong : ChangeSpec := { name := "planMakes", fn := fun _ => fun
  | [d1, d2, d3, d4, d5, d6, d7, d8] => { results := [.lit (.bool false)], args := [d1, d2, d3, d4, d5, d6, d7, d8] }
  | _ => none }
def PlanMakesWrongFalsely : Prop := planMakesRow.holds Try.pinned (OpenSpec.ofChange planMakesWrong)

/-- 'shunterlaw12.PlanBeside': WHATEVER THE INPUT: true; the input reads as it did. -/
def planBesideSpec : ChangeSpec := { name := "planBeside", fn := fun _ => fun
  | [d1, d2] => { results := [.lit (.bool true)], args := [d1, d2] }
  | _ => none }
def planBesideRow : OpenClaim := { program := "ytdobnaldfmpimaa", sum := "8d1595053caef15a38ec3ce0957c73ab022c4cc97d77a5433bee3d9ef5ca73ef", func := "shunter/shunterlaw12.PlanBeside", spec := "planBeside", unfollowed := true, recurses := true, apart := false }
def PlanBesideSaid : Prop := planBesideRow.holds Try.pinned (OpenSpec.ofChange planBesideSpec)

/-- ITS FALSE NEIGHBOUR: 'it returns false'. Refute it at one input. -/
def planBesideWrong : ChangeSpec := { name := "planBeside", fn := fun _ => fun
  | [d1, d2] => { results := [.lit (.bool false)], args := [d1, d2] }
  | _ => none }
def PlanBesideWrongFalsely : Prop := planBesideRow.holds Try.pinned (OpenSpec.ofChange planBesideWrong)

/-- 'shunterlaw14.RouteRings': WHATEVER THE INPUT: true; the input reads as it did. -/
def routeRingsSpec : ChangeSpec := { name := "routeRings", fn := fun _ => fun
  | [d1, d2, d3] => { results := [.lit (.bool true)], args := [d1, d2, d3] }
  | _ => none }
def routeRingsRow : OpenClaim := { program := "ytdobnaldfmpimaa", sum := "8d1595053caef15a38ec3ce0957c73ab022c4cc97d77a5433bee3d9ef5ca73ef", func := "shunter/shunterlaw14.RouteRings", spec := "routeRings", unfollowed := true, recurses := true, apart := false }
def RouteRingsSaid : Prop := routeRingsRow.holds Try.pinned (OpenSpec.ofChange routeRingsSpec)

/-- ITS FALSE NEIGHBOUR: 'it returns false'. Refute it at one input. -/
def routeRingsWrong : ChangeSpec := { name := "routeRings", fn := fun _ => fun
  | [d1, d2, d3] => { results := [.lit (.bool false)], args := [d1, d2, d3] }
  | _ => none }
def RouteRingsWrongFalsely : Prop := routeRingsRow.holds Try.pinned (OpenSpec.ofChange routeRingsWrong)

/-- 'shunterlaw14.RouteNone': WHATEVER THE INPUT: true; the input reads as it did. -/
def routeNoneSpec : ChangeSpec := { name := "routeNone", fn := fun _ => fun
  | [d1, d2, d3, d4, d5] => { results := [.lit (.bool true)], args := [d1, d2, d3, d4, d5] }
  | _ => none }
def routeNoneRow : OpenClaim := { program := "ytdobnaldfmpimaa", sum := "8d1595053caef15a38ec3ce0957c73ab022c4cc97d77a5433bee3d9ef5ca73ef", func := "shunter/shunterlaw14.RouteNone", spec := "routeNone", unfollowed := true, recurses := true, apart := false }
def RouteNoneSaid : Prop := routeNoneRow.holds Try.pinned (OpenSpec.ofChange routeNoneSpec)

/-- ITS FALSE NEIGHBOUR: 'it returns false'. Refute it at one input. -/
def routeNoneWrong : ChangeSpec := { name := "routeNone", fn := fun _ => fun
  | [d1, d2, d3, d4, d5] => { results := [.lit (.bool false)], args := [d1, d2, d3, d4, d5] }
  | _ => none }
def RouteNoneWrongFalsely : Prop := routeNoneRow.holds Try.pinned (OpenSpec.ofChange routeNoneWrong)

/-- 'shunterlaw14.RouteTells': WHATEVER THE INPUT: true; the input reads as it did. -/
def routeTellsSpec : ChangeSpec := { name := "routeTells", fn := fun _ => fun
  | [d1, d2, d3, d4, d5, d6, d7, d8] => { results := [.lit (.bool true)], args := [d1, d2, d3, d4, d5, d6, d7, d8] }
  | _ => none }
def routeTellsRow : OpenClaim := { program := "ytdobnaldfmpimaa", sum := "8d1595053caef15a38ec3ce0957c73ab022c4cc97d77a5433bee3d9ef5ca73ef", func := "shunter/shunterlaw14.RouteTells", spec := "routeTells", unfollowed := true, recurses := true, apart := false }
def RouteTellsSaid : Prop := routeTellsRow.holds Try.pinned (OpenSpec.ofChange routeTellsSpec)

/-- ITS FALSE NEIGHBOUR: 'it returns false'. Refute it at one input. -/
def routeTellsWrong : ChangeSpec := { name := "routeTells", fn := fun _ => fun
  | [d1, d2, d3, d4, d5, d6, d7, d8] => { results := [.lit (.bool false)], args := [d1, d2, d3, d4, d5, d6, d7, d8] }
  | _ => none }
def RouteTellsWrongFalsely : Prop := routeTellsRow.holds Try.pinned (OpenSpec.ofChange routeTellsWrong)

/-- 'shunterlaw14.RouteTrees': WHATEVER THE INPUT: true; the input reads as it did. -/
def routeTreesSpec : ChangeSpec := { name := "routeTrees", fn := fun _ => fun
  | [d1, d2, d3, d4, d5, d6] => { results := [.lit (.bool true)], args := [d1, d2, d3, d4, d5, d6] }
  | _ => none }
def routeTreesRow : OpenClaim := { program := "ytdobnaldfmpimaa", sum := "8d1595053caef15a38ec3ce0957c73ab022c4cc97d77a5433bee3d9ef5ca73ef", func := "shunter/shunterlaw14.RouteTrees", spec := "routeTrees", unfollowed := true, recurses := true, apart := false }
def RouteTreesSaid : Prop := routeTreesRow.holds Try.pinned (OpenSpec.ofChange routeTreesSpec)

/-- ITS FALSE NEIGHBOUR: 'it returns false'. Refute it at one input. -/
def routeTreesWrong : ChangeSpec := { name := "routeTrees", fn := fun _ => fun
  | [d1, d2, d3, d4, d5, d6] => { results := [.lit (.bool false)], args := [d1, d2, d3, d4, d5, d6] }
  | _ => none }
def RouteTreesWrongFalsely : Prop := routeTreesRow.holds Try.pinned (OpenSpec.ofChange routeTreesWrong)

/-- 'shunterlaw14.RouteAll': WHATEVER THE INPUT: true; the input reads as it did. -/
def routeAllSpec : ChangeSpec := { name := "routeAll", fn := fun _ => fun
  | [d1, d2, d3] => { results := [.lit (.bool true)], args := [d1, d2, d3] }
  | _ => none }
def routeAllRow : OpenClaim := { program := "ytdobnaldfmpimaa", sum := "8d1595053caef15a38ec3ce0957c73ab022c4cc97d77a5433bee3d9ef5ca73ef", func := "shunter/shunterlaw14.RouteAll", spec := "routeAll", unfollowed := true, recurses := true, apart := false }
def RouteAllSaid : Prop := routeAllRow.holds Try.pinned (OpenSpec.ofChange routeAllSpec)

/-- ITS FALSE NEIGHBOUR: 'it returns false'. Refute it at one input. -/
def routeAllWrong : ChangeSpec := { name := "routeAll", fn := fun _ => fun
  | [d1, d2, d3] => { results := [.lit (.bool false)], args := [d1, d2, d3] }
  | _ => none }
def RouteAllWrongFalsely : Prop := routeAllRow.holds Try.pinned (OpenSpec.ofChange routeAllWrong)

/-- 'shunterlaw14.RouteSteps': WHATEVER THE INPUT: true; the input reads as it did. -/
def routeStepsSpec : ChangeSpec := { name := "routeSteps", fn := fun _ => fun
  | [d1, d2, d3, d4, d5, d6, d7] => { results := [.lit (.bool true)], args := [d1, d2, d3, d4, d5, d6, d7] }
  | _ => none }
def routeStepsRow : OpenClaim := { program := "ytdobnaldfmpimaa", sum := "8d1595053caef15a38ec3ce0957c73ab022c4cc97d77a5433bee3d9ef5ca73ef", func := "shunter/shunterlaw14.RouteSteps", spec := "routeSteps", unfollowed := true, recurses := true, apart := false }
def RouteStepsSaid : Prop := routeStepsRow.holds Try.pinned (OpenSpec.ofChange routeStepsSpec)

/-- ITS FALSE NEIGHBOUR: 'it returns false'. Refute it at one input. -/
def routeStepsWrong : ChangeSpec := { name := "routeSteps", fn := fun _ => fun
  | [d1, d2, d3, d4, d5, d6, d7] => { results := [.lit (.bool false)], args := [d1, d2, d3, d4, d5, d6, d7] }
  | _ => none }
def RouteStepsWrongFalsely : Prop := routeStepsRow.holds Try.pinned (OpenSpec.ofChange routeStepsWrong)

/- THE SECOND FORM. 'bulk': how many values and letters a reading holds, each counted each time it is reached (what is shared counts as often as it is met; a slice's spare places count too). A statement '..UptoSaid' is the law's where the arguments, and the package variables that the reading takes, are together of bulk at most 1048576: NARROWER than '..Said'. Prove '..Said' where nothing that the law and all that it calls make is longer than what came in: it says more and counts as full. Else prove '..UptoSaid'. A law counts once. -/
mutual
def uptoBulk {H : Type} : DataW H → Nat
  | .lit (.string bytes) => bytes.length + 1
  | .lit _ => 1
  | .nil => 1
  | .ptr d => uptoBulk d + 1
  | .slice elems spare => uptoBulkAll elems + uptoBulkAll spare + 1
  | .agg parts => uptoBulkAll parts + 1
  | .iface _ d => uptoBulk d + 1
  | .map entries => uptoBulkEntries entries + 1
  | .held _ => 1
def uptoBulkAll {H : Type} : List (DataW H) → Nat
  | [] => 0
  | d :: r => uptoBulk d + uptoBulkAll r
def uptoBulkEntries {H : Type} : List (Lit × DataW H) → Nat
  | [] => 0
  | x :: r => uptoBulkEntry x + uptoBulkEntries r
def uptoBulkEntry {H : Type} : Lit × DataW H → Nat
  | (.string bytes, d) => bytes.length + uptoBulk d + 1
  | (_, d) => uptoBulk d + 1
 end
def uptoSmall : (H : Type) → List (DataW H) → Bool := fun _ ds => decide (uptoBulkAll ds ≤ 1048576)
def OpenSpec.upto (s : _root_.Go.ChangeSpec) : _root_.Go.OpenSpec := { _root_.Go.OpenSpec.ofChange s with cond := some uptoSmall }

/-- 'shunterlaw12.PlanEdges', WHERE WHAT IT READS IS OF BULK AT MOST 1048576: true; the input reads as it did. -/
def planEdgesUptoRow : OpenClaim := { program := "ytdobnaldfmpimaa", sum := "8d1595053caef15a38ec3ce0957c73ab022c4cc97d77a5433bee3d9ef5ca73ef", func := "shunter/shunterlaw12.PlanEdges", spec := "planEdges", unfollowed := true, recurses := true, apart := false, narrowed := true }
def PlanEdgesUptoSaid : Prop := planEdgesUptoRow.holds Try.pinned (OpenSpec.upto planEdgesSpec)

/-- 'shunterlaw12.PlanHops', WHERE WHAT IT READS IS OF BULK AT MOST 1048576: true; the input reads as it did. -/
def planHopsUptoRow : OpenClaim := { program := "ytdobnaldfmpimaa", sum := "8d1595053caef15a38ec3ce0957c73ab022c4cc97d77a5433bee3d9ef5ca73ef", func := "shunter/shunterlaw12.PlanHops", spec := "planHops", unfollowed := true, recurses := true, apart := false, narrowed := true }
def PlanHopsUptoSaid : Prop := planHopsUptoRow.holds Try.pinned (OpenSpec.upto planHopsSpec)

/-- 'shunterlaw12.PlanRows', WHERE WHAT IT READS IS OF BULK AT MOST 1048576: true; the input reads as it did. -/
def planRowsUptoRow : OpenClaim := { program := "ytdobnaldfmpimaa", sum := "8d1595053caef15a38ec3ce0957c73ab022c4cc97d77a5433bee3d9ef5ca73ef", func := "shunter/shunterlaw12.PlanRows", spec := "planRows", unfollowed := true, recurses := true, apart := false, narrowed := true }
def PlanRowsUptoSaid : Prop := planRowsUptoRow.holds Try.pinned (OpenSpec.upto planRowsSpec)

/-- 'shunterlaw12.PlanTells', WHERE WHAT IT READS IS OF BULK AT MOST 1048576: true; the input reads as it did. -/
def planTellsUptoRow : OpenClaim := { program := "ytdobnaldfmpimaa", sum := "8d1595053caef15a38ec3ce0957c73ab022c4cc97d77a5433bee3d9ef5ca73ef", func := "shunter/shunterlaw12.PlanTells", spec := "planTells", unfollowed := true, recurses := true, apart := false, narrowed := true }
def PlanTellsUptoSaid : Prop := planTellsUptoRow.holds Try.pinned (OpenSpec.upto planTellsSpec)

/-- 'shunterlaw12.PlanMakes', WHERE WHAT IT READS IS OF BULK AT MOST 1048576: true; the input reads as it did. -/
def planMakesUptoRow : OpenClaim := { program := "ytdobnaldfmpimaa", sum := "8d1595053caef15a38ec3ce0957c73ab022c4cc97d77a5433bee3d9ef5ca73ef", func := "shunter/shunterlaw12.PlanMakes", spec := "planMakes", unfollowed := true, recurses := true, apart := false, narrowed := true }
def PlanMakesUptoSaid : Prop := planMakesUptoRow.holds Try.pinned (OpenSpec.upto planMakesSpec)

/-- 'shunterlaw12.PlanBeside', WHERE WHAT IT READS IS OF BULK AT MOST 1048576: true; the input reads as it did. -/
def planBesideUptoRow : OpenClaim := { program := "ytdobnaldfmpimaa", sum := "8d1595053caef15a38ec3ce0957c73ab022c4cc97d77a5433bee3d9ef5ca73ef", func := "shunter/shunterlaw12.PlanBeside", spec := "planBeside", unfollowed := true, recurses := true, apart := false, narrowed := true }
def PlanBesideUptoSaid : Prop := planBesideUptoRow.holds Try.pinned (OpenSpec.upto planBesideSpec)

/-- 'shunterlaw14.RouteRings', WHERE WHAT IT READS IS OF BULK AT MOST 1048576: true; the input reads as it did. -/
def routeRingsUptoRow : OpenClaim := { program := "ytdobnaldfmpimaa", sum := "8d1595053caef15a38ec3ce0957c73ab022c4cc97d77a5433bee3d9ef5ca73ef", func := "shunter/shunterlaw14.RouteRings", spec := "routeRings", unfollowed := true, recurses := true, apart := false, narrowed := true }
def RouteRingsUptoSaid : Prop := routeRingsUptoRow.holds Try.pinned (OpenSpec.upto routeRingsSpec)

/-- 'shunterlaw14.RouteNone', WHERE WHAT IT READS IS OF BULK AT MOST 1048576: true; the input reads as it did. -/
def routeNoneUptoRow : OpenClaim := { program := "ytdobnaldfmpimaa", sum := "8d1595053caef15a38ec3ce0957c73ab022c4cc97d77a5433bee3d9ef5ca73ef", func := "shunter/shunterlaw14.RouteNone", spec := "routeNone", unfollowed := true, recurses := true, apart := false, narrowed := true }
def RouteNoneUptoSaid : Prop := routeNoneUptoRow.holds Try.pinned (OpenSpec.upto routeNoneSpec)

/-- 'shunterlaw14.RouteTells', WHERE WHAT IT READS IS OF BULK AT MOST 1048576: true; the input reads as it did. -/
def routeTellsUptoRow : OpenClaim := { program := "ytdobnaldfmpimaa", sum := "8d1595053caef15a38ec3ce0957c73ab022c4cc97d77a5433bee3d9ef5ca73ef", func := "shunter/shunterlaw14.RouteTells", spec := "routeTells", unfollowed := true, recurses := true, apart := false, narrowed := true }
def RouteTellsUptoSaid : Prop := routeTellsUptoRow.holds Try.pinned (OpenSpec.upto routeTellsSpec)

/-- 'shunterlaw14.RouteTrees', WHERE WHAT IT READS IS OF BULK AT MOST 1048576: true; the input reads as it did. -/
def routeTreesUptoRow : OpenClaim := { program := "ytdobnaldfmpimaa", sum := "8d1595053caef15a38ec3ce0957c73ab022c4cc97d77a5433bee3d9ef5ca73ef", func := "shunter/shunterlaw14.RouteTrees", spec := "routeTrees", unfollowed := true, recurses := true, apart := false, narrowed := true }
def RouteTreesUptoSaid : Prop := routeTreesUptoRow.holds Try.pinned (OpenSpec.upto routeTreesSpec)

/-- 'shunterlaw14.RouteAll', WHERE WHAT IT READS IS OF BULK AT MOST 1048576: true; the input reads as it did. -/
def routeAllUptoRow : OpenClaim := { program := "ytdobnaldfmpimaa", sum := "8d1595053caef15a38ec3ce0957c73ab022c4cc97d77a5433bee3d9ef5ca73ef", func := "shunter/shunterlaw14.RouteAll", spec := "routeAll", unfollowed := true, recurses := true, apart := false, narrowed := true }
def RouteAllUptoSaid : Prop := routeAllUptoRow.holds Try.pinned (OpenSpec.upto routeAllSpec)

/-- 'shunterlaw14.RouteSteps', WHERE WHAT IT READS IS OF BULK AT MOST 1048576: true; the input reads as it did. -/
def routeStepsUptoRow : OpenClaim := { program := "ytdobnaldfmpimaa", sum := "8d1595053caef15a38ec3ce0957c73ab022c4cc97d77a5433bee3d9ef5ca73ef", func := "shunter/shunterlaw14.RouteSteps", spec := "routeSteps", unfollowed := true, recurses := true, apart := false, narrowed := true }
def RouteStepsUptoSaid : Prop := routeStepsUptoRow.holds Try.pinned (OpenSpec.upto routeStepsSpec)

end Rows
end Go.Proofs.Ytdobnaldfmpimaa
