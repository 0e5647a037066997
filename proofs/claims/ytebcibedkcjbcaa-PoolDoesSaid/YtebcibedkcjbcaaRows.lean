/-
  No cell of these rows narrows 'for every input' (looked for: loops, veiled, ifaces, maps, wideKeys, modest, calm, conditions, laid).
  DERIVED. THE GIVEN ROWS OF THIS SEAT. 12 by the template 'for every input the law returns true; each argument reads behind the call as it read before'; 0 by the template 'total and deterministic' (their statements: YtebcibedkcjbcaaTotals.lean).
  GIVEN WITH THE SEED: the statements are not yours to turn. If you find one false, say at which input.
  Laid BY PROGRAM, IN A SANDBOX (cutbox-rows.mjs): the forced cells as the released guide's own fill.sh prints them over the translation f69a7f587d05f8f5… (all of the seat's roots in one cut). By AI agents, Wed Nov 11 2026. No macro, syntax, notation, axiom, sorry.
-/
import Derived.Test.YtebcibedkcjbcaaChecked
import GoSem.Claim
import GoSem.ClaimJoined
import GoSem.ClaimMapViews
import Derived.JoinedTies
import Derived.KernelRfl
namespace Go.Proofs.Ytebcibedkcjbcaa
/- THE CELL 'sum', in the pinned program and in every row, IS THE sha256 OF THE DUMP (.gsa) THAT YtebcibedkcjbcaaProg.lean LOADS. Nothing in Lean hashes anything: it is a label: what it is worth is what the hold of that sum in a sandbox is worth. -/
noncomputable def Try.pinned : Pinned := { name := "ytebcibedkcjbcaa", sum := "f69a7f587d05f8f51ca77474e3e747ce6a611893883a162fe5a3dec4ba9683fd", checked := Try.checked }
namespace Rows
def none {H : Type} : Left H := { results := [], args := [] }

/-- 'shunterlaw07.PoolNew': WHATEVER THE INPUT: true; the input reads as it did. -/
def poolNewSpec : ChangeSpec := { name := "poolNew", fn := fun _ => fun
  | [d] => { results := [.lit (.bool true)], args := [d] }
  | _ => none }
def poolNewRow : OpenClaim := { program := "ytebcibedkcjbcaa", sum := "f69a7f587d05f8f51ca77474e3e747ce6a611893883a162fe5a3dec4ba9683fd", func := "shunter/shunterlaw07.PoolNew", spec := "poolNew", apart := false }
def PoolNewSaid : Prop := poolNewRow.holds Try.pinned (OpenSpec.ofChange poolNewSpec)

/-- ITS FALSE NEIGHBOUR: 'it returns false'. Refute it at one input. -/
def poolNewWrong : ChangeSpec := { name := "poolNew", fn := fun _ => fun
  | [d] => { results := [.lit (.bool false)], args := [d] }
  | _ => none }
def PoolNewWrongFalsely : Prop := poolNewRow.holds Try.pinned (OpenSpec.ofChange poolNewWrong)

/-- 'shunterlaw07.PoolFirst': WHATEVER THE INPUT: true; the input reads as it did. -/
def poolFirstSpec : ChangeSpec := { name := "poolFirst", fn := fun _ => fun
  | [d1, d2] => { results := [.lit (.bool true)], args := [d1, d2] }
  | _ => none }
def poolFirstRow : OpenClaim := { program := "ytebcibedkcjbcaa", sum := "f69a7f587d05f8f51ca77474e3e747ce6a611893883a162fe5a3dec4ba9683fd", func := "shunter/shunterlaw07.PoolFirst", spec := "poolFirst", apart := false }
def PoolFirstSaid : Prop := poolFirstRow.holds Try.pinned (OpenSpec.ofChange poolFirstSpec)

/-- ITS FALSE NEIGHBOUR: 'it returns false'. Refute it at one input. -/
def poolFirstWrong : ChangeSpec := { name := "poolFirst", fn := fun _ => fun
  | [d1, d2] => { results := [.lit (.bool false)], args := [d1, d2] }
  | _ => none }
def PoolFirstWrongFalsely : Prop := poolFirstRow.holds Try.pinned (OpenSpec.ofChange poolFirstWrong)

/-- 'shunterlaw07.PoolOnce': WHATEVER THE INPUT: true; the input reads as it did. -/
def poolOnceSpec : ChangeSpec := { name := "poolOnce", fn := fun _ => fun
  | [d1, d2] => { results := [.lit (.bool true)], args := [d1, d2] }
  | _ => none }
def poolOnceRow : OpenClaim := { program := "ytebcibedkcjbcaa", sum := "f69a7f587d05f8f51ca77474e3e747ce6a611893883a162fe5a3dec4ba9683fd", func := "shunter/shunterlaw07.PoolOnce", spec := "poolOnce", apart := false }
def PoolOnceSaid : Prop := poolOnceRow.holds Try.pinned (OpenSpec.ofChange poolOnceSpec)

/-- ITS FALSE NEIGHBOUR: 'it returns false'. Refute it at one input. -/
def poolOnceWrong : ChangeSpec := { name := "poolOnce", fn := fun _ => fun
  | [d1, d2] => { results := [.lit (.bool false)], args := [d1, d2] }
  | _ => none }
def PoolOnceWrongFalsely : Prop := poolOnceRow.holds Try.pinned (OpenSpec.ofChange poolOnceWrong)

/-- 'shunterlaw07.PoolDoes': WHATEVER THE INPUT: true; the input reads as it did. -/
def poolDoesSpec : ChangeSpec := { name := "poolDoes", fn := fun _ => fun
  | [d1, d2] => { results := [.lit (.bool true)], args := [d1, d2] }
  | _ => none }
def poolDoesRow : OpenClaim := { program := "ytebcibedkcjbcaa", sum := "f69a7f587d05f8f51ca77474e3e747ce6a611893883a162fe5a3dec4ba9683fd", func := "shunter/shunterlaw07.PoolDoes", spec := "poolDoes", apart := false }
def PoolDoesSaid : Prop := poolDoesRow.holds Try.pinned (OpenSpec.ofChange poolDoesSpec)

/-- ITS FALSE NEIGHBOUR: 'it returns false'. Refute it at one input. -/
def poolDoesWrong : ChangeSpec := { name := "poolDoes", fn := fun _ => fun
  | [d1, d2] => { results := [.lit (.bool false)], args := [d1, d2] }
  | _ => none }
def PoolDoesWrongFalsely : Prop := poolDoesRow.holds Try.pinned (OpenSpec.ofChange poolDoesWrong)

/-- 'shunterlaw07.PoolKeeps': WHATEVER THE INPUT: true; the input reads as it did. -/
def poolKeepsSpec : ChangeSpec := { name := "poolKeeps", fn := fun _ => fun
  | [d1, d2] => { results := [.lit (.bool true)], args := [d1, d2] }
  | _ => none }
def poolKeepsRow : OpenClaim := { program := "ytebcibedkcjbcaa", sum := "f69a7f587d05f8f51ca77474e3e747ce6a611893883a162fe5a3dec4ba9683fd", func := "shunter/shunterlaw07.PoolKeeps", spec := "poolKeeps", apart := false }
def PoolKeepsSaid : Prop := poolKeepsRow.holds Try.pinned (OpenSpec.ofChange poolKeepsSpec)

/-- ITS FALSE NEIGHBOUR: 'it returns false'. Refute it at one input. -/
def poolKeepsWrong : ChangeSpec := { name := "poolKeeps", fn := fun _ => fun
  | [d1, d2] => { results := [.lit (.bool false)], args := [d1, d2] }
  | _ => none }
def PoolKeepsWrongFalsely : Prop := poolKeepsRow.holds Try.pinned (OpenSpec.ofChange poolKeepsWrong)

/-- 'shunterlaw07.PoolLast': WHATEVER THE INPUT: true; the input reads as it did. -/
def poolLastSpec : ChangeSpec := { name := "poolLast", fn := fun _ => fun
  | [d] => { results := [.lit (.bool true)], args := [d] }
  | _ => none }
def poolLastRow : OpenClaim := { program := "ytebcibedkcjbcaa", sum := "f69a7f587d05f8f51ca77474e3e747ce6a611893883a162fe5a3dec4ba9683fd", func := "shunter/shunterlaw07.PoolLast", spec := "poolLast", apart := false }
def PoolLastSaid : Prop := poolLastRow.holds Try.pinned (OpenSpec.ofChange poolLastSpec)

/-- ITS FALSE NEIGHBOUR: 'it returns false'. Refute it at one input. -/
def poolLastWrong : ChangeSpec := { name := "poolLast", fn := fun _ => fun
  | [d] => { results := [.lit (.bool false)], args := [d] }
  | _ => none }
def PoolLastWrongFalsely : Prop := poolLastRow.holds Try.pinned (OpenSpec.ofChange poolLastWrong)

/-- 'shunterlaw04.LinkRoom': WHATEVER THE INPUT: true; the input reads as it did. -/
def linkRoomSpec : ChangeSpec := { name := "linkRoom", fn := fun _ => fun
  | [d1, d2] => { results := [.lit (.bool true)], args := [d1, d2] }
  | _ => none }
def linkRoomRow : OpenClaim := { program := "ytebcibedkcjbcaa", sum := "f69a7f587d05f8f51ca77474e3e747ce6a611893883a162fe5a3dec4ba9683fd", func := "shunter/shunterlaw04.LinkRoom", spec := "linkRoom", apart := false }
def LinkRoomSaid : Prop := linkRoomRow.holds Try.pinned (OpenSpec.ofChange linkRoomSpec)

/-- ITS FALSE NEIGHBOUR: 'it returns false'. Refute it at one input. -/
def linkRoomWrong : ChangeSpec := { name := "linkRoom", fn := fun _ => fun
  | [d1, d2] => { results := [.lit (.bool false)], args := [d1, d2] }
  | _ => none }
def LinkRoomWrongFalsely : Prop := linkRoomRow.holds Try.pinned (OpenSpec.ofChange linkRoomWrong)

/-- 'shunterlaw04.LinkTakes': WHATEVER THE INPUT: true; the input reads as it did. -/
def linkTakesSpec : ChangeSpec := { name := "linkTakes", fn := fun _ => fun
  | [d1, d2] => { results := [.lit (.bool true)], args := [d1, d2] }
  | _ => none }
def linkTakesRow : OpenClaim := { program := "ytebcibedkcjbcaa", sum := "f69a7f587d05f8f51ca77474e3e747ce6a611893883a162fe5a3dec4ba9683fd", func := "shunter/shunterlaw04.LinkTakes", spec := "linkTakes", apart := false }
def LinkTakesSaid : Prop := linkTakesRow.holds Try.pinned (OpenSpec.ofChange linkTakesSpec)

/-- ITS FALSE NEIGHBOUR: 'it returns false'. Refute it at one input. -/
def linkTakesWrong : ChangeSpec := { name := "linkTakes", fn := fun _ => fun
  | [d1, d2] => { results := [.lit (.bool false)], args := [d1, d2] }
  | _ => none }
def LinkTakesWrongFalsely : Prop := linkTakesRow.holds Try.pinned (OpenSpec.ofChange linkTakesWrong)

/-- 'shunterlaw04.LinkNone': WHATEVER THE INPUT: true; the input reads as it did. -/
def linkNoneSpec : ChangeSpec := { name := "linkNone", fn := fun _ => fun
  | [d1, d2, d3] => { results := [.lit (.bool true)], args := [d1, d2, d3] }
  | _ => none }
def linkNoneRow : OpenClaim := { program := "ytebcibedkcjbcaa", sum := "f69a7f587d05f8f51ca77474e3e747ce6a611893883a162fe5a3dec4ba9683fd", func := "shunter/shunterlaw04.LinkNone", spec := "linkNone", apart := false }
def LinkNoneSaid : Prop := linkNoneRow.holds Try.pinned (OpenSpec.ofChange linkNoneSpec)

/-- ITS FALSE NEIGHBOUR: 'it returns false'. Refute it at one input. -/
def linkNoneWrong : ChangeSpec := { name := "linkNone", fn := fun _ => fun
  | [d1, d2, d3] => { results := [.lit (.bool false)], args := [d1, d2, d3] }
  | _ => none }
def LinkNoneWrongFalsely : Prop := linkNoneRow.holds Try.pinned (OpenSpec.ofChange linkNoneWrong)

/-- 'shunterlaw04.LinkDoes': WHATEVER THE INPUT: true; the input reads as it did. -/
def linkDoesSpec : ChangeSpec := { name := "linkDoes", fn := fun _ => fun
  | [d1, d2] => { results := [.lit (.bool true)], args := [d1, d2] }
  | _ => none }
def linkDoesRow : OpenClaim := { program := "ytebcibedkcjbcaa", sum := "f69a7f587d05f8f51ca77474e3e747ce6a611893883a162fe5a3dec4ba9683fd", func := "shunter/shunterlaw04.LinkDoes", spec := "linkDoes", apart := false }
def LinkDoesSaid : Prop := linkDoesRow.holds Try.pinned (OpenSpec.ofChange linkDoesSpec)

/-- ITS FALSE NEIGHBOUR: 'it returns false'. Refute it at one input. -/
def linkDoesWrong : ChangeSpec := { name := "linkDoes", fn := fun _ => fun
  | [d1, d2] => { results := [.lit (.bool false)], args := [d1, d2] }
  | _ => none }
def LinkDoesWrongFalsely : Prop := linkDoesRow.holds Try.pinned (OpenSpec.ofChange linkDoesWrong)

/-- 'shunterlaw04.LinkKeeps': WHATEVER THE INPUT: true; the input reads as it did. -/
def linkKeepsSpec : ChangeSpec := { name := "linkKeeps", fn := fun _ => fun
  | [d1, d2] => { results := [.lit (.bool true)], args := [d1, d2] }
  | _ => none }
def linkKeepsRow : OpenClaim := { program := "ytebcibedkcjbcaa", sum := "f69a7f587d05f8f51ca77474e3e747ce6a611893883a162fe5a3dec4ba9683fd", func := "shunter/shunterlaw04.LinkKeeps", spec := "linkKeeps", apart := false }
def LinkKeepsSaid : Prop := linkKeepsRow.holds Try.pinned (OpenSpec.ofChange linkKeepsSpec)

/-- ITS FALSE NEIGHBOUR: 'it returns false'. Refute it at one input. -/
def linkKeepsWrong : ChangeSpec := { name := "linkKeeps", fn := fun _ => fun
  | [d1, d2] => { results := [.lit (.bool false)], args := [d1, d2] }
  | _ => none }
def LinkKeepsWrongFalsely : Prop := linkKeepsRow.holds Try.pinned (OpenSpec.ofChange linkKeepsWrong)

/-- 'shunterlaw04.LinkBends': WHATEVER THE INPUT: true; the input reads as it did. -/
def linkBendsSpec : ChangeSpec := { name := "linkBends", fn := fun _ => fun
  | [d1, d2, d3, d4] => { results := [.lit (.bool true)], args := [d1, d2, d3, d4] }
  | _ => none }
def linkBendsRow : OpenClaim := { program := "ytebcibedkcjbcaa", sum := "f69a7f587d05f8f51ca77474e3e747ce6a611893883a162fe5a3dec4ba9683fd", func := "shunter/shunterlaw04.LinkBends", spec := "linkBends", apart := false }
def LinkBendsSaid : Prop := linkBendsRow.holds Try.pinned (OpenSpec.ofChange linkBendsSpec)

/-- ITS FALSE NEIGHBOUR: 'it returns false'. Refute it at one input. -/
def linkBendsWrong : ChangeSpec := { name := "linkBends", fn := fun _ => fun
  | [d1, d2, d3, d4] => { results := [.lit (.bool false)], args := [d1, d2, d3, d4] }
  | _ => none }
def LinkBendsWrongFalsely : Prop := linkBendsRow.holds Try.pinned (OpenSpec.ofChange linkBendsWrong)

/- THE SECOND FORM. 'bulk': how many values and letters a reading holds, each counted each time it is reached (what is shared counts as often as it is met; a slice's spare places count too). A statement '..UptoSaid' is the law's where the arguments, and the package variables that the reading takes, are together of bulk at most 1048576: NARROWER than '..Said'. Prove '..Said' where nothing that the law and all that it calls make is longer than what came in: it says more and counts as full. Else prove '..UptoSaid'. A law counts once. -/
mutual
def uptoBulk {H : Type} : DataW H → Nat
  | .lit (.string bytes) => bytes.length + 1
  | .lit _ => 1
  | .nil => 1
  | .ptr d => uptoBulk d + 1
  | .slice elems spare => uptoBulkAll elems + uptoBulkAll spare + 1
  | .agg parts => uptoBulkAll parts + 1
  | .iface _ d => uptoBulk d + 1
  | .map entries => uptoBulkEntries entries + 1
  | .held _ => 1
def uptoBulkAll {H : Type} : List (DataW H) → Nat
  | [] => 0
  | d :: r => uptoBulk d + uptoBulkAll r
def uptoBulkEntries {H : Type} : List (Lit × DataW H) → Nat
  | [] => 0
  | x :: r => uptoBulkEntry x + uptoBulkEntries r
def uptoBulkEntry {H : Type} : Lit × DataW H → Nat
  | (.string bytes, d) => bytes.length + uptoBulk d + 1
  | (_, d) => uptoBulk d + 1
 end
def uptoSmall : (H : Type) → List (DataW H) → Bool := fun _ ds => decide (uptoBulkAll ds ≤ 1048576)
def OpenSpec.upto (s : _root_.Go.ChangeSpec) : _root_.Go.OpenSpec := { _root_.Go.OpenSpec.ofChange s with cond := some uptoSmall }

/-- 'shunterlaw07.PoolNew', WHERE WHAT IT READS IS OF BULK AT MOST 1048576: true; the input reads as it did. -/
def poolNewUptoRow : OpenClaim := { program := "ytebcibedkcjbcaa", sum := "f69a7f587d05f8f51ca77474e3e747ce6a611893883a162fe5a3dec4ba9683fd", func := "shunter/shunterlaw07.PoolNew", spec := "poolNew", apart := false, narrowed := true }
def PoolNewUptoSaid : Prop := poolNewUptoRow.holds Try.pinned (OpenSpec.upto poolNewSpec)

/-- 'shunterlaw07.PoolFirst', WHERE WHAT IT READS IS OF BULK AT MOST 1048576: true; the input reads as it did. -/
def poolFirstUptoRow : OpenClaim := { program := "ytebcibedkcjbcaa", sum := "f69a7f587d05f8f51ca77474e3e747ce6a611893883a162fe5a3dec4ba9683fd", func := "shunter/shunterlaw07.PoolFirst", spec := "poolFirst", apart := false, narrowed := true }
def PoolFirstUptoSaid : Prop := poolFirstUptoRow.holds Try.pinned (OpenSpec.upto poolFirstSpec)

/-- 'shunterlaw07.PoolOnce', WHERE WHAT IT READS IS OF BULK AT MOST 1048576: true; the input reads as it did. -/
def poolOnceUptoRow : OpenClaim := { program := "ytebcibedkcjbcaa", sum := "f69a7f587d05f8f51ca77474e3e747ce6a611893883a162fe5a3dec4ba9683fd", func := "shunter/shunterlaw07.PoolOnce", spec := "poolOnce", apart := false, narrowed := true }
def PoolOnceUptoSaid : Prop := poolOnceUptoRow.holds Try.pinned (OpenSpec.upto poolOnceSpec)

/-- 'shunterlaw07.PoolDoes', WHERE WHAT IT READS IS OF BULK AT MOST 1048576: true; the input reads as it did. -/
def poolDoesUptoRow : OpenClaim := { program := "ytebcibedkcjbcaa", sum := "f69a7f587d05f8f51ca77474e3e747ce6a611893883a162fe5a3dec4ba9683fd", func := "shunter/shunterlaw07.PoolDoes", spec := "poolDoes", apart := false, narrowed := true }
def PoolDoesUptoSaid : Prop := poolDoesUptoRow.holds Try.pinned (OpenSpec.upto poolDoesSpec)

/-- 'shunterlaw07.PoolKeeps', WHERE WHAT IT READS IS OF BULK AT MOST 1048576: true; the input reads as it did. -/
def poolKeepsUptoRow : OpenClaim := { program := "ytebcibedkcjbcaa", sum := "f69a7f587d05f8f51ca77474e3e747ce6a611893883a162fe5a3dec4ba9683fd", func := "shunter/shunterlaw07.PoolKeeps", spec := "poolKeeps", apart := false, narrowed := true }
def PoolKeepsUptoSaid : Prop := poolKeepsUptoRow.holds Try.pinned (OpenSpec.upto poolKeepsSpec)

/-- 'shunterlaw07.PoolLast', WHERE WHAT IT READS IS OF BULK AT MOST 1048576: true; the input reads as it did. -/
def poolLastUptoRow : OpenClaim := { program := "ytebcibedkcjbcaa", sum := "f69a7f587d05f8f51ca77474e3e747ce6a611893883a162fe5a3dec4ba9683fd", func := "shunter/shunterlaw07.PoolLast", spec := "poolLast", apart := false, narrowed := true }
def PoolLastUptoSaid : Prop := poolLastUptoRow.holds Try.pinned (OpenSpec.upto poolLastSpec)

/-- 'shunterlaw04.LinkRoom', WHERE WHAT IT READS IS OF BULK AT MOST 1048576: true; the input reads as it did. -/
def linkRoomUptoRow : OpenClaim := { program := "ytebcibedkcjbcaa", sum := "f69a7f587d05f8f51ca77474e3e747ce6a611893883a162fe5a3dec4ba9683fd", func := "shunter/shunterlaw04.LinkRoom", spec := "linkRoom", apart := false, narrowed := true }
def LinkRoomUptoSaid : Prop := linkRoomUptoRow.holds Try.pinned (OpenSpec.upto linkRoomSpec)

/-- 'shunterlaw04.LinkTakes', WHERE WHAT IT READS IS OF BULK AT MOST 1048576: true; the input reads as it did. -/
def linkTakesUptoRow : OpenClaim := { program := "ytebcibedkcjbcaa", sum := "f69a7f587d05f8f51ca77474e3e747ce6a611893883a162fe5a3dec4ba9683fd", func := "shunter/shunterlaw04.LinkTakes", spec := "linkTakes", apart := false, narrowed := true }
def LinkTakesUptoSaid : Prop := linkTakesUptoRow.holds Try.pinned (OpenSpec.upto linkTakesSpec)

/-- 'shunterlaw04.LinkNone', WHERE WHAT IT READS IS OF BULK AT MOST 1048576: true; the input reads as it did. -/
def linkNoneUptoRow : OpenClaim := { program := "ytebcibedkcjbcaa", sum := "f69a7f587d05f8f51ca77474e3e747ce6a611893883a162fe5a3dec4ba9683fd", func := "shunter/shunterlaw04.LinkNone", spec := "linkNone", apart := false, narrowed := true }
def LinkNoneUptoSaid : Prop := linkNoneUptoRow.holds Try.pinned (OpenSpec.upto linkNoneSpec)

/-- 'shunterlaw04.LinkDoes', WHERE WHAT IT READS IS OF BULK AT MOST 1048576: true; the input reads as it did. -/
def linkDoesUptoRow : OpenClaim := { program := "ytebcibedkcjbcaa", sum := "f69a7f587d05f8f51ca77474e3e747ce6a611893883a162fe5a3dec4ba9683fd", func := "shunter/shunterlaw04.LinkDoes", spec := "linkDoes", apart := false, narrowed := true }
def LinkDoesUptoSaid : Prop := linkDoesUptoRow.holds Try.pinned (OpenSpec.upto linkDoesSpec)

/-- 'shunterlaw04.LinkKeeps', WHERE WHAT IT READS IS OF BULK AT MOST 1048576: true; the input reads as it did. -/
def linkKeepsUptoRow : OpenClaim := { program := "ytebcibedkcjbcaa", sum := "f69a7f587d05f8f51ca77474e3e747ce6a611893883a162fe5a3dec4ba9683fd", func := "shunter/shunterlaw04.LinkKeeps", spec := "linkKeeps", apart := false, narrowed := true }
def LinkKeepsUptoSaid : Prop := linkKeepsUptoRow.holds Try.pinned (OpenSpec.upto linkKeepsSpec)

/-- 'shunterlaw04.LinkBends', WHERE WHAT IT READS IS OF BULK AT MOST 1048576: true; the input reads as it did. -/
def linkBendsUptoRow : OpenClaim := { program := "ytebcibedkcjbcaa", sum := "f69a7f587d05f8f51ca77474e3e747ce6a611893883a162fe5a3dec4ba9683fd", func := "shunter/shunterlaw04.LinkBends", spec := "linkBends", apart := false, narrowed := true }
def LinkBendsUptoSaid : Prop := linkBendsUptoRow.holds Try.pinned (OpenSpec.upto linkBendsSpec)

end Rows
end Go.Proofs.Ytebcibedkcjbcaa
