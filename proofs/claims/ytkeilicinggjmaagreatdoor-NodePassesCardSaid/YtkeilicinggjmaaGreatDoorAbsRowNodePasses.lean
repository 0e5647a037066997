/-
  NodePasses answers true at every input that it may be called with, and never panics: what is injected for a node beside it goes out in order, as long as there is credit. Conditions: those of the given statement alone; the program's listed table is laid as its text says (the card's tie).
-/
import Derived.Test.YtkeilicinggjmaaGreatDoorRows
import Derived.WalkKit
import Derived.ProofKit
import Derived.OpenShut
import Derived.SizedLaws
import Derived.Test.YtkeilicinggjmaaGreatDoorAbsM2
import Derived.Test.YtkeilicinggjmaaGreatDoorAbsM1
import Derived.Calls
import Derived.LoopN
import Derived.Orders
import Derived.Laws.Sem
import Derived.Laws.Tables
import Derived.Laws.Cells
import Derived.Laws.StructEq
import Derived.Laws.Append
import Derived.Laws.MakeOwn
import Derived.Laws.Slices
import Derived.Lib.UnsafeStr
import Derived.Laws.BytesString
import Derived.Laws.BytesArg
import Derived.Laws.Pointers
import Derived.Lib.SliceRun
import Derived.Laws.Cover3
import Derived.MapKept
import Derived.WideKeyRuns
import Derived.Scope
import Derived.RowKit
import Derived.RowKit3
import Derived.ChangeSame
import Derived.Deep.Slices
import Derived.LaidMore
import Derived.Stop.Joined
import Derived.SevenTiedAt
import Derived.Test.YtkeilicinggjmaaGreatDoorAbsTabL
import Derived.Test.YtkeilicinggjmaaGreatDoorTie
import Derived.Test.YtkeilicinggjmaaGreatDoorAbsMainT
import Derived.Test.YtkeilicinggjmaaGreatDoorCards
import Derived.Test.YtkeilicinggjmaaGreatDoorAbsM4
import Derived.Test.YtkeilicinggjmaaGreatDoorProg
import Derived.RangeFuncNested
import Derived.RangeFuncBound
import Derived.RangeFuncCalls
import Derived.RangeFuncLeaves
import Derived.Shelf.Abstract
import Derived.Shelf.RegionOpen
import Derived.OwnWalkIn
import Derived.TacticsInMore
import Derived.LoopNIn
import Derived.LoopIn
import Derived.Lib.TrailingZeros
import Derived.Tactics
import Derived.Tactics2
import Derived.Sort.Grow
import Derived.Test.YtkeilicinggjmaaGreatDoorAbsM3
import Derived.KernelRfl
import Derived.Ground.NamesProg
import Derived.Shelf.Sort.Plain
import Derived.Shelf.Slices.In.SortNone
import Derived.Test.YtkeilicinggjmaaGreatDoorAbsM8
import Derived.Test.YtkeilicinggjmaaGreatDoorAbsM7
import Derived.Test.YtkeilicinggjmaaGreatDoorAbsM5
import Derived.Test.YtkeilicinggjmaaGreatDoorAbsM6
namespace Go.Proofs.YtkeilicinggjmaaGreatDoor.nodePasses
open Go.Abs Go.ChangeShapes Go.WideShapes Go.ChangeAt Go.RowKit
set_option linter.unusedVariables false

def closed : List TypeId := [50, 5, 4, 23, 37]
theorem closed_ok : closed.all (okT Tryz.prog closed) = true := by kernel_rfl
theorem closed_in : closed.all (okA Tryz.prog closed) = true := by kernel_rfl

/-! ### The call answers true, and of the world that was nothing turns. -/
set_option maxRecDepth 100000 in
theorem lifted (os : Os) (started : os.Started) (H : Type) (enc : TypeId × Value → H) :
    ReturnsInHanded {} Tryz.checked os 5 .any (fun w args => (Rows.nodePassesSpec.pre enc Tryz.prog Tryz.f5 [] false w args ∧ laidMetH Tryz.prog vV w) ∧ sizedMet enc Tryz.prog Tryz.f5 (OpenSpec.ofChange Rows.nodePassesSpec) false w args) (Rows.nodePassesSpec.post enc Tryz.prog Tryz.f5 false true false false) := by
  refine returnsInHanded_of_change_and (C := Tryz.checked) (X := fun w _ => laidMetH Tryz.prog vV w) (fun _ _ _ hh h => h.of_heap hh) S4 started (by kernel_rfl) Tryz.func5
    (ChangeSpec.witness_shaped (enc := enc) (C := Tryz.checked) (os := os) (X := fun w _ => laidMetH Tryz.prog vV w) false (World.doorLaid Tryz.prog 400 os) #[.int .u8 0, .int .u16 0, .slice none 0 0] 8 rfl (World.shaped_of_RefB (by kernel_rfl) (by kernel_rfl)) (by kernel_rfl) (by kernel_rfl) (by kernel_rfl) (S3 os _)) ?_
  intro W base args ds gs before hval0 hW hcnd hsz hL _
  have hTW := Td hL
  have hval : ∀ (j : Nat) t v, Tryz.f5.params[j]? = some t → args[j]? = some v → Value.okWide Tryz.prog W .any base t v := hval0
  have hsz' : (DataW.weightsEach Tryz.prog (Tryz.f5.params.toList ++ Rows.nodePassesSpec.plain.varTypes Tryz.prog) (ds ++ gs)).all (· ≤ reachBytes) = true := hsz
  have hW' := hW
  obtain ⟨p, q, hA0, hV, rfl, hfz, hnd⟩ := hW
  have hA : DataW.TrodAll enc Tryz.prog W 0 (fun _ => true) true Tryz.f5.params.toList args.toList ds p := hA0
  have hA1 := hA
  rw [Tryz.params5] at hA hval hsz'
  obtain ⟨v0, vs0, d0, ds0, p0, q0, hargs, rfl, rfl, h0, r0⟩ := trodAll_cons hA
  obtain ⟨v1, vs1, d1, ds1, p1, q1, rfl, rfl, rfl, h1, r1⟩ := trodAll_cons r0
  obtain ⟨v2, vs2, d2, ds2, p2, q2, rfl, rfl, rfl, h2, r2⟩ := trodAll_cons r1
  obtain ⟨rfl, rfl, rfl⟩ := trodAll_nil r2
  obtain rfl : args = #[v0, v1, v2] := by cases args; simp_all
  obtain ⟨rfl, rfl⟩ := trodVars_none hV
  have main : Calls Tryz.prog 5 #[v0, v1, v2] W fun e w' => e = .returned (.bool true) ∧ Kept W w' := by
    obtain ⟨a0, rfl, _, _, w0⟩ := open_int (P := Tryz.prog) (t := 5) (k := .u8) (by kernel_rfl) (hval 0 5 v0 rfl rfl) h0
    obtain ⟨a1, rfl, _, _, w1⟩ := open_int (P := Tryz.prog) (t := 23) (k := .u16) (by kernel_rfl) (hval 1 23 v1 rfl rfl) h1
    obtain ⟨G2, ρ2, u2, n2, i2, le2, vr2, rp2⟩ := S1 (t := 50) (e := 37) closed_in (by decide) (by kernel_rfl) (hval 2 50 v2 rfl rfl) h2 (S2 (j := 2) hsz' rfl rfl) (In.Sm _ _ hTW)
    obtain ⟨n0, rfl, b0⟩ := zR w0
    obtain ⟨n1, rfl, b1⟩ := Xx w1
    obtain ⟨B, z1, z2⟩ := U3.aOF rp2
    obtain ⟨H', hl, _⟩ := aOI z1 z2 n0 n1 b0 b1
    exact So Vm Kv i2 hl (Vrs.lZ (.same rfl) (Vrs.lZ (.same rfl) (Vrs.lZ vr2 (Vrs.mQ _))))
  refine main.mono fun e W' ⟨he, hg⟩ => ?_
  subst he
  exact ⟨_, rfl, Sc (pa := (p0 ++ (p1 ++ (p2 ++ [])))) (pv := []) hW' (fun _ _ _ => (trodAll_cons_mk (shut_bool Tryz.underlying4 _) trodAll_mk0)) (fun sp hsp => Jd hg closed_ok _ _ _ _ (by rw [Tryz.params5]; decide) hA1 (fun q hq => hsp q (by simpa using hq))) (fun _ _ => rfl) rfl
    hg (ok_one (by kernel_rfl) rfl (okWide_bool_mk Tryz.underlying4 _))⟩

theorem jW : Rows.nodePassesRow.wf (OpenSpec.ofChange Rows.nodePassesSpec) = true := by kernel_rfl
theorem jP : (Rows.nodePassesRow.inPlace == Tryz.prog.inPlace 5) = true := by kernel_rfl
theorem jU : (Rows.nodePassesRow.unfollowed == Tryz.prog.unfollowed 5) = true := by kernel_rfl
theorem jR : (Rows.nodePassesRow.recurses == Tryz.prog.recurses 5) = true := by kernel_rfl
theorem jN : (Rows.nodePassesRow.named == Tryz.prog.varsNamed 5) = true := by kernel_rfl
theorem jG : false = Rows.nodePassesRow.goesBy Tryz.prog := by kernel_rfl
theorem jT : Rows.nodePassesRow.wfByText (OpenSpec.ofChange Rows.nodePassesSpec) = true := by kernel_rfl
theorem jF : Tryz.prog.funcNamed "shunter/shunterlaw16.NodePasses" = some 5 := by kernel_rfl
theorem jS : ([5, 23, 50].all fun u => !Tryz.prog.wantsStandIn u) = true := by kernel_rfl
theorem joined : joinedFacts Tryz.prog 5 Tryz.f5 Rows.nodePassesSpec Rows.nodePassesRow = true := by
  unfold joinedFacts
  exact (Bool.and_eq_true_iff.mpr ⟨(Bool.and_eq_true_iff.mpr ⟨(Bool.and_eq_true_iff.mpr ⟨(Bool.and_eq_true_iff.mpr ⟨(Bool.and_eq_true_iff.mpr ⟨(Bool.and_eq_true_iff.mpr ⟨(Bool.and_eq_true_iff.mpr ⟨(Bool.and_eq_true_iff.mpr ⟨(Bool.and_eq_true_iff.mpr ⟨(Bool.and_eq_true_iff.mpr ⟨(Bool.and_eq_true_iff.mpr ⟨(Bool.and_eq_true_iff.mpr ⟨(Bool.and_eq_true_iff.mpr ⟨(Bool.and_eq_true_iff.mpr ⟨(Bool.and_eq_true_iff.mpr ⟨(Bool.and_eq_true_iff.mpr ⟨(Bool.and_eq_true_iff.mpr ⟨(Bool.and_eq_true_iff.mpr ⟨(Bool.and_eq_true_iff.mpr ⟨(Bool.and_eq_true_iff.mpr ⟨(Bool.and_eq_true_iff.mpr ⟨(Bool.and_eq_true_iff.mpr ⟨(Bool.and_eq_true_iff.mpr ⟨(Bool.and_eq_true_iff.mpr ⟨(Bool.and_eq_true_iff.mpr ⟨(Bool.and_eq_true_iff.mpr ⟨(Bool.and_eq_true_iff.mpr ⟨(Bool.and_eq_true_iff.mpr ⟨(Bool.and_eq_true_iff.mpr ⟨(Bool.and_eq_true_iff.mpr ⟨(Bool.and_eq_true_iff.mpr ⟨jW, S8⟩), Tb⟩), (by kernel_rfl)⟩), (by kernel_rfl)⟩), (by kernel_rfl)⟩), Tc⟩), (by kernel_rfl)⟩), S7⟩), jP⟩), jU⟩), jR⟩), jN⟩), (by kernel_rfl)⟩), (by kernel_rfl)⟩), (by kernel_rfl)⟩), (by kernel_rfl)⟩), (by kernel_rfl)⟩), (by kernel_rfl)⟩), (by kernel_rfl)⟩), (by kernel_rfl)⟩), (by kernel_rfl)⟩), Ta⟩), (by kernel_rfl)⟩), S6⟩), S5⟩), (by kernel_rfl)⟩), (by kernel_rfl)⟩), (by kernel_rfl)⟩), (by kernel_rfl)⟩), (by kernel_rfl)⟩), (by kernel_rfl)⟩)
theorem over : Rows.nodePassesRow.holds Tryz.pinned (OpenSpec.ofChange Rows.nodePassesSpec) :=
  OpenClaim.holds_of_wide 5 Tryz.f5 rfl rfl rfl rfl rfl rfl rfl ⟨rfl, rfl, rfl, rfl, rfl⟩ rfl rfl rfl rfl rfl (by kernel_rfl) Tryz.func5 joined
    (of_decide_eq_true (by kernel_rfl)) (by unfold Func.isWrapper; first | (rw [if_pos (by decide +kernel)]; kernel_rfl) | (rw [if_neg (by decide +kernel)]; exact ⟨rfl, rfl⟩))
    (fun os started H enc _ => lifted os started H enc)

/-- the statement: the row, tied to the program's text -/
theorem proved : Rows.NodePassesCardSaid :=
  Claim7.holds_tied_plain_at .later [] [.data] true (true, "255e3e5681ae386412456c20253e29dfeb1992f5f284414a713a9b6bb7a43280") false
    over (fun _ h => by cases h) jT (fun _ h => by cases h) nodePasses_row_tie rfl ⟨rfl, rfl⟩ Te rfl
    (fun f fn hf hfn => by
      obtain rfl : f = 5 := Option.some.inj (jF.symm.trans hf) |>.symm
      obtain rfl : fn = Tryz.f5 := (Option.some.inj (Tryz.func5.symm.trans hfn)).symm
      exact ⟨S9, fun j t ht => by
        rw [Tryz.params5] at ht
        have hm : t ∈ [5, 23, 50] := by simpa using Array.mem_of_getElem? ht
        exact (show Tryz.prog.wantsStandIn t = false by simpa using List.all_eq_true.1 jS t hm)⟩)
    jG
#print axioms proved
end Go.Proofs.YtkeilicinggjmaaGreatDoor.nodePasses
