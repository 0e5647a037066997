/-
  NodeRefuses answers true at every input that it may be called with, and never panics: a frame from one that is not beside a node, of a lane that is none, or that is no frame, is refused. Conditions: those of the given statement alone; the program's listed table is laid as its text says (the card's tie).
-/
import Derived.Test.YtmimdleeihjdoaaGreatDoorRows
import Derived.WalkKit
import Derived.ProofKit
import Derived.OpenShut
import Derived.SizedLaws
import Derived.Test.YtmimdleeihjdoaaGreatDoorAbsM2
import Derived.Test.YtmimdleeihjdoaaGreatDoorAbsM1
import Derived.Calls
import Derived.LoopN
import Derived.Orders
import Derived.Laws.Sem
import Derived.Laws.Tables
import Derived.Laws.Cells
import Derived.Laws.StructEq
import Derived.Laws.Append
import Derived.Laws.MakeOwn
import Derived.Laws.Slices
import Derived.Lib.UnsafeStr
import Derived.Laws.BytesString
import Derived.Laws.BytesArg
import Derived.Laws.Pointers
import Derived.Lib.SliceRun
import Derived.Laws.Cover3
import Derived.MapKept
import Derived.WideKeyRuns
import Derived.Scope
import Derived.RowKit
import Derived.RowKit3
import Derived.ChangeSame
import Derived.Deep.Slices
import Derived.LaidMore
import Derived.Stop.Joined
import Derived.SevenTiedAt
import Derived.Test.YtmimdleeihjdoaaGreatDoorAbsTabL
import Derived.Test.YtmimdleeihjdoaaGreatDoorTie
import Derived.Test.YtmimdleeihjdoaaGreatDoorAbsMainT
import Derived.Test.YtmimdleeihjdoaaGreatDoorCards
import Derived.Test.YtmimdleeihjdoaaGreatDoorAbsM4
import Derived.Test.YtmimdleeihjdoaaGreatDoorProg
import Derived.RangeFuncNested
import Derived.RangeFuncBound
import Derived.RangeFuncCalls
import Derived.RangeFuncLeaves
import Derived.Shelf.Abstract
import Derived.Shelf.RegionOpen
import Derived.OwnWalkIn
import Derived.TacticsInMore
import Derived.LoopNIn
import Derived.LoopIn
import Derived.Lib.TrailingZeros
import Derived.Tactics
import Derived.Tactics2
import Derived.Sort.Grow
import Derived.Test.YtmimdleeihjdoaaGreatDoorAbsM3
import Derived.KernelRfl
import Derived.Ground.NamesProg
import Derived.Shelf.Sort.Plain
import Derived.Shelf.Slices.In.SortNone
import Derived.Test.YtmimdleeihjdoaaGreatDoorAbsM7
import Derived.Test.YtmimdleeihjdoaaGreatDoorAbsM5
import Derived.Test.YtmimdleeihjdoaaGreatDoorAbsM6
namespace Go.Proofs.YtmimdleeihjdoaaGreatDoor.nodeRefuses
open Go.Abs Go.ChangeShapes Go.WideShapes Go.ChangeAt Go.RowKit
set_option linter.unusedVariables false

def closed : List TypeId := [22, 5, 4, 3, 23]
theorem closed_ok : closed.all (okT Tryz.prog closed) = true := by kernel_rfl
theorem closed_in : closed.all (okA Tryz.prog closed) = true := by kernel_rfl

/-! ### The call answers true, and of the world that was nothing turns. -/
set_option maxRecDepth 100000 in
theorem lifted (os : Os) (started : os.Started) (H : Type) (enc : TypeId × Value → H) :
    ReturnsInHanded {} Tryz.checked os 10 .any (fun w args => (Rows.nodeRefusesSpec.pre enc Tryz.prog Tryz.f10 [] false w args ∧ laidMetH Tryz.prog uO w) ∧ sizedMet enc Tryz.prog Tryz.f10 (OpenSpec.ofChange Rows.nodeRefusesSpec) false w args) (Rows.nodeRefusesSpec.post enc Tryz.prog Tryz.f10 false true false false) := by
  refine returnsInHanded_of_change_and (C := Tryz.checked) (X := fun w _ => laidMetH Tryz.prog uO w) (fun _ _ _ hh h => h.of_heap hh) Sd started (by kernel_rfl) Tryz.func10
    (ChangeSpec.witness_shaped (enc := enc) (C := Tryz.checked) (os := os) (X := fun w _ => laidMetH Tryz.prog uO w) false (World.doorLaid Tryz.prog 400 os) #[.slice none 0 0, .int .u8 0, .int .u8 0, .int .u8 0, .int .i64 0, .slice none 0 0, .int .u16 0] 8 rfl (World.shaped_of_RefB (by kernel_rfl) (by kernel_rfl)) (by kernel_rfl) (by kernel_rfl) (by kernel_rfl) (Sc os _)) ?_
  intro W base args ds gs before hval0 hW hcnd hsz hL _
  have hTW := So hL
  have hval : ∀ (j : Nat) t v, Tryz.f10.params[j]? = some t → args[j]? = some v → Value.okWide Tryz.prog W .any base t v := hval0
  have hsz' : (DataW.weightsEach Tryz.prog (Tryz.f10.params.toList ++ Rows.nodeRefusesSpec.plain.varTypes Tryz.prog) (ds ++ gs)).all (· ≤ reachBytes) = true := hsz
  have hW' := hW
  obtain ⟨p, q, hA0, hV, rfl, hfz, hnd⟩ := hW
  have hA : DataW.TrodAll enc Tryz.prog W 0 (fun _ => true) true Tryz.f10.params.toList args.toList ds p := hA0
  have hA1 := hA
  rw [Tryz.params10] at hA hval hsz'
  obtain ⟨v0, vs0, d0, ds0, p0, q0, hargs, rfl, rfl, h0, r0⟩ := trodAll_cons hA
  obtain ⟨v1, vs1, d1, ds1, p1, q1, rfl, rfl, rfl, h1, r1⟩ := trodAll_cons r0
  obtain ⟨v2, vs2, d2, ds2, p2, q2, rfl, rfl, rfl, h2, r2⟩ := trodAll_cons r1
  obtain ⟨v3, vs3, d3, ds3, p3, q3, rfl, rfl, rfl, h3, r3⟩ := trodAll_cons r2
  obtain ⟨v4, vs4, d4, ds4, p4, q4, rfl, rfl, rfl, h4, r4⟩ := trodAll_cons r3
  obtain ⟨v5, vs5, d5, ds5, p5, q5, rfl, rfl, rfl, h5, r5⟩ := trodAll_cons r4
  obtain ⟨v6, vs6, d6, ds6, p6, q6, rfl, rfl, rfl, h6, r6⟩ := trodAll_cons r5
  obtain ⟨rfl, rfl, rfl⟩ := trodAll_nil r6
  obtain rfl : args = #[v0, v1, v2, v3, v4, v5, v6] := by cases args; simp_all
  obtain ⟨rfl, rfl⟩ := trodVars_none hV
  have main : Calls Tryz.prog 10 #[v0, v1, v2, v3, v4, v5, v6] W fun e w' => e = .returned (.bool true) ∧ Kept W w' := by
    obtain ⟨G0, ρ0, u0, n0, i0, le0, vr0, rp0⟩ := I5 (t := 22) (e := 5) closed_in (by decide) (by kernel_rfl) (hval 0 22 v0 rfl rfl) h0 (Df (j := 0) hsz' rfl rfl) (In.Rz _ _ hTW)
    obtain ⟨a1, rfl, _, _, w1⟩ := open_int (P := Tryz.prog) (t := 5) (k := .u8) (by kernel_rfl) (hval 1 5 v1 rfl rfl) h1
    obtain ⟨a2, rfl, _, _, w2⟩ := open_int (P := Tryz.prog) (t := 5) (k := .u8) (by kernel_rfl) (hval 2 5 v2 rfl rfl) h2
    obtain ⟨a3, rfl, _, _, w3⟩ := open_int (P := Tryz.prog) (t := 5) (k := .u8) (by kernel_rfl) (hval 3 5 v3 rfl rfl) h3
    obtain ⟨a4, rfl, _, _, w4⟩ := open_int (P := Tryz.prog) (t := 3) (k := .i64) (by kernel_rfl) (hval 4 3 v4 rfl rfl) h4
    obtain ⟨G5, ρ5, u5, n5, i5, le5, vr5, rp5⟩ := I5 (t := 22) (e := 5) closed_in (by decide) (by kernel_rfl) (hval 5 22 v5 rfl rfl) h5 (Df (j := 5) hsz' rfl rfl) i0
    replace rp0 := Rp.yA (KeepRO.app _ G5) _ _ _ rp0
    obtain ⟨a6, rfl, _, _, w6⟩ := open_int (P := Tryz.prog) (t := 23) (k := .u16) (by kernel_rfl) (hval 6 23 v6 rfl rfl) h6
    obtain ⟨n1, rfl, b1⟩ := wQ w1
    obtain ⟨n2, rfl, b2⟩ := wQ w2
    obtain ⟨n3, rfl, b3⟩ := wQ w3
    obtain ⟨n6, rfl, b6⟩ := aHK w6
    obtain ⟨c, z1, z2, z3⟩ := Us.L6 rp0
    obtain ⟨bb, y1, y2, y3⟩ := Us.L6 rp5
    obtain ⟨H', hl, _⟩ := aNU z1 z2 z3 y1 y2 n1 n2 n3 n6 b1 b2 b3 b6 a4
    exact R0 Uu Kj i5 hl (Vrs.kN (vr0.qO le5) (Vrs.kN (.same rfl) (Vrs.kN (.same rfl) (Vrs.kN (.same rfl) (Vrs.kN (.same rfl) (Vrs.kN vr5 (Vrs.kN (.same rfl) (Vrs.mL _))))))))
  refine main.mono fun e W' ⟨he, hg⟩ => ?_
  subst he
  exact ⟨_, rfl, Rj (pa := (p0 ++ (p1 ++ (p2 ++ (p3 ++ (p4 ++ (p5 ++ (p6 ++ [])))))))) (pv := []) hW' (fun _ _ _ => (trodAll_cons_mk (shut_bool Tryz.underlying4 _) trodAll_mk0)) (fun sp hsp => I0 hg closed_ok _ _ _ _ (by rw [Tryz.params10]; decide) hA1 (fun q hq => hsp q (by simpa using hq))) (fun _ _ => rfl) rfl
    hg (ok_one (by kernel_rfl) rfl (okWide_bool_mk Tryz.underlying4 _))⟩

theorem jW : Rows.nodeRefusesRow.wf (OpenSpec.ofChange Rows.nodeRefusesSpec) = true := by kernel_rfl
theorem jP : (Rows.nodeRefusesRow.inPlace == Tryz.prog.inPlace 10) = true := by kernel_rfl
theorem jU : (Rows.nodeRefusesRow.unfollowed == Tryz.prog.unfollowed 10) = true := by kernel_rfl
theorem jR : (Rows.nodeRefusesRow.recurses == Tryz.prog.recurses 10) = true := by kernel_rfl
theorem jN : (Rows.nodeRefusesRow.named == Tryz.prog.varsNamed 10) = true := by kernel_rfl
theorem jG : false = Rows.nodeRefusesRow.goesBy Tryz.prog := by kernel_rfl
theorem jT : Rows.nodeRefusesRow.wfByText (OpenSpec.ofChange Rows.nodeRefusesSpec) = true := by kernel_rfl
theorem jF : Tryz.prog.funcNamed "shunter/shunterlaw16.NodeRefuses" = some 10 := by kernel_rfl
theorem jS : ([22, 5, 5, 5, 3, 22, 23].all fun u => !Tryz.prog.wantsStandIn u) = true := by kernel_rfl
theorem joined : joinedFacts Tryz.prog 10 Tryz.f10 Rows.nodeRefusesSpec Rows.nodeRefusesRow = true := by
  unfold joinedFacts
  exact (Bool.and_eq_true_iff.mpr ⟨(Bool.and_eq_true_iff.mpr ⟨(Bool.and_eq_true_iff.mpr ⟨(Bool.and_eq_true_iff.mpr ⟨(Bool.and_eq_true_iff.mpr ⟨(Bool.and_eq_true_iff.mpr ⟨(Bool.and_eq_true_iff.mpr ⟨(Bool.and_eq_true_iff.mpr ⟨(Bool.and_eq_true_iff.mpr ⟨(Bool.and_eq_true_iff.mpr ⟨(Bool.and_eq_true_iff.mpr ⟨(Bool.and_eq_true_iff.mpr ⟨(Bool.and_eq_true_iff.mpr ⟨(Bool.and_eq_true_iff.mpr ⟨(Bool.and_eq_true_iff.mpr ⟨(Bool.and_eq_true_iff.mpr ⟨(Bool.and_eq_true_iff.mpr ⟨(Bool.and_eq_true_iff.mpr ⟨(Bool.and_eq_true_iff.mpr ⟨(Bool.and_eq_true_iff.mpr ⟨(Bool.and_eq_true_iff.mpr ⟨(Bool.and_eq_true_iff.mpr ⟨(Bool.and_eq_true_iff.mpr ⟨(Bool.and_eq_true_iff.mpr ⟨(Bool.and_eq_true_iff.mpr ⟨(Bool.and_eq_true_iff.mpr ⟨(Bool.and_eq_true_iff.mpr ⟨(Bool.and_eq_true_iff.mpr ⟨(Bool.and_eq_true_iff.mpr ⟨(Bool.and_eq_true_iff.mpr ⟨(Bool.and_eq_true_iff.mpr ⟨jW, Sh⟩), Sk⟩), (by kernel_rfl)⟩), (by kernel_rfl)⟩), (by kernel_rfl)⟩), Sm⟩), (by kernel_rfl)⟩), Sg⟩), jP⟩), jU⟩), jR⟩), jN⟩), (by kernel_rfl)⟩), (by kernel_rfl)⟩), (by kernel_rfl)⟩), (by kernel_rfl)⟩), (by kernel_rfl)⟩), (by kernel_rfl)⟩), (by kernel_rfl)⟩), (by kernel_rfl)⟩), (by kernel_rfl)⟩), Sj⟩), (by kernel_rfl)⟩), Sf⟩), Se⟩), (by kernel_rfl)⟩), (by kernel_rfl)⟩), (by kernel_rfl)⟩), (by kernel_rfl)⟩), (by kernel_rfl)⟩), (by kernel_rfl)⟩)
theorem over : Rows.nodeRefusesRow.holds Tryz.pinned (OpenSpec.ofChange Rows.nodeRefusesSpec) :=
  OpenClaim.holds_of_wide 10 Tryz.f10 rfl rfl rfl rfl rfl rfl rfl ⟨rfl, rfl, rfl, rfl, rfl⟩ rfl rfl rfl rfl rfl (by kernel_rfl) Tryz.func10 joined
    (of_decide_eq_true (by kernel_rfl)) (by unfold Func.isWrapper; first | (rw [if_pos (by decide +kernel)]; kernel_rfl) | (rw [if_neg (by decide +kernel)]; exact ⟨rfl, rfl⟩))
    (fun os started H enc _ => lifted os started H enc)

/-- the statement: the row, tied to the program's text -/
theorem proved : Rows.NodeRefusesCardSaid :=
  Claim7.holds_tied_plain_at .later [] [.data] true (true, "7d92180c8c808a9160a8b6506553a7c67555d704ab9f23fc27fe7a2ead928584") false
    over (fun _ h => by cases h) jT (fun _ h => by cases h) nodeRefuses_row_tie rfl ⟨rfl, rfl⟩ Sp rfl
    (fun f fn hf hfn => by
      obtain rfl : f = 10 := Option.some.inj (jF.symm.trans hf) |>.symm
      obtain rfl : fn = Tryz.f10 := (Option.some.inj (Tryz.func10.symm.trans hfn)).symm
      exact ⟨Si, fun j t ht => by
        rw [Tryz.params10] at ht
        have hm : t ∈ [22, 5, 5, 5, 3, 22, 23] := by simpa using Array.mem_of_getElem? ht
        exact (show Tryz.prog.wantsStandIn t = false by simpa using List.all_eq_true.1 jS t hm)⟩)
    jG
#print axioms proved
end Go.Proofs.YtmimdleeihjdoaaGreatDoor.nodeRefuses
