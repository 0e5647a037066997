/-
  A ring each of whose nodes sends on to the next one alone goes round, and a chain does not: for every input, with no condition.
-/
import Derived.Test.YtdobnaldfmpimaaRows
import Derived.WalkKit
import Derived.ProofKit
import Derived.OpenShut
import Derived.SizedLaws
import Derived.Test.YtdobnaldfmpimaaAbsTrod
import Derived.Test.YtdobnaldfmpimaaAbsArg3
import Derived.Test.YtdobnaldfmpimaaAbsM3

namespace Go.Proofs.Ytdobnaldfmpimaa.routeRings
open Go.Abs Go.ChangeShapes Go.WideShapes Go.ChangeAt Go.RowKit
set_option linter.unusedVariables false

theorem own : ownKnob Try.prog.godebug = none := by kernel_rfl
def closed : List TypeId := [5, 4]
theorem closed_ok : closed.all (okT Try.prog closed) = true := by kernel_rfl
theorem closed_in : closed.all (okA Try.prog closed) = true := by kernel_rfl

/-! ### The call answers true, and of the world that was nothing turns. -/
set_option maxRecDepth 100000 in
theorem lifted (os : Os) (started : os.Started) (H : Type) (enc : TypeId × Value → H) :
    ReturnsInHanded {} Try.checked os 9 .any (Rows.routeRingsSpec.pre6 enc Try.prog Try.f9 Rows.routeRingsRow.domain false) (Rows.routeRingsSpec.post enc Try.prog Try.f9 false true false false) := by
  refine returnsInHanded_of_change_sized (C := Try.checked) own started (by kernel_rfl) Try.func9
    (ChangeSpec.witness6 (enc := enc) (C := Try.checked) false ⟨#[], #[.int .u8 0, .int .u8 0, .int .u8 0], []⟩ 8 (by kernel_rfl) (by kernel_rfl) (by kernel_rfl) (by kernel_rfl)) ?_
  intro W base args ds gs before hval0 hW hcnd hsz _
  have hval : ∀ (j : Nat) t v, Try.f9.params[j]? = some t → args[j]? = some v → Value.okWide Try.prog W .any base t v := hval0
  have hsz' : (DataW.weightsEach Try.prog (Try.f9.params.toList ++ Rows.routeRingsSpec.plain.varTypes Try.prog) (ds ++ gs)).all (· ≤ reachBytes) = true := hsz
  have hW' := hW
  obtain ⟨p, q, hA0, hV, rfl, hfz, hnd⟩ := hW
  have hA : DataW.TrodAll enc Try.prog W 0 (fun _ => true) true Try.f9.params.toList args.toList ds p := hA0
  have hA1 := hA
  rw [Try.params9] at hA hval hsz'
  obtain ⟨v0, vs0, d0, ds0, p0, q0, hargs, rfl, rfl, h0, r0⟩ := trodAll_cons hA
  obtain ⟨v1, vs1, d1, ds1, p1, q1, rfl, rfl, rfl, h1, r1⟩ := trodAll_cons r0
  obtain ⟨v2, vs2, d2, ds2, p2, q2, rfl, rfl, rfl, h2, r2⟩ := trodAll_cons r1
  obtain ⟨rfl, rfl, rfl⟩ := trodAll_nil r2
  obtain rfl : args = #[v0, v1, v2] := by cases args; simp_all
  obtain ⟨rfl, rfl⟩ := trodVars_none hV
  have main : Calls Try.prog 9 #[v0, v1, v2] W fun e w' => e = .returned (.bool true) ∧ Kept W w' := by
    obtain ⟨a0, rfl, _, _, w0⟩ := open_int (P := Try.prog) (t := 5) (k := .u8) (by kernel_rfl) (hval 0 5 v0 rfl rfl) h0
    obtain ⟨a1, rfl, _, _, w1⟩ := open_int (P := Try.prog) (t := 5) (k := .u8) (by kernel_rfl) (hval 1 5 v1 rfl rfl) h1
    obtain ⟨a2, rfl, _, _, w2⟩ := open_int (P := Try.prog) (t := 5) (k := .u8) (by kernel_rfl) (hval 2 5 v2 rfl rfl) h2
    obtain ⟨n0, rfl, b0⟩ := nat_u8 w0
    obtain ⟨n1, rfl, b1⟩ := nat_u8 w1
    obtain ⟨n2, rfl, b2⟩ := nat_u8 w2
    obtain ⟨H', hl, _⟩ := routeRings_true n0 n1 n2 b0 b1 b2
    exact call_in known12_ok mix12 (In.nil _ _) hl (Vrs.cons (.same rfl) (Vrs.cons (.same rfl) (Vrs.cons (.same rfl) (Vrs.nil _))))
  refine main.mono fun e W' ⟨he, hg⟩ => ?_
  subst he
  exact ⟨_, rfl, post_of_kept (pa := (p0 ++ (p1 ++ (p2 ++ [])))) (pv := []) hW' (fun _ _ _ => (trodAll_cons_mk (shut_bool Try.underlying4 _) trodAll_mk0)) (fun sp hsp => trodAll_kept hg closed_ok _ _ _ _ (by rw [Try.params9]; decide) hA1 (fun q hq => hsp q (by simpa using hq))) (fun _ _ => rfl) rfl
    hg (ok_one (by kernel_rfl) rfl (okWide_bool_mk Try.underlying4 _))⟩

theorem over : Rows.routeRingsRow.holds Try.pinned (OpenSpec.ofChange Rows.routeRingsSpec) :=
  OpenClaim.holds_of_wide 9 Try.f9 rfl rfl rfl rfl rfl rfl rfl ⟨rfl, rfl, rfl, rfl, rfl⟩ rfl rfl rfl rfl rfl (by kernel_rfl) Try.func9 (by kernel_rfl)
    (of_decide_eq_true (by kernel_rfl)) (by unfold Func.isWrapper; first | (rw [if_pos (by decide +kernel)]; kernel_rfl) | (rw [if_neg (by decide +kernel)]; exact ⟨rfl, rfl⟩))
    (fun os started H enc _ => lifted os started H enc)

/-- the statement -/
theorem proved : Rows.RouteRingsSaid :=
  over
#print axioms proved
end Go.Proofs.Ytdobnaldfmpimaa.routeRings
