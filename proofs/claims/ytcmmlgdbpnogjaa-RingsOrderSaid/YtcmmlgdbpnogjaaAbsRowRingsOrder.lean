/-
  RingsOrder answers true for every input, and changes nothing that was there.
-/
import Derived.Test.YtcmmlgdbpnogjaaRows
import Derived.WalkKit
import Derived.ProofKit
import Derived.OpenShut
import Derived.SizedLaws
import Derived.Test.YtcmmlgdbpnogjaaAbsTrod
import Derived.Test.YtcmmlgdbpnogjaaAbsArg3
import Derived.Test.YtcmmlgdbpnogjaaAbsRgOrder
namespace Go.Proofs.Ytcmmlgdbpnogjaa.ringsOrder
open Go.Abs Go.ChangeShapes Go.WideShapes Go.ChangeAt Go.RowKit
set_option linter.unusedVariables false

theorem own : ownKnob Try.prog.godebug = none := by kernel_rfl
def closed : List TypeId := [56, 58, 5, 3, 4, 50, 48, 68]
theorem closed_ok : closed.all (okT Try.prog closed) = true := by kernel_rfl
theorem closed_in : closed.all (okA Try.prog closed) = true := by kernel_rfl

/-! ### The call answers true, and of the world that was nothing turns. -/
set_option maxRecDepth 100000 in
theorem lifted (os : Os) (started : os.Started) (H : Type) (enc : TypeId × Value → H) :
    ReturnsInHanded {} Try.checked os 13 .any (Rows.ringsOrderSpec.pre6 enc Try.prog Try.f13 Rows.ringsOrderRow.domain false) (Rows.ringsOrderSpec.post enc Try.prog Try.f13 false true false false) := by
  refine returnsInHanded_of_change_sized (C := Try.checked) own started (by kernel_rfl) Try.func13
    (ChangeSpec.witness6 (enc := enc) (C := Try.checked) false ⟨#[], #[.slice none 0 0, .slice none 0 0], []⟩ 8 (by kernel_rfl) (by kernel_rfl) (by kernel_rfl) (by kernel_rfl)) ?_
  intro W base args ds gs before hval0 hW hcnd hsz _
  have hval : ∀ (j : Nat) t v, Try.f13.params[j]? = some t → args[j]? = some v → Value.okWide Try.prog W .any base t v := hval0
  have hsz' : (DataW.weightsEach Try.prog (Try.f13.params.toList ++ Rows.ringsOrderSpec.plain.varTypes Try.prog) (ds ++ gs)).all (· ≤ reachBytes) = true := hsz
  have hW' := hW
  obtain ⟨p, q, hA0, hV, rfl, hfz, hnd⟩ := hW
  have hA : DataW.TrodAll enc Try.prog W 0 (fun _ => true) true Try.f13.params.toList args.toList ds p := hA0
  have hA1 := hA
  rw [Try.params13] at hA hval hsz'
  obtain ⟨v0, vs0, d0, ds0, p0, q0, hargs, rfl, rfl, h0, r0⟩ := trodAll_cons hA
  obtain ⟨v1, vs1, d1, ds1, p1, q1, rfl, rfl, rfl, h1, r1⟩ := trodAll_cons r0
  obtain ⟨rfl, rfl, rfl⟩ := trodAll_nil r1
  obtain rfl : args = #[v0, v1] := by cases args; simp_all
  obtain ⟨rfl, rfl⟩ := trodVars_none hV
  have main : Calls Try.prog 13 #[v0, v1] W fun e w' => e = .returned (.bool true) ∧ Kept W w' := by
    obtain ⟨G0, ρ0, u0, n0, i0, le0, vr0, rp0⟩ := arg_in (t := 56) (e := 58) closed_in (by decide) (by kernel_rfl) (hval 0 56 v0 rfl rfl) h0 (fit_of (j := 0) hsz' rfl rfl) (In.nil _ _)
    obtain ⟨G1, ρ1, u1, n1, i1, le1, vr1, rp1⟩ := arg_in (t := 68) (e := 48) closed_in (by decide) (by kernel_rfl) (hval 1 68 v1 rfl rfl) h1 (fit_of (j := 1) hsz' rfl rfl) i0
    replace rp0 := Rp.keep (KeepRO.app _ G1) _ _ _ rp0
    obtain ⟨b, xs, ho⟩ := ROps.of_rp rp0
    obtain ⟨c, us, hu⟩ := Us.of_rp rp1
    obtain ⟨H', hl⟩ := ringsOrder_true ho hu
    exact call_in known8_ok mix8 i1 hl (Vrs.cons (vr0.mono le1) (Vrs.cons vr1 (Vrs.nil _)))
  refine main.mono fun e W' ⟨he, hg⟩ => ?_
  subst he
  exact ⟨_, rfl, post_of_kept (pa := (p0 ++ (p1 ++ []))) (pv := []) hW' (fun _ _ _ => (trodAll_cons_mk (shut_bool Try.underlying4 _) trodAll_mk0)) (fun sp hsp => trodAll_kept hg closed_ok _ _ _ _ (by rw [Try.params13]; decide) hA1 (fun q hq => hsp q (by simpa using hq))) (fun _ _ => rfl) rfl
    hg (ok_one (by kernel_rfl) rfl (okWide_bool_mk Try.underlying4 _))⟩

theorem over : Rows.ringsOrderRow.holds Try.pinned (OpenSpec.ofChange Rows.ringsOrderSpec) :=
  OpenClaim.holds_of_wide 13 Try.f13 rfl rfl rfl rfl rfl rfl rfl ⟨rfl, rfl, rfl, rfl, rfl⟩ rfl rfl rfl rfl rfl (by kernel_rfl) Try.func13 (by kernel_rfl)
    (of_decide_eq_true (by kernel_rfl)) (by unfold Func.isWrapper; first | (rw [if_pos (by decide +kernel)]; kernel_rfl) | (rw [if_neg (by decide +kernel)]; exact ⟨rfl, rfl⟩))
    (fun os started H enc _ => lifted os started H enc)

/-- the statement -/
theorem proved : Rows.RingsOrderSaid :=
  over
#print axioms proved
end Go.Proofs.Ytcmmlgdbpnogjaa.ringsOrder
