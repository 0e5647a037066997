/-
  RingsDo answers true for every input, and changes nothing that was there.
-/
import Derived.Test.YtcmmlgdbpnogjaaRows
import Derived.WalkKit
import Derived.ProofKit
import Derived.OpenShut
import Derived.SizedLaws
import Derived.Test.YtcmmlgdbpnogjaaAbsTrod
import Derived.Test.YtcmmlgdbpnogjaaAbsArg3
import Derived.Test.YtcmmlgdbpnogjaaAbsRgDo
namespace Go.Proofs.Ytcmmlgdbpnogjaa.ringsDo
open Go.Abs Go.ChangeShapes Go.WideShapes Go.ChangeAt Go.RowKit
set_option linter.unusedVariables false

theorem own : ownKnob Try.prog.godebug = none := by kernel_rfl
def closed : List TypeId := [56, 58, 5, 3, 4, 50, 48]
theorem closed_ok : closed.all (okT Try.prog closed) = true := by kernel_rfl
theorem closed_in : closed.all (okA Try.prog closed) = true := by kernel_rfl

/-! ### The call answers true, and of the world that was nothing turns. -/
set_option maxRecDepth 100000 in
theorem lifted (os : Os) (started : os.Started) (H : Type) (enc : TypeId × Value → H) :
    ReturnsInHanded {} Try.checked os 12 .any (Rows.ringsDoSpec.pre6 enc Try.prog Try.f12 Rows.ringsDoRow.domain false) (Rows.ringsDoSpec.post enc Try.prog Try.f12 false true false false) := by
  refine returnsInHanded_of_change_sized (C := Try.checked) own started (by kernel_rfl) Try.func12
    (ChangeSpec.witness6 (enc := enc) (C := Try.checked) false ⟨#[], #[.int .i64 0, .int .i64 0, .int .i64 0, .slice none 0 0], []⟩ 8 (by kernel_rfl) (by kernel_rfl) (by kernel_rfl) (by kernel_rfl)) ?_
  intro W base args ds gs before hval0 hW hcnd hsz _
  have hval : ∀ (j : Nat) t v, Try.f12.params[j]? = some t → args[j]? = some v → Value.okWide Try.prog W .any base t v := hval0
  have hsz' : (DataW.weightsEach Try.prog (Try.f12.params.toList ++ Rows.ringsDoSpec.plain.varTypes Try.prog) (ds ++ gs)).all (· ≤ reachBytes) = true := hsz
  have hW' := hW
  obtain ⟨p, q, hA0, hV, rfl, hfz, hnd⟩ := hW
  have hA : DataW.TrodAll enc Try.prog W 0 (fun _ => true) true Try.f12.params.toList args.toList ds p := hA0
  have hA1 := hA
  rw [Try.params12] at hA hval hsz'
  obtain ⟨v0, vs0, d0, ds0, p0, q0, hargs, rfl, rfl, h0, r0⟩ := trodAll_cons hA
  obtain ⟨v1, vs1, d1, ds1, p1, q1, rfl, rfl, rfl, h1, r1⟩ := trodAll_cons r0
  obtain ⟨v2, vs2, d2, ds2, p2, q2, rfl, rfl, rfl, h2, r2⟩ := trodAll_cons r1
  obtain ⟨v3, vs3, d3, ds3, p3, q3, rfl, rfl, rfl, h3, r3⟩ := trodAll_cons r2
  obtain ⟨rfl, rfl, rfl⟩ := trodAll_nil r3
  obtain rfl : args = #[v0, v1, v2, v3] := by cases args; simp_all
  obtain ⟨rfl, rfl⟩ := trodVars_none hV
  have main : Calls Try.prog 12 #[v0, v1, v2, v3] W fun e w' => e = .returned (.bool true) ∧ Kept W w' := by
    obtain ⟨a0, rfl, _, _, w0⟩ := open_int (P := Try.prog) (t := 3) (k := .i64) (by kernel_rfl) (hval 0 3 v0 rfl rfl) h0
    obtain ⟨a1, rfl, _, _, w1⟩ := open_int (P := Try.prog) (t := 3) (k := .i64) (by kernel_rfl) (hval 1 3 v1 rfl rfl) h1
    obtain ⟨a2, rfl, _, _, w2⟩ := open_int (P := Try.prog) (t := 3) (k := .i64) (by kernel_rfl) (hval 2 3 v2 rfl rfl) h2
    obtain ⟨G3, ρ3, u3, n3, i3, le3, vr3, rp3⟩ := arg_in (t := 56) (e := 58) closed_in (by decide) (by kernel_rfl) (hval 3 56 v3 rfl rfl) h3 (fit_of (j := 3) hsz' rfl rfl) (In.nil _ _)
    obtain ⟨b, xs, ho⟩ := ROps.of_rp rp3
    obtain ⟨H', hl⟩ := ringsDo_true a0 a1 a2 ho
    exact call_in known8_ok mix8 i3 hl (Vrs.cons (.same rfl) (Vrs.cons (.same rfl) (Vrs.cons (.same rfl) (Vrs.cons vr3 (Vrs.nil _)))))
  refine main.mono fun e W' ⟨he, hg⟩ => ?_
  subst he
  exact ⟨_, rfl, post_of_kept (pa := (p0 ++ (p1 ++ (p2 ++ (p3 ++ []))))) (pv := []) hW' (fun _ _ _ => (trodAll_cons_mk (shut_bool Try.underlying4 _) trodAll_mk0)) (fun sp hsp => trodAll_kept hg closed_ok _ _ _ _ (by rw [Try.params12]; decide) hA1 (fun q hq => hsp q (by simpa using hq))) (fun _ _ => rfl) rfl
    hg (ok_one (by kernel_rfl) rfl (okWide_bool_mk Try.underlying4 _))⟩

theorem over : Rows.ringsDoRow.holds Try.pinned (OpenSpec.ofChange Rows.ringsDoSpec) :=
  OpenClaim.holds_of_wide 12 Try.f12 rfl rfl rfl rfl rfl rfl rfl ⟨rfl, rfl, rfl, rfl, rfl⟩ rfl rfl rfl rfl rfl (by kernel_rfl) Try.func12 (by kernel_rfl)
    (of_decide_eq_true (by kernel_rfl)) (by unfold Func.isWrapper; first | (rw [if_pos (by decide +kernel)]; kernel_rfl) | (rw [if_neg (by decide +kernel)]; exact ⟨rfl, rfl⟩))
    (fun os started H enc _ => lifted os started H enc)

/-- the statement -/
theorem proved : Rows.RingsDoSaid :=
  over
#print axioms proved
end Go.Proofs.Ytcmmlgdbpnogjaa.ringsDo
