/-
  PoolLast: the Go function shunterlaw07.PoolLast answers true at every input and never panics, from any world in which it is called, with nothing of that world turned.
-/
import Derived.Test.YtebcibedkcjbcaaRows
import Derived.WalkKit
import Derived.ProofKit
import Derived.OpenShut
import Derived.Test.YtebcibedkcjbcaaAbsPoolLast
import Derived.Test.YtebcibedkcjbcaaAbsPkt
namespace Go.Proofs.Ytebcibedkcjbcaa.poolLast
open Go.Abs Go.ChangeShapes Go.WideShapes Go.ChangeAt Go.RowKit
set_option linter.unusedVariables false

theorem own : ownKnob Try.prog.godebug = none := by kernel_rfl

/-! ### The call answers true, and of the world that was nothing turns. -/
set_option maxRecDepth 100000 in
theorem lifted (os : Os) (started : os.Started) (H : Type) (enc : TypeId × Value → H) :
    ReturnsInHanded {} Try.checked os 8 .any (Rows.poolLastSpec.pre6 enc Try.prog Try.f8 Rows.poolLastRow.domain false) (Rows.poolLastSpec.post enc Try.prog Try.f8 false true false false) := by
  refine returnsInHanded_of_change (C := Try.checked) own started (by kernel_rfl) Try.func8
    (ChangeSpec.witness6 (enc := enc) (C := Try.checked) false ⟨#[], #[.slice none 0 0], []⟩ 8 (by kernel_rfl) (by kernel_rfl) (by kernel_rfl) (by kernel_rfl)) ?_
  intro W base args ds gs before hval0 hW hcnd _
  have hval : ∀ (j : Nat) t v, Try.f8.params[j]? = some t → args[j]? = some v → Value.okWide Try.prog W .any base t v := hval0
  have hW' := hW
  obtain ⟨p, q, hA0, hV, rfl, hfz, hnd⟩ := hW
  have hA : DataW.TrodAll enc Try.prog W 0 (fun _ => true) true Try.f8.params.toList args.toList ds p := hA0
  have hA1 := hA
  rw [Try.params8] at hA hval
  obtain ⟨v0, vs0, d0, ds0, p0, q0, hargs, rfl, rfl, h0, r0⟩ := trodAll_cons hA
  obtain ⟨rfl, rfl, rfl⟩ := trodAll_nil r0
  obtain rfl : args = #[v0] := by cases args; simp_all
  obtain ⟨rfl, rfl⟩ := trodVars_none hV
  have main : Calls Try.prog 8 #[v0] W fun e w' => e = .returned (.bool true) ∧ Kept W w' := by
    obtain ⟨H0, ρ0, u0, xs0, i0, le0, ex0, vr0, sl0, ok0⟩ := arg_rows (el := (fun (y : Nat) => [Value.int .u8 y])) (ok := (fun (y : Nat) => y < 256)) (sz := 1) (t := 45) (e := 5) (by kernel_rfl) (by kernel_rfl) (hval 0 45 v0 rfl rfl) h0 (fun fuel cs x h => (by obtain ⟨y, rfl, hy⟩ := u8_read h; exact ⟨⟨y, rfl, hy⟩, u8_lit y⟩)) (In.nil _ _)
    obtain ⟨H', hl⟩ := (poolLast_true u0 xs0 ok0 H0 _ sl0 : ∃ H', lvl Try.prog pk 600 (.func 8) [u0] H0 = some (.bool true, H'))
    exact call_in known_ok mix i0 hl (Vrs.cons vr0 (Vrs.nil _))
  refine main.mono fun e W' ⟨he, hg⟩ => ?_
  subst he
  exact ⟨_, rfl, post_of_kept (pa := (p0 ++ [])) (pv := []) hW' (fun _ _ _ => (trodAll_cons_mk (shut_bool Try.underlying4 _) trodAll_mk0)) (fun sp hsp => trodAll_kept hg closed_ok _ _ _ _ (by rw [Try.params8]; decide) hA1 (fun q hq => hsp q (by simpa using hq))) (fun _ _ => rfl) rfl
    hg (ok_one (by kernel_rfl) rfl (okWide_bool_mk Try.underlying4 _))⟩

theorem over : Rows.poolLastRow.holds Try.pinned (OpenSpec.ofChange Rows.poolLastSpec) :=
  OpenClaim.holds_of_wide 8 Try.f8 rfl rfl rfl rfl rfl rfl rfl ⟨rfl, rfl, rfl, rfl, rfl⟩ rfl rfl rfl rfl rfl (by kernel_rfl) Try.func8 (by kernel_rfl)
    (of_decide_eq_true (by kernel_rfl)) (by unfold Func.isWrapper; first | (rw [if_pos (by decide +kernel)]; kernel_rfl) | (rw [if_neg (by decide +kernel)]; exact ⟨rfl, rfl⟩))
    (fun os started H enc _ => lifted os started H enc)

/-- the statement -/
theorem proved : Rows.PoolLastSaid :=
  over
#print axioms proved
end Go.Proofs.Ytebcibedkcjbcaa.poolLast
