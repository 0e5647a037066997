/-
  FabricOwn answers true at every input that it may be called with, and never panics: plans that are handed in, and told, are not what the fabric has. Conditions: those of the given statement alone; the program's listed table is laid as its text says (the card's tie).
-/
import Derived.SevenTiedAt
import Derived.Test.YtkeilicinggjmaaGreatDoorAbsTabL
import Derived.Test.YtkeilicinggjmaaGreatDoorAbsMainT
import Derived.Test.YtkeilicinggjmaaGreatDoorCards
import Derived.Test.YtkeilicinggjmaaGreatDoorAbsM10
namespace Go.Proofs.YtkeilicinggjmaaGreatDoor.fabricOwn
open Go.Abs Go.ChangeShapes Go.WideShapes Go.ChangeAt Go.RowKit
set_option linter.unusedVariables false

def closed : List TypeId := [22, 5, 4, 23]
theorem closed_ok : closed.all (okT Tryz.prog closed) = true := by kernel_rfl
theorem closed_in : closed.all (okA Tryz.prog closed) = true := by kernel_rfl

/-! ### The call answers true, and of the world that was nothing turns. -/
set_option maxRecDepth 100000 in
theorem lifted (os : Os) (started : os.Started) (H : Type) (enc : TypeId × Value → H) :
    ReturnsInHanded {} Tryz.checked os 6 .any (fun w args => (Rows.fabricOwnSpec.pre enc Tryz.prog Tryz.f6 [] false w args ∧ laidMetH Tryz.prog tU w) ∧ sizedMet enc Tryz.prog Tryz.f6 (OpenSpec.ofChange Rows.fabricOwnSpec) false w args) (Rows.fabricOwnSpec.post enc Tryz.prog Tryz.f6 false true false false) := by
  refine returnsInHanded_of_change_and (C := Tryz.checked) (X := fun w _ => laidMetH Tryz.prog tU w) (fun _ _ _ hh h => h.of_heap hh) Lo started (by kernel_rfl) Tryz.func6
    (ChangeSpec.witness_shaped (enc := enc) (C := Tryz.checked) (os := os) (X := fun w _ => laidMetH Tryz.prog tU w) false (World.doorLaid Tryz.prog 400 os) #[.slice none 0 0, .int .u8 0, .int .u8 0, .int .u16 0] 8 rfl (World.shaped_of_RefB (by kernel_rfl) (by kernel_rfl)) (by kernel_rfl) (by kernel_rfl) (by kernel_rfl) (Lm os _)) ?_
  intro W base args ds gs before hval0 hW hcnd hsz hL _
  have hTW := Lx hL
  have hval : ∀ (j : Nat) t v, Tryz.f6.params[j]? = some t → args[j]? = some v → Value.okWide Tryz.prog W .any base t v := hval0
  have hsz' : (DataW.weightsEach Tryz.prog (Tryz.f6.params.toList ++ Rows.fabricOwnSpec.plain.varTypes Tryz.prog) (ds ++ gs)).all (· ≤ reachBytes) = true := hsz
  have hW' := hW
  obtain ⟨p, q, hA0, hV, rfl, hfz, hnd⟩ := hW
  have hA : DataW.TrodAll enc Tryz.prog W 0 (fun _ => true) true Tryz.f6.params.toList args.toList ds p := hA0
  have hA1 := hA
  rw [Tryz.params6] at hA hval hsz'
  obtain ⟨v0, vs0, d0, ds0, p0, q0, hargs, rfl, rfl, h0, r0⟩ := trodAll_cons hA
  obtain ⟨v1, vs1, d1, ds1, p1, q1, rfl, rfl, rfl, h1, r1⟩ := trodAll_cons r0
  obtain ⟨v2, vs2, d2, ds2, p2, q2, rfl, rfl, rfl, h2, r2⟩ := trodAll_cons r1
  obtain ⟨v3, vs3, d3, ds3, p3, q3, rfl, rfl, rfl, h3, r3⟩ := trodAll_cons r2
  obtain ⟨rfl, rfl, rfl⟩ := trodAll_nil r3
  obtain rfl : args = #[v0, v1, v2, v3] := by cases args; simp_all
  obtain ⟨rfl, rfl⟩ := trodVars_none hV
  have main : Calls Tryz.prog 6 #[v0, v1, v2, v3] W fun e w' => e = .returned (.bool true) ∧ Kept W w' := by
    obtain ⟨G0, ρ0, u0, n0, i0, le0, vr0, rp0⟩ := Ll (t := 22) (e := 5) closed_in (by decide) (by kernel_rfl) (hval 0 22 v0 rfl rfl) h0 (Fw (j := 0) hsz' rfl rfl) (In.Lh _ _ hTW)
    obtain ⟨a1, rfl, _, _, w1⟩ := open_int (P := Tryz.prog) (t := 5) (k := .u8) (by kernel_rfl) (hval 1 5 v1 rfl rfl) h1
    obtain ⟨a2, rfl, _, _, w2⟩ := open_int (P := Tryz.prog) (t := 5) (k := .u8) (by kernel_rfl) (hval 2 5 v2 rfl rfl) h2
    obtain ⟨a3, rfl, _, _, w3⟩ := open_int (P := Tryz.prog) (t := 23) (k := .u16) (by kernel_rfl) (hval 3 23 v3 rfl rfl) h3
    obtain ⟨n1, rfl, b1⟩ := wB w1
    obtain ⟨n2, rfl, b2⟩ := wB w2
    obtain ⟨n3, rfl, b3⟩ := aAs w3
    obtain ⟨c, z1, z2, z3⟩ := Us.Pi rp0
    obtain ⟨H', hl, _⟩ := aRN z1 z2 z3 n1 n2 n3 b1 b2 b3
    exact Li Nl Gv i0 hl (Vrs.kZ vr0 (Vrs.kZ (.same rfl) (Vrs.kZ (.same rfl) (Vrs.kZ (.same rfl) (Vrs.nD _)))))
  refine main.mono fun e W' ⟨he, hg⟩ => ?_
  subst he
  exact ⟨_, rfl, Lb (pa := (p0 ++ (p1 ++ (p2 ++ (p3 ++ []))))) (pv := []) hW' (fun _ _ _ => (trodAll_cons_mk (shut_bool Tryz.underlying4 _) trodAll_mk0)) (fun sp hsp => Fm hg closed_ok _ _ _ _ (by rw [Tryz.params6]; decide) hA1 (fun q hq => hsp q (by simpa using hq))) (fun _ _ => rfl) rfl
    hg (ok_one (by kernel_rfl) rfl (okWide_bool_mk Tryz.underlying4 _))⟩

theorem jW : Rows.fabricOwnRow.wf (OpenSpec.ofChange Rows.fabricOwnSpec) = true := by kernel_rfl
theorem jP : (Rows.fabricOwnRow.inPlace == Tryz.prog.inPlace 6) = true := by kernel_rfl
theorem jU : (Rows.fabricOwnRow.unfollowed == Tryz.prog.unfollowed 6) = true := by kernel_rfl
theorem jR : (Rows.fabricOwnRow.recurses == Tryz.prog.recurses 6) = true := by kernel_rfl
theorem jN : (Rows.fabricOwnRow.named == Tryz.prog.varsNamed 6) = true := by kernel_rfl
theorem jG : false = Rows.fabricOwnRow.goesBy Tryz.prog := by kernel_rfl
theorem jT : Rows.fabricOwnRow.wfByText (OpenSpec.ofChange Rows.fabricOwnSpec) = true := by kernel_rfl
theorem jF : Tryz.prog.funcNamed "shunter/shunterlaw17.FabricOwn" = some 6 := by kernel_rfl
theorem jS : ([22, 5, 5, 23].all fun u => !Tryz.prog.wantsStandIn u) = true := by kernel_rfl
theorem joined : joinedFacts Tryz.prog 6 Tryz.f6 Rows.fabricOwnSpec Rows.fabricOwnRow = true := by
  unfold joinedFacts
  exact (Bool.and_eq_true_iff.mpr ⟨(Bool.and_eq_true_iff.mpr ⟨(Bool.and_eq_true_iff.mpr ⟨(Bool.and_eq_true_iff.mpr ⟨(Bool.and_eq_true_iff.mpr ⟨(Bool.and_eq_true_iff.mpr ⟨(Bool.and_eq_true_iff.mpr ⟨(Bool.and_eq_true_iff.mpr ⟨(Bool.and_eq_true_iff.mpr ⟨(Bool.and_eq_true_iff.mpr ⟨(Bool.and_eq_true_iff.mpr ⟨(Bool.and_eq_true_iff.mpr ⟨(Bool.and_eq_true_iff.mpr ⟨(Bool.and_eq_true_iff.mpr ⟨(Bool.and_eq_true_iff.mpr ⟨(Bool.and_eq_true_iff.mpr ⟨(Bool.and_eq_true_iff.mpr ⟨(Bool.and_eq_true_iff.mpr ⟨(Bool.and_eq_true_iff.mpr ⟨(Bool.and_eq_true_iff.mpr ⟨(Bool.and_eq_true_iff.mpr ⟨(Bool.and_eq_true_iff.mpr ⟨(Bool.and_eq_true_iff.mpr ⟨(Bool.and_eq_true_iff.mpr ⟨(Bool.and_eq_true_iff.mpr ⟨(Bool.and_eq_true_iff.mpr ⟨(Bool.and_eq_true_iff.mpr ⟨(Bool.and_eq_true_iff.mpr ⟨(Bool.and_eq_true_iff.mpr ⟨(Bool.and_eq_true_iff.mpr ⟨(Bool.and_eq_true_iff.mpr ⟨jW, Ls⟩), Lv⟩), (by kernel_rfl)⟩), (by kernel_rfl)⟩), (by kernel_rfl)⟩), Lw⟩), (by kernel_rfl)⟩), Lr⟩), jP⟩), jU⟩), jR⟩), jN⟩), (by kernel_rfl)⟩), (by kernel_rfl)⟩), (by kernel_rfl)⟩), (by kernel_rfl)⟩), (by kernel_rfl)⟩), (by kernel_rfl)⟩), (by kernel_rfl)⟩), (by kernel_rfl)⟩), (by kernel_rfl)⟩), Lu⟩), (by kernel_rfl)⟩), Lq⟩), Lp⟩), (by kernel_rfl)⟩), (by kernel_rfl)⟩), (by kernel_rfl)⟩), (by kernel_rfl)⟩), (by kernel_rfl)⟩), (by kernel_rfl)⟩)
theorem over : Rows.fabricOwnRow.holds Tryz.pinned (OpenSpec.ofChange Rows.fabricOwnSpec) :=
  OpenClaim.holds_of_wide 6 Tryz.f6 rfl rfl rfl rfl rfl rfl rfl ⟨rfl, rfl, rfl, rfl, rfl⟩ rfl rfl rfl rfl rfl (by kernel_rfl) Tryz.func6 joined
    (of_decide_eq_true (by kernel_rfl)) (by unfold Func.isWrapper; first | (rw [if_pos (by decide +kernel)]; kernel_rfl) | (rw [if_neg (by decide +kernel)]; exact ⟨rfl, rfl⟩))
    (fun os started H enc _ => lifted os started H enc)

/-- the statement: the row, tied to the program's text -/
theorem proved : Rows.FabricOwnCardSaid :=
  Claim7.holds_tied_plain_at .later [] [.data] true (true, "255e3e5681ae386412456c20253e29dfeb1992f5f284414a713a9b6bb7a43280") false
    over (fun _ h => by cases h) jT (fun _ h => by cases h) fabricOwn_row_tie rfl ⟨rfl, rfl⟩ Ly rfl
    (fun f fn hf hfn => by
      obtain rfl : f = 6 := Option.some.inj (jF.symm.trans hf) |>.symm
      obtain rfl : fn = Tryz.f6 := (Option.some.inj (Tryz.func6.symm.trans hfn)).symm
      exact ⟨Lt, fun j t ht => by
        rw [Tryz.params6] at ht
        have hm : t ∈ [22, 5, 5, 23] := by simpa using Array.mem_of_getElem? ht
        exact (show Tryz.prog.wantsStandIn t = false by simpa using List.all_eq_true.1 jS t hm)⟩)
    jG
#print axioms proved
end Go.Proofs.YtkeilicinggjmaaGreatDoor.fabricOwn
