/-
  NodePlans answers true at every input that it may be called with, and never panics: New of any plan, and any node, is there just when the document's New is. Conditions: those of the given statement alone; the program's listed table is laid as its text says (the card's tie).
-/
import Derived.SevenTiedAt
import Derived.Test.YtkeilicinggjmaaGreatDoorAbsTabL
import Derived.Test.YtkeilicinggjmaaGreatDoorAbsMainT
import Derived.Test.YtkeilicinggjmaaGreatDoorCards
import Derived.Test.YtkeilicinggjmaaGreatDoorAbsM7
namespace Go.Proofs.YtkeilicinggjmaaGreatDoor.nodePlans
open Go.Abs Go.ChangeShapes Go.WideShapes Go.ChangeAt Go.RowKit
set_option linter.unusedVariables false

def closed : List TypeId := [28, 3, 24, 34, 25, 23, 26, 4, 5, 22]
theorem closed_ok : closed.all (okT Tryz.prog closed) = true := by kernel_rfl
theorem closed_in : closed.all (okA Tryz.prog closed) = true := by kernel_rfl

/-! ### The call answers true, and of the world that was nothing turns. -/
set_option maxRecDepth 100000 in
theorem lifted (os : Os) (started : os.Started) (H : Type) (enc : TypeId × Value → H) :
    ReturnsInHanded {} Tryz.checked os 4 .any (fun w args => (Rows.nodePlansSpec.pre enc Tryz.prog Tryz.f4 [] false w args ∧ laidMetH Tryz.prog Aa w) ∧ sizedMet enc Tryz.prog Tryz.f4 (OpenSpec.ofChange Rows.nodePlansSpec) false w args) (Rows.nodePlansSpec.post enc Tryz.prog Tryz.f4 false true false false) := by
  refine returnsInHanded_of_change_and (C := Tryz.checked) (X := fun w _ => laidMetH Tryz.prog Aa w) (fun _ _ _ hh h => h.of_heap hh) aDY started (by kernel_rfl) Tryz.func4
    (ChangeSpec.witness_shaped (enc := enc) (C := Tryz.checked) (os := os) (X := fun w _ => laidMetH Tryz.prog Aa w) false (World.doorLaid Tryz.prog 400 os) #[.agg #[.int .i64 0, .slice none 0 0, .int .i64 0, .int .i64 0, .int .i64 0, .int .i64 0, .int .i64 0, .int .i64 0, .slice none 0 0, .int .u16 0, .slice none 0 0], .int .u8 0, .int .u8 0, .int .u8 0, .int .u16 0, .slice none 0 0, .int .i64 0] 8 rfl (World.shaped_of_RefB (by kernel_rfl) (by kernel_rfl)) (by kernel_rfl) (by kernel_rfl) (by kernel_rfl) (aDX os _)) ?_
  intro W base args ds gs before hval0 hW hcnd hsz hL _
  have hTW := aD8 hL
  have hval : ∀ (j : Nat) t v, Tryz.f4.params[j]? = some t → args[j]? = some v → Value.okWide Tryz.prog W .any base t v := hval0
  have hsz' : (DataW.weightsEach Tryz.prog (Tryz.f4.params.toList ++ Rows.nodePlansSpec.plain.varTypes Tryz.prog) (ds ++ gs)).all (· ≤ reachBytes) = true := hsz
  have hW' := hW
  obtain ⟨p, q, hA0, hV, rfl, hfz, hnd⟩ := hW
  have hA : DataW.TrodAll enc Tryz.prog W 0 (fun _ => true) true Tryz.f4.params.toList args.toList ds p := hA0
  have hA1 := hA
  rw [Tryz.params4] at hA hval hsz'
  obtain ⟨v0, vs0, d0, ds0, p0, q0, hargs, rfl, rfl, h0, r0⟩ := trodAll_cons hA
  obtain ⟨v1, vs1, d1, ds1, p1, q1, rfl, rfl, rfl, h1, r1⟩ := trodAll_cons r0
  obtain ⟨v2, vs2, d2, ds2, p2, q2, rfl, rfl, rfl, h2, r2⟩ := trodAll_cons r1
  obtain ⟨v3, vs3, d3, ds3, p3, q3, rfl, rfl, rfl, h3, r3⟩ := trodAll_cons r2
  obtain ⟨v4, vs4, d4, ds4, p4, q4, rfl, rfl, rfl, h4, r4⟩ := trodAll_cons r3
  obtain ⟨v5, vs5, d5, ds5, p5, q5, rfl, rfl, rfl, h5, r5⟩ := trodAll_cons r4
  obtain ⟨v6, vs6, d6, ds6, p6, q6, rfl, rfl, rfl, h6, r6⟩ := trodAll_cons r5
  obtain ⟨rfl, rfl, rfl⟩ := trodAll_nil r6
  obtain rfl : args = #[v0, v1, v2, v3, v4, v5, v6] := by cases args; simp_all
  obtain ⟨rfl, rfl⟩ := trodVars_none hV
  have main : Calls Tryz.prog 4 #[v0, v1, v2, v3, v4, v5, v6] W fun e w' => e = .returned (.bool true) ∧ Kept W w' := by
    obtain ⟨G0, ρ0, u0, n0, i0, le0, vr0, rp0⟩ := aDU (t := 28) closed_in (by decide) Tryz.underlying28 (hval 0 28 v0 rfl rfl) h0 (S2 (j := 0) hsz' rfl rfl) (In.aDK _ _ hTW)
    obtain ⟨a1, rfl, _, _, w1⟩ := open_int (P := Tryz.prog) (t := 5) (k := .u8) (by kernel_rfl) (hval 1 5 v1 rfl rfl) h1
    obtain ⟨a2, rfl, _, _, w2⟩ := open_int (P := Tryz.prog) (t := 5) (k := .u8) (by kernel_rfl) (hval 2 5 v2 rfl rfl) h2
    obtain ⟨a3, rfl, _, _, w3⟩ := open_int (P := Tryz.prog) (t := 5) (k := .u8) (by kernel_rfl) (hval 3 5 v3 rfl rfl) h3
    obtain ⟨a4, rfl, _, _, w4⟩ := open_int (P := Tryz.prog) (t := 23) (k := .u16) (by kernel_rfl) (hval 4 23 v4 rfl rfl) h4
    obtain ⟨G5, ρ5, u5, n5, i5, le5, vr5, rp5⟩ := aDT (t := 22) (e := 5) closed_in (by decide) (by kernel_rfl) (hval 5 22 v5 rfl rfl) h5 (S2 (j := 5) hsz' rfl rfl) i0
    replace rp0 := Rp.zZ (KeepRO.app _ G5) _ _ _ rp0
    obtain ⟨a6, rfl, _, _, w6⟩ := open_int (P := Tryz.prog) (t := 3) (k := .i64) (by kernel_rfl) (hval 6 3 v6 rfl rfl) h6
    obtain ⟨p, ev, wv, nv, hpl, hpv, hst⟩ := aJH rp0
    rw [hpl] at vr0
    obtain ⟨n1, rfl, b1⟩ := Fe w1
    obtain ⟨n2, rfl, b2⟩ := Fe w2
    obtain ⟨n3, rfl, b3⟩ := Fe w3
    obtain ⟨n4, rfl, b4⟩ := aJD w4
    obtain ⟨next, z1, z2, z3⟩ := Us.aJC rp5
    obtain ⟨H', hl, _⟩ := aPH hpv hst n1 n2 n3 n4 b1 b2 b3 b4 z1 z2 z3 a6
    exact aDL aGX Vj i5 hl (Vrs.mK (vr0.rT le5) (Vrs.mK (.same rfl) (Vrs.mK (.same rfl) (Vrs.mK (.same rfl) (Vrs.mK (.same rfl) (Vrs.mK vr5 (Vrs.mK (.same rfl) (Vrs.mT _))))))))
  refine main.mono fun e W' ⟨he, hg⟩ => ?_
  subst he
  exact ⟨_, rfl, aDy (pa := (p0 ++ (p1 ++ (p2 ++ (p3 ++ (p4 ++ (p5 ++ (p6 ++ [])))))))) (pv := []) hW' (fun _ _ _ => (trodAll_cons_mk (shut_bool Tryz.underlying4 _) trodAll_mk0)) (fun sp hsp => Sh hg closed_ok _ _ _ _ (by rw [Tryz.params4]; decide) hA1 (fun q hq => hsp q (by simpa using hq))) (fun _ _ => rfl) rfl
    hg (ok_one (by kernel_rfl) rfl (okWide_bool_mk Tryz.underlying4 _))⟩

theorem jW : Rows.nodePlansRow.wf (OpenSpec.ofChange Rows.nodePlansSpec) = true := by kernel_rfl
theorem jP : (Rows.nodePlansRow.inPlace == Tryz.prog.inPlace 4) = true := by kernel_rfl
theorem jU : (Rows.nodePlansRow.unfollowed == Tryz.prog.unfollowed 4) = true := by kernel_rfl
theorem jR : (Rows.nodePlansRow.recurses == Tryz.prog.recurses 4) = true := by kernel_rfl
theorem jN : (Rows.nodePlansRow.named == Tryz.prog.varsNamed 4) = true := by kernel_rfl
theorem jG : false = Rows.nodePlansRow.goesBy Tryz.prog := by kernel_rfl
theorem jT : Rows.nodePlansRow.wfByText (OpenSpec.ofChange Rows.nodePlansSpec) = true := by kernel_rfl
theorem jF : Tryz.prog.funcNamed "shunter/shunterlaw16.NodePlans" = some 4 := by kernel_rfl
theorem jS : ([28, 5, 5, 5, 23, 22, 3].all fun u => !Tryz.prog.wantsStandIn u) = true := by kernel_rfl
theorem joined : joinedFacts Tryz.prog 4 Tryz.f4 Rows.nodePlansSpec Rows.nodePlansRow = true := by
  unfold joinedFacts
  exact (Bool.and_eq_true_iff.mpr ⟨(Bool.and_eq_true_iff.mpr ⟨(Bool.and_eq_true_iff.mpr ⟨(Bool.and_eq_true_iff.mpr ⟨(Bool.and_eq_true_iff.mpr ⟨(Bool.and_eq_true_iff.mpr ⟨(Bool.and_eq_true_iff.mpr ⟨(Bool.and_eq_true_iff.mpr ⟨(Bool.and_eq_true_iff.mpr ⟨(Bool.and_eq_true_iff.mpr ⟨(Bool.and_eq_true_iff.mpr ⟨(Bool.and_eq_true_iff.mpr ⟨(Bool.and_eq_true_iff.mpr ⟨(Bool.and_eq_true_iff.mpr ⟨(Bool.and_eq_true_iff.mpr ⟨(Bool.and_eq_true_iff.mpr ⟨(Bool.and_eq_true_iff.mpr ⟨(Bool.and_eq_true_iff.mpr ⟨(Bool.and_eq_true_iff.mpr ⟨(Bool.and_eq_true_iff.mpr ⟨(Bool.and_eq_true_iff.mpr ⟨(Bool.and_eq_true_iff.mpr ⟨(Bool.and_eq_true_iff.mpr ⟨(Bool.and_eq_true_iff.mpr ⟨(Bool.and_eq_true_iff.mpr ⟨(Bool.and_eq_true_iff.mpr ⟨(Bool.and_eq_true_iff.mpr ⟨(Bool.and_eq_true_iff.mpr ⟨(Bool.and_eq_true_iff.mpr ⟨(Bool.and_eq_true_iff.mpr ⟨(Bool.and_eq_true_iff.mpr ⟨jW, aD2⟩), aD5⟩), (by kernel_rfl)⟩), (by kernel_rfl)⟩), (by kernel_rfl)⟩), aD6⟩), (by kernel_rfl)⟩), aD1⟩), jP⟩), jU⟩), jR⟩), jN⟩), (by kernel_rfl)⟩), (by kernel_rfl)⟩), (by kernel_rfl)⟩), (by kernel_rfl)⟩), (by kernel_rfl)⟩), (by kernel_rfl)⟩), (by kernel_rfl)⟩), (by kernel_rfl)⟩), (by kernel_rfl)⟩), aD4⟩), (by kernel_rfl)⟩), aD0⟩), aDZ⟩), (by kernel_rfl)⟩), (by kernel_rfl)⟩), (by kernel_rfl)⟩), (by kernel_rfl)⟩), (by kernel_rfl)⟩), (by kernel_rfl)⟩)
theorem over : Rows.nodePlansRow.holds Tryz.pinned (OpenSpec.ofChange Rows.nodePlansSpec) :=
  OpenClaim.holds_of_wide 4 Tryz.f4 rfl rfl rfl rfl rfl rfl rfl ⟨rfl, rfl, rfl, rfl, rfl⟩ rfl rfl rfl rfl rfl (by kernel_rfl) Tryz.func4 joined
    (of_decide_eq_true (by kernel_rfl)) (by unfold Func.isWrapper; first | (rw [if_pos (by decide +kernel)]; kernel_rfl) | (rw [if_neg (by decide +kernel)]; exact ⟨rfl, rfl⟩))
    (fun os started H enc _ => lifted os started H enc)

/-- the statement: the row, tied to the program's text -/
theorem proved : Rows.NodePlansCardSaid :=
  Claim7.holds_tied_plain_at .later [] [.data] true (true, "255e3e5681ae386412456c20253e29dfeb1992f5f284414a713a9b6bb7a43280") false
    over (fun _ h => by cases h) jT (fun _ h => by cases h) nodePlans_row_tie rfl ⟨rfl, rfl⟩ aD9 rfl
    (fun f fn hf hfn => by
      obtain rfl : f = 4 := Option.some.inj (jF.symm.trans hf) |>.symm
      obtain rfl : fn = Tryz.f4 := (Option.some.inj (Tryz.func4.symm.trans hfn)).symm
      exact ⟨aD3, fun j t ht => by
        rw [Tryz.params4] at ht
        have hm : t ∈ [28, 5, 5, 5, 23, 22, 3] := by simpa using Array.mem_of_getElem? ht
        exact (show Tryz.prog.wantsStandIn t = false by simpa using List.all_eq_true.1 jS t hm)⟩)
    jG
#print axioms proved
end Go.Proofs.YtkeilicinggjmaaGreatDoor.nodePlans
