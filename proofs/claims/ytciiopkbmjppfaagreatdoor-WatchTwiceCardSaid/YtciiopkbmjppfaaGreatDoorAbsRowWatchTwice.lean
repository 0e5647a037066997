/-
  WatchTwice answers true for every room, more, start and times, in any world that the card lets in: a frame that is doubled flies once. Conditions: those of the card alone.
-/
import Derived.SevenTiedAt
import Derived.Test.YtciiopkbmjppfaaGreatDoorAbsTabL
import Derived.Test.YtciiopkbmjppfaaGreatDoorAbsMainT
import Derived.Test.YtciiopkbmjppfaaGreatDoorCards
import Derived.Test.YtciiopkbmjppfaaGreatDoorAbsM8
namespace Go.Proofs.YtciiopkbmjppfaaGreatDoor.watchTwice
open Go.Abs Go.ChangeShapes Go.WideShapes Go.ChangeAt Go.RowKit
set_option linter.unusedVariables false

def closed : List TypeId := [5, 4, 23]
theorem closed_ok : closed.all (okT Tryz.prog closed) = true := by kernel_rfl
theorem closed_in : closed.all (okA Tryz.prog closed) = true := by kernel_rfl

/-! ### The call answers true, and of the world that was nothing turns. -/
set_option maxRecDepth 100000 in
theorem lifted (os : Os) (started : os.Started) (H : Type) (enc : TypeId × Value → H) :
    ReturnsInHanded {} Tryz.checked os 8 .any (fun w args => (Rows.watchTwiceSpec.pre enc Tryz.prog Tryz.f8 [] false w args ∧ laidMetH Tryz.prog uJ w) ∧ sizedMet enc Tryz.prog Tryz.f8 (OpenSpec.ofChange Rows.watchTwiceSpec) false w args) (Rows.watchTwiceSpec.post enc Tryz.prog Tryz.f8 false true false false) := by
  refine returnsInHanded_of_change_and (C := Tryz.checked) (X := fun w _ => laidMetH Tryz.prog uJ w) (fun _ _ _ hh h => h.of_heap hh) Vq started (by kernel_rfl) Tryz.func8
    (ChangeSpec.witness_shaped (enc := enc) (C := Tryz.checked) (os := os) (X := fun w _ => laidMetH Tryz.prog uJ w) false (World.doorLaid Tryz.prog 400 os) #[.int .u8 0, .int .u8 0, .int .u16 0, .int .u8 0] 8 rfl (World.shaped_of_RefB (by kernel_rfl) (by kernel_rfl)) (by kernel_rfl) (by kernel_rfl) (by kernel_rfl) (Vp os _)) ?_
  intro W base args ds gs before hval0 hW hcnd hsz hL _
  have hTW := V0 hL
  have hval : ∀ (j : Nat) t v, Tryz.f8.params[j]? = some t → args[j]? = some v → Value.okWide Tryz.prog W .any base t v := hval0
  have hsz' : (DataW.weightsEach Tryz.prog (Tryz.f8.params.toList ++ Rows.watchTwiceSpec.plain.varTypes Tryz.prog) (ds ++ gs)).all (· ≤ reachBytes) = true := hsz
  have hW' := hW
  obtain ⟨p, q, hA0, hV, rfl, hfz, hnd⟩ := hW
  have hA : DataW.TrodAll enc Tryz.prog W 0 (fun _ => true) true Tryz.f8.params.toList args.toList ds p := hA0
  have hA1 := hA
  rw [Tryz.params8] at hA hval hsz'
  obtain ⟨v0, vs0, d0, ds0, p0, q0, hargs, rfl, rfl, h0, r0⟩ := trodAll_cons hA
  obtain ⟨v1, vs1, d1, ds1, p1, q1, rfl, rfl, rfl, h1, r1⟩ := trodAll_cons r0
  obtain ⟨v2, vs2, d2, ds2, p2, q2, rfl, rfl, rfl, h2, r2⟩ := trodAll_cons r1
  obtain ⟨v3, vs3, d3, ds3, p3, q3, rfl, rfl, rfl, h3, r3⟩ := trodAll_cons r2
  obtain ⟨rfl, rfl, rfl⟩ := trodAll_nil r3
  obtain rfl : args = #[v0, v1, v2, v3] := by cases args; simp_all
  obtain ⟨rfl, rfl⟩ := trodVars_none hV
  have main : Calls Tryz.prog 8 #[v0, v1, v2, v3] W fun e w' => e = .returned (.bool true) ∧ Kept W w' := by
    obtain ⟨a0, rfl, _, _, w0⟩ := open_int (P := Tryz.prog) (t := 5) (k := .u8) (by kernel_rfl) (hval 0 5 v0 rfl rfl) h0
    obtain ⟨a1, rfl, _, _, w1⟩ := open_int (P := Tryz.prog) (t := 5) (k := .u8) (by kernel_rfl) (hval 1 5 v1 rfl rfl) h1
    obtain ⟨a2, rfl, _, _, w2⟩ := open_int (P := Tryz.prog) (t := 23) (k := .u16) (by kernel_rfl) (hval 2 23 v2 rfl rfl) h2
    obtain ⟨a3, rfl, _, _, w3⟩ := open_int (P := Tryz.prog) (t := 5) (k := .u8) (by kernel_rfl) (hval 3 5 v3 rfl rfl) h3
    obtain ⟨n0, rfl, b0⟩ := Bv w0
    obtain ⟨n1, rfl, b1⟩ := Bv w1
    obtain ⟨n2, rfl, b2⟩ := aAb w2
    obtain ⟨n3, rfl, b3⟩ := Bv w3
    obtain ⟨H', hl, _⟩ := aSP n0 n1 n2 n3 b0 b1 b2 b3
    exact Vj Yb L2 (In.Vi _ _ hTW) hl (Vrs.mV (.same rfl) (Vrs.mV (.same rfl) (Vrs.mV (.same rfl) (Vrs.mV (.same rfl) (Vrs.nL _)))))
  refine main.mono fun e W' ⟨he, hg⟩ => ?_
  subst he
  exact ⟨_, rfl, U8 (pa := (p0 ++ (p1 ++ (p2 ++ (p3 ++ []))))) (pv := []) hW' (fun _ _ _ => (trodAll_cons_mk (shut_bool Tryz.underlying4 _) trodAll_mk0)) (fun sp hsp => J7 hg closed_ok _ _ _ _ (by rw [Tryz.params8]; decide) hA1 (fun q hq => hsp q (by simpa using hq))) (fun _ _ => rfl) rfl
    hg (ok_one (by kernel_rfl) rfl (okWide_bool_mk Tryz.underlying4 _))⟩

theorem jW : Rows.watchTwiceRow.wf (OpenSpec.ofChange Rows.watchTwiceSpec) = true := by kernel_rfl
theorem jP : (Rows.watchTwiceRow.inPlace == Tryz.prog.inPlace 8) = true := by kernel_rfl
theorem jU : (Rows.watchTwiceRow.unfollowed == Tryz.prog.unfollowed 8) = true := by kernel_rfl
theorem jR : (Rows.watchTwiceRow.recurses == Tryz.prog.recurses 8) = true := by kernel_rfl
theorem jN : (Rows.watchTwiceRow.named == Tryz.prog.varsNamed 8) = true := by kernel_rfl
theorem jG : false = Rows.watchTwiceRow.goesBy Tryz.prog := by kernel_rfl
theorem jT : Rows.watchTwiceRow.wfByText (OpenSpec.ofChange Rows.watchTwiceSpec) = true := by kernel_rfl
theorem jF : Tryz.prog.funcNamed "shunter/shunterlaw18.WatchTwice" = some 8 := by kernel_rfl
theorem jS : ([5, 5, 23, 5].all fun u => !Tryz.prog.wantsStandIn u) = true := by kernel_rfl
theorem joined : joinedFacts Tryz.prog 8 Tryz.f8 Rows.watchTwiceSpec Rows.watchTwiceRow = true := by
  unfold joinedFacts
  exact (Bool.and_eq_true_iff.mpr ⟨(Bool.and_eq_true_iff.mpr ⟨(Bool.and_eq_true_iff.mpr ⟨(Bool.and_eq_true_iff.mpr ⟨(Bool.and_eq_true_iff.mpr ⟨(Bool.and_eq_true_iff.mpr ⟨(Bool.and_eq_true_iff.mpr ⟨(Bool.and_eq_true_iff.mpr ⟨(Bool.and_eq_true_iff.mpr ⟨(Bool.and_eq_true_iff.mpr ⟨(Bool.and_eq_true_iff.mpr ⟨(Bool.and_eq_true_iff.mpr ⟨(Bool.and_eq_true_iff.mpr ⟨(Bool.and_eq_true_iff.mpr ⟨(Bool.and_eq_true_iff.mpr ⟨(Bool.and_eq_true_iff.mpr ⟨(Bool.and_eq_true_iff.mpr ⟨(Bool.and_eq_true_iff.mpr ⟨(Bool.and_eq_true_iff.mpr ⟨(Bool.and_eq_true_iff.mpr ⟨(Bool.and_eq_true_iff.mpr ⟨(Bool.and_eq_true_iff.mpr ⟨(Bool.and_eq_true_iff.mpr ⟨(Bool.and_eq_true_iff.mpr ⟨(Bool.and_eq_true_iff.mpr ⟨(Bool.and_eq_true_iff.mpr ⟨(Bool.and_eq_true_iff.mpr ⟨(Bool.and_eq_true_iff.mpr ⟨(Bool.and_eq_true_iff.mpr ⟨(Bool.and_eq_true_iff.mpr ⟨(Bool.and_eq_true_iff.mpr ⟨jW, Vv⟩), Vy⟩), (by kernel_rfl)⟩), (by kernel_rfl)⟩), (by kernel_rfl)⟩), Vz⟩), (by kernel_rfl)⟩), Vu⟩), jP⟩), jU⟩), jR⟩), jN⟩), (by kernel_rfl)⟩), (by kernel_rfl)⟩), (by kernel_rfl)⟩), (by kernel_rfl)⟩), (by kernel_rfl)⟩), (by kernel_rfl)⟩), (by kernel_rfl)⟩), (by kernel_rfl)⟩), (by kernel_rfl)⟩), Vx⟩), (by kernel_rfl)⟩), Vt⟩), Vs⟩), (by kernel_rfl)⟩), (by kernel_rfl)⟩), (by kernel_rfl)⟩), (by kernel_rfl)⟩), (by kernel_rfl)⟩), (by kernel_rfl)⟩)
theorem over : Rows.watchTwiceRow.holds Tryz.pinned (OpenSpec.ofChange Rows.watchTwiceSpec) :=
  OpenClaim.holds_of_wide 8 Tryz.f8 rfl rfl rfl rfl rfl rfl rfl ⟨rfl, rfl, rfl, rfl, rfl⟩ rfl rfl rfl rfl rfl (by kernel_rfl) Tryz.func8 joined
    (of_decide_eq_true (by kernel_rfl)) (by unfold Func.isWrapper; first | (rw [if_pos (by decide +kernel)]; kernel_rfl) | (rw [if_neg (by decide +kernel)]; exact ⟨rfl, rfl⟩))
    (fun os started H enc _ => lifted os started H enc)

/-- the statement: the row, tied to the program's text -/
theorem proved : Rows.WatchTwiceCardSaid :=
  Claim7.holds_tied_plain_at .later [] [.data] true (true, "2014fd8ab8016d835e835ca6b24be09272b113ffd6dce9282fa5aefc86db93f2") false
    over (fun _ h => by cases h) jT (fun _ h => by cases h) watchTwice_row_tie rfl ⟨rfl, rfl⟩ V1 rfl
    (fun f fn hf hfn => by
      obtain rfl : f = 8 := Option.some.inj (jF.symm.trans hf) |>.symm
      obtain rfl : fn = Tryz.f8 := (Option.some.inj (Tryz.func8.symm.trans hfn)).symm
      exact ⟨Vw, fun j t ht => by
        rw [Tryz.params8] at ht
        have hm : t ∈ [5, 5, 23, 5] := by simpa using Array.mem_of_getElem? ht
        exact (show Tryz.prog.wantsStandIn t = false by simpa using List.all_eq_true.1 jS t hm)⟩)
    jG
#print axioms proved
end Go.Proofs.YtciiopkbmjppfaaGreatDoor.watchTwice
