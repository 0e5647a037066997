/-
  TopRoom answers true for every plan, every start and any steps that its own bounds let in, in any world that the card lets in: no lane holds more than its room, nothing is refused for lack of it, all blocks are accounted for. Conditions: those of the card alone.
-/
import Derived.SevenTiedAt
import Derived.Test.YtciiopkbmjppfaaGreatDoorAbsTabL
import Derived.Test.YtciiopkbmjppfaaGreatDoorAbsMainT
import Derived.Test.YtciiopkbmjppfaaGreatDoorCards
import Derived.Test.YtciiopkbmjppfaaGreatDoorAbsM8
namespace Go.Proofs.YtciiopkbmjppfaaGreatDoor.topRoom
open Go.Abs Go.ChangeShapes Go.WideShapes Go.ChangeAt Go.RowKit
set_option linter.unusedVariables false

def closed : List TypeId := [22, 5, 4, 23, 24, 33, 31, 3, 29]
theorem closed_ok : closed.all (okT Tryz.prog closed) = true := by kernel_rfl
theorem closed_in : closed.all (okA Tryz.prog closed) = true := by kernel_rfl

/-! ### The call answers true, and of the world that was nothing turns. -/
set_option maxRecDepth 100000 in
theorem lifted (os : Os) (started : os.Started) (H : Type) (enc : TypeId × Value → H) :
    ReturnsInHanded {} Tryz.checked os 3 .any (fun w args => (Rows.topRoomSpec.pre enc Tryz.prog Tryz.f3 [] false w args ∧ laidMetH Tryz.prog Bg w) ∧ sizedMet enc Tryz.prog Tryz.f3 (OpenSpec.ofChange Rows.topRoomSpec) false w args) (Rows.topRoomSpec.post enc Tryz.prog Tryz.f3 false true false false) := by
  refine returnsInHanded_of_change_and (C := Tryz.checked) (X := fun w _ => laidMetH Tryz.prog Bg w) (fun _ _ _ hh h => h.of_heap hh) aHd started (by kernel_rfl) Tryz.func3
    (ChangeSpec.witness_shaped (enc := enc) (C := Tryz.checked) (os := os) (X := fun w _ => laidMetH Tryz.prog Bg w) false (World.doorLaid Tryz.prog 400 os) #[.slice none 0 0, .int .u8 0, .int .u8 0, .int .u16 0, .slice none 0 0] 8 rfl (World.shaped_of_RefB (by kernel_rfl) (by kernel_rfl)) (by kernel_rfl) (by kernel_rfl) (by kernel_rfl) (aHc os _)) ?_
  intro W base args ds gs before hval0 hW hcnd hsz hL _
  have hTW := aHn hL
  have hval : ∀ (j : Nat) t v, Tryz.f3.params[j]? = some t → args[j]? = some v → Value.okWide Tryz.prog W .any base t v := hval0
  have hsz' : (DataW.weightsEach Tryz.prog (Tryz.f3.params.toList ++ Rows.topRoomSpec.plain.varTypes Tryz.prog) (ds ++ gs)).all (· ≤ reachBytes) = true := hsz
  have hW' := hW
  obtain ⟨p, q, hA0, hV, rfl, hfz, hnd⟩ := hW
  have hA : DataW.TrodAll enc Tryz.prog W 0 (fun _ => true) true Tryz.f3.params.toList args.toList ds p := hA0
  have hA1 := hA
  rw [Tryz.params3] at hA hval hsz'
  obtain ⟨v0, vs0, d0, ds0, p0, q0, hargs, rfl, rfl, h0, r0⟩ := trodAll_cons hA
  obtain ⟨v1, vs1, d1, ds1, p1, q1, rfl, rfl, rfl, h1, r1⟩ := trodAll_cons r0
  obtain ⟨v2, vs2, d2, ds2, p2, q2, rfl, rfl, rfl, h2, r2⟩ := trodAll_cons r1
  obtain ⟨v3, vs3, d3, ds3, p3, q3, rfl, rfl, rfl, h3, r3⟩ := trodAll_cons r2
  obtain ⟨v4, vs4, d4, ds4, p4, q4, rfl, rfl, rfl, h4, r4⟩ := trodAll_cons r3
  obtain ⟨rfl, rfl, rfl⟩ := trodAll_nil r4
  obtain rfl : args = #[v0, v1, v2, v3, v4] := by cases args; simp_all
  obtain ⟨rfl, rfl⟩ := trodVars_none hV
  have main : Calls Tryz.prog 3 #[v0, v1, v2, v3, v4] W fun e w' => e = .returned (.bool true) ∧ Kept W w' := by
    obtain ⟨G0, ρ0, u0, n0, i0, le0, vr0, rp0⟩ := Wz (t := 22) (e := 5) closed_in (by decide) (by kernel_rfl) (hval 0 22 v0 rfl rfl) h0 (W0 (j := 0) hsz' rfl rfl) (In.aG0 _ _ hTW)
    obtain ⟨a1, rfl, _, _, w1⟩ := open_int (P := Tryz.prog) (t := 5) (k := .u8) (by kernel_rfl) (hval 1 5 v1 rfl rfl) h1
    obtain ⟨a2, rfl, _, _, w2⟩ := open_int (P := Tryz.prog) (t := 5) (k := .u8) (by kernel_rfl) (hval 2 5 v2 rfl rfl) h2
    obtain ⟨a3, rfl, _, _, w3⟩ := open_int (P := Tryz.prog) (t := 23) (k := .u16) (by kernel_rfl) (hval 3 23 v3 rfl rfl) h3
    obtain ⟨G4, ρ4, u4, n4, i4, le4, vr4, rp4⟩ := Wz (t := 24) (e := 33) closed_in (by decide) (by kernel_rfl) (hval 4 24 v4 rfl rfl) h4 (W0 (j := 4) hsz' rfl rfl) i0
    replace rp0 := Rp.Bf (KeepRO.app _ G4) _ _ _ rp0
    obtain ⟨n1, rfl, b1⟩ := N5 w1
    obtain ⟨n2, rfl, b2⟩ := N5 w2
    obtain ⟨n3, rfl, b3⟩ := aLZ w3
    obtain ⟨c, z1, z2, z3⟩ := Us.aLY rp0
    obtain ⟨xs, hx, hxo⟩ := Os.aT3 rp4
    obtain ⟨H', hl, _⟩ := aT2 z1 z2 z3 n1 n2 n3 b1 b2 b3 hx hxo
    exact aG1 aJY Y7 i4 hl (Vrs.kV (vr0.pL le4) (Vrs.kV (.same rfl) (Vrs.kV (.same rfl) (Vrs.kV (.same rfl) (Vrs.kV vr4 (Vrs.j6 _))))))
  refine main.mono fun e W' ⟨he, hg⟩ => ?_
  subst he
  exact ⟨_, rfl, aGN (pa := (p0 ++ (p1 ++ (p2 ++ (p3 ++ (p4 ++ [])))))) (pv := []) hW' (fun _ _ _ => (trodAll_cons_mk (shut_bool Tryz.underlying4 _) trodAll_mk0)) (fun sp hsp => Wd hg closed_ok _ _ _ _ (by rw [Tryz.params3]; decide) hA1 (fun q hq => hsp q (by simpa using hq))) (fun _ _ => rfl) rfl
    hg (ok_one (by kernel_rfl) rfl (okWide_bool_mk Tryz.underlying4 _))⟩

theorem jW : Rows.topRoomRow.wf (OpenSpec.ofChange Rows.topRoomSpec) = true := by kernel_rfl
theorem jP : (Rows.topRoomRow.inPlace == Tryz.prog.inPlace 3) = true := by kernel_rfl
theorem jU : (Rows.topRoomRow.unfollowed == Tryz.prog.unfollowed 3) = true := by kernel_rfl
theorem jR : (Rows.topRoomRow.recurses == Tryz.prog.recurses 3) = true := by kernel_rfl
theorem jN : (Rows.topRoomRow.named == Tryz.prog.varsNamed 3) = true := by kernel_rfl
theorem jG : false = Rows.topRoomRow.goesBy Tryz.prog := by kernel_rfl
theorem jT : Rows.topRoomRow.wfByText (OpenSpec.ofChange Rows.topRoomSpec) = true := by kernel_rfl
theorem jF : Tryz.prog.funcNamed "shunter/shuntertop.TopRoom" = some 3 := by kernel_rfl
theorem jS : ([22, 5, 5, 23, 24].all fun u => !Tryz.prog.wantsStandIn u) = true := by kernel_rfl
theorem joined : joinedFacts Tryz.prog 3 Tryz.f3 Rows.topRoomSpec Rows.topRoomRow = true := by
  unfold joinedFacts
  exact (Bool.and_eq_true_iff.mpr ⟨(Bool.and_eq_true_iff.mpr ⟨(Bool.and_eq_true_iff.mpr ⟨(Bool.and_eq_true_iff.mpr ⟨(Bool.and_eq_true_iff.mpr ⟨(Bool.and_eq_true_iff.mpr ⟨(Bool.and_eq_true_iff.mpr ⟨(Bool.and_eq_true_iff.mpr ⟨(Bool.and_eq_true_iff.mpr ⟨(Bool.and_eq_true_iff.mpr ⟨(Bool.and_eq_true_iff.mpr ⟨(Bool.and_eq_true_iff.mpr ⟨(Bool.and_eq_true_iff.mpr ⟨(Bool.and_eq_true_iff.mpr ⟨(Bool.and_eq_true_iff.mpr ⟨(Bool.and_eq_true_iff.mpr ⟨(Bool.and_eq_true_iff.mpr ⟨(Bool.and_eq_true_iff.mpr ⟨(Bool.and_eq_true_iff.mpr ⟨(Bool.and_eq_true_iff.mpr ⟨(Bool.and_eq_true_iff.mpr ⟨(Bool.and_eq_true_iff.mpr ⟨(Bool.and_eq_true_iff.mpr ⟨(Bool.and_eq_true_iff.mpr ⟨(Bool.and_eq_true_iff.mpr ⟨(Bool.and_eq_true_iff.mpr ⟨(Bool.and_eq_true_iff.mpr ⟨(Bool.and_eq_true_iff.mpr ⟨(Bool.and_eq_true_iff.mpr ⟨(Bool.and_eq_true_iff.mpr ⟨(Bool.and_eq_true_iff.mpr ⟨jW, aHh⟩), aHk⟩), (by kernel_rfl)⟩), (by kernel_rfl)⟩), (by kernel_rfl)⟩), aHl⟩), (by kernel_rfl)⟩), aHg⟩), jP⟩), jU⟩), jR⟩), jN⟩), (by kernel_rfl)⟩), (by kernel_rfl)⟩), (by kernel_rfl)⟩), (by kernel_rfl)⟩), (by kernel_rfl)⟩), (by kernel_rfl)⟩), (by kernel_rfl)⟩), (by kernel_rfl)⟩), (by kernel_rfl)⟩), aHj⟩), (by kernel_rfl)⟩), aHf⟩), aHe⟩), (by kernel_rfl)⟩), (by kernel_rfl)⟩), (by kernel_rfl)⟩), (by kernel_rfl)⟩), (by kernel_rfl)⟩), (by kernel_rfl)⟩)
theorem over : Rows.topRoomRow.holds Tryz.pinned (OpenSpec.ofChange Rows.topRoomSpec) :=
  OpenClaim.holds_of_wide 3 Tryz.f3 rfl rfl rfl rfl rfl rfl rfl ⟨rfl, rfl, rfl, rfl, rfl⟩ rfl rfl rfl rfl rfl (by kernel_rfl) Tryz.func3 joined
    (of_decide_eq_true (by kernel_rfl)) (by unfold Func.isWrapper; first | (rw [if_pos (by decide +kernel)]; kernel_rfl) | (rw [if_neg (by decide +kernel)]; exact ⟨rfl, rfl⟩))
    (fun os started H enc _ => lifted os started H enc)

/-- the statement: the row, tied to the program's text -/
theorem proved : Rows.TopRoomCardSaid :=
  Claim7.holds_tied_plain_at .later [] [.data] true (true, "2014fd8ab8016d835e835ca6b24be09272b113ffd6dce9282fa5aefc86db93f2") false
    over (fun _ h => by cases h) jT (fun _ h => by cases h) topRoom_row_tie rfl ⟨rfl, rfl⟩ aHo rfl
    (fun f fn hf hfn => by
      obtain rfl : f = 3 := Option.some.inj (jF.symm.trans hf) |>.symm
      obtain rfl : fn = Tryz.f3 := (Option.some.inj (Tryz.func3.symm.trans hfn)).symm
      exact ⟨aHi, fun j t ht => by
        rw [Tryz.params3] at ht
        have hm : t ∈ [22, 5, 5, 23, 24] := by simpa using Array.mem_of_getElem? ht
        exact (show Tryz.prog.wantsStandIn t = false by simpa using List.all_eq_true.1 jS t hm)⟩)
    jG
#print axioms proved
end Go.Proofs.YtciiopkbmjppfaaGreatDoor.topRoom
