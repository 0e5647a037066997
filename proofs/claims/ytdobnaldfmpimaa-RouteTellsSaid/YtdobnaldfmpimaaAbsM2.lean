/-
  PARTS OF THIS CLAIM'S PROOF, laid together by a program of mine out of texts written from templates.
-/
import Derived.Test.YtdobnaldfmpimaaAbsM1
set_option linter.unusedSectionVars false
set_option linter.unusedSimpArgs false
set_option linter.unusedVariables false
set_option maxRecDepth 100000
namespace Go.Proofs.Ytdobnaldfmpimaa
open Go.Abs
def wBad (n : Int) : Bool := decide (n < 1) || decide (5 < n)
def wOk (ws : List Int) : Bool := !(decide ((ws.length : Int) = 0) || (decide ((3 : Int) < ws.length) || ws.any wBad))
def rowsOk (p : PlanD) : Bool := !(p.next.any fun r => decide ((r.length : Int) ≠ p.nodes))
def checkOk (p : PlanD) : Bool := numOk p && (edgesOk p && (decide ((p.weights.length : Int) = p.lanes) && (wOk p.weights && (decide ((p.next.length : Int) = p.nodes) && rowsOk p))))
def errno (b : Bool) : Int := if b = true then 0 else 120
section
variable {H : Heap} {m : Nat} {p : PlanD} {ev wv nv : Value}
theorem wOdd_is (hm : 0 < m) (n : Int) (H : Heap) : lvl Try.prog pk12 m (.func 56) [.int .i64 n] H = some (.bool (wBad n), H) := by
  refine lvl_at (pk_no rfl rfl) hm ?_
  rw [f56_eq]
  unfold f56 wBad
  by_cases h : n < 1
  · simp -implicitDefEqProofs only [r_opt, r_ret, ob_some, ifB_true, iteV_true, iteV_false, r_gdt, r_gdt2, r_gdtf, r_gdtf2, r_gdff, r_gdff2, r_gdft, r_gdft2, r_gdu, r_gdu2, pick_t, pick_f, ext_0, ext_1, x_newB, r_nil, r_fAddr, Nat.zero_add, b_lss, b_leq, b_gtr, b_geq, b_eql, b_neq, u_not, Bool.not_true, Bool.not_false, oneOf_one, oneOf_two, again_normal, again_exit, again_ret, Bool.and_true, h, decide_true, Bool.true_or]
  · simp -implicitDefEqProofs only [r_opt, r_ret, ob_some, ifB_true, iteV_true, iteV_false, r_gdt, r_gdt2, r_gdtf, r_gdtf2, r_gdff, r_gdff2, r_gdft, r_gdft2, r_gdu, r_gdu2, pick_t, pick_f, ext_0, ext_1, x_newB, r_nil, r_fAddr, Nat.zero_add, b_lss, b_leq, b_gtr, b_geq, b_eql, b_neq, u_not, Bool.not_true, Bool.not_false, oneOf_one, oneOf_two, again_normal, again_exit, again_ret, Bool.and_true, h, decide_false, Bool.false_or]
theorem slNe (b o n c : Nat) : bin Try.prog .eql 24 (.slice (some ⟨b, o, none⟩) n c) (.slice none 0 0) = some (.bool false) := by
  have h1 : Try.prog.underlying 24 = some (.slice 3) := by kernel_rfl
  simp [bin, flat, eqAny, nilKind, eqV, h1]
theorem clone_is {v : Value} {xs : List Int} (hx : Is H v xs) (hne : xs ≠ []) (hl : xs.length ≤ 1000) (hm : 0 < m) : ∃ H' u, lvl Try.prog pk12 m (.func 58) [v] H = some (u, H') ∧ Ext H H' ∧ Iw H' u xs ∧ New H u := by
  have hv : ∃ b o c, v = .slice (some ⟨b, o, none⟩) xs.length c := by
    rcases hx with ⟨_, h⟩ | ⟨b, o, cap, h, _⟩
    · exact absurd h hne
    · exact ⟨b, o, cap, h⟩
  have b0 : bldSlice 3 1 0 [.int .i64 0] [] H = some (.slice (some ⟨H.length, 0, none⟩) 0 0, H ++ [.cells [] 3 .row]) := rfl
  have h0 : Iw (H ++ [.cells [] 3 .row]) (.slice (some ⟨H.length, 0, none⟩) 0 0) [] := ⟨rfl, .inr ⟨H.length, 0, [], rfl, Nat.le_refl _, rfl, by simp⟩⟩
  obtain ⟨u, H', g1, g2, g3, g4⟩ := h0.more inC_len inC_all (by decide) (by' := 8) (H0 := H) (hx.ext (Fr.app _ _ _)) (fun b ⟨_, _, _, h⟩ => by cases h; exact Nat.le_refl _) (Fr.app _ _ _) (roomy_mono (n := 1000) (by decide) (by simp; omega))
  refine lvl_ex (pk_no rfl rfl) (by omega) ⟨H', u, ?_, g4, g2, g3⟩
  obtain ⟨b, o, c, rfl⟩ := hv
  rw [f58_eq]
  unfold f58
  simp -implicitDefEqProofs only [r_opt, r_ret, ob_some, ifB_true, iteV_true, iteV_false, r_gdt, r_gdt2, r_gdtf, r_gdtf2, r_gdff, r_gdff2, r_gdft, r_gdft2, r_gdu, r_gdu2, pick_t, pick_f, ext_0, ext_1, x_newB, r_nil, r_fAddr, Nat.zero_add, b_lss, b_leq, b_gtr, b_geq, b_eql, b_neq, u_not, Bool.not_true, Bool.not_false, oneOf_one, oneOf_two, again_normal, again_exit, again_ret, Bool.and_true, slNe, b0, g1]
theorem ePW (a : Addr) : bin Try.prog .eql 60 (.pointer (some a)) (.pointer none) = some (.bool false) := x_eqNil 60 79 (by kernel_rfl) a
theorem ePW0 : bin Try.prog .eql 60 (.pointer none) (.pointer none) = some (.bool true) := x_eqNil0 60 79 (by kernel_rfl)
theorem wNew_is {v : Value} {ws : List Int} (hw : Is H v ws) (hl : ws.length ≤ 17592186044500) (hm : ws.length + 100 < m) (hm2 : m ≤ 72057594037927936) : ∃ H' u, lvl Try.prog pk12 m (.func 35) [v] H = some (u, H') ∧ Ext H H' ∧ bin Try.prog .eql 60 u (.pointer none) = some (.bool (!wOk ws)) := by
  have hlen := hw.len
  have hcf : lvl Try.prog pk12 (m - 1) (.func 57) [v, .func (.func 56) #[] #[]] H = some (.bool (ws.any wBad), H) := by
    have := cfI_is (H := H) (m := m - 1) (v := v) (fv := .func (.func 56) #[] #[]) (n := ws.length) (fun i => (ws[i]?.map wBad).getD false) hlen (by omega) (by omega) (fun i hi => by
      have hx : ws[i]? = some ws[i] := List.getElem?_eq_getElem hi
      obtain ⟨b, o, g1, g2, g3⟩ := hw.at_ inC_len hx .i64
      have l1 := (g3 H rfl).2.1 0 _ rfl
      refine ⟨_, _, g1, l1, ?_⟩
      have := wOdd_is (m := m - 1 - 1 - 1) (by omega) ws[i] H
      rw [hx]
      exact this)
    rw [this, any_range ws wBad _ fun i x h => by rw [h]; rfl]
  by_cases c1 : (ws.length : Int) = 0
  · have e1 : ((ws.length : Int) == 0) = true := by simpa using c1
    have hno : wOk ws = false := by unfold wOk; simp only [c1, decide_true, Bool.true_or, Bool.not_true]
    refine lvl_ex (pk_no rfl rfl) (by omega) ⟨H, .pointer none, ?_, Fr.refl _ _, by rw [hno]; exact ePW0⟩
    rw [f35_eq]
    unfold f35
    simp -implicitDefEqProofs only [r_opt, r_ret, ob_some, ifB_true, iteV_true, iteV_false, r_gdt, r_gdt2, r_gdtf, r_gdtf2, r_gdff, r_gdff2, r_gdft, r_gdft2, r_gdu, r_gdu2, pick_t, pick_f, ext_0, ext_1, x_newB, r_nil, r_fAddr, Nat.zero_add, b_lss, b_leq, b_gtr, b_geq, b_eql, b_neq, u_not, Bool.not_true, Bool.not_false, oneOf_one, oneOf_two, again_normal, again_exit, again_ret, Bool.and_true, hlen, e1]
  · have e1 : ((ws.length : Int) == 0) = false := by simpa using c1
    by_cases c2 : (3 : Int) < ws.length
    · have hno : wOk ws = false := by unfold wOk; simp only [c2, decide_true, Bool.true_or, Bool.or_true, Bool.not_true]
      refine lvl_ex (pk_no rfl rfl) (by omega) ⟨H, .pointer none, ?_, Fr.refl _ _, by rw [hno]; exact ePW0⟩
      rw [f35_eq]
      unfold f35
      simp -implicitDefEqProofs only [r_opt, r_ret, ob_some, ifB_true, iteV_true, iteV_false, r_gdt, r_gdt2, r_gdtf, r_gdtf2, r_gdff, r_gdff2, r_gdft, r_gdft2, r_gdu, r_gdu2, pick_t, pick_f, ext_0, ext_1, x_newB, r_nil, r_fAddr, Nat.zero_add, b_lss, b_leq, b_gtr, b_geq, b_eql, b_neq, u_not, Bool.not_true, Bool.not_false, oneOf_one, oneOf_two, again_normal, again_exit, again_ret, Bool.and_true, hlen, e1, c2, decide_true]
    · cases c3 : ws.any wBad with
      | true =>
        have hno : wOk ws = false := by unfold wOk; simp only [c3, Bool.or_true, Bool.not_true]
        rw [c3] at hcf
        refine lvl_ex (pk_no rfl rfl) (by omega) ⟨H, .pointer none, ?_, Fr.refl _ _, by rw [hno]; exact ePW0⟩
        rw [f35_eq]
        unfold f35
        simp -implicitDefEqProofs only [r_opt, r_ret, ob_some, ifB_true, iteV_true, iteV_false, r_gdt, r_gdt2, r_gdtf, r_gdtf2, r_gdff, r_gdff2, r_gdft, r_gdft2, r_gdu, r_gdu2, pick_t, pick_f, ext_0, ext_1, x_newB, r_nil, r_fAddr, Nat.zero_add, b_lss, b_leq, b_gtr, b_geq, b_eql, b_neq, u_not, Bool.not_true, Bool.not_false, oneOf_one, oneOf_two, again_normal, again_exit, again_ret, Bool.and_true, hlen, e1, c2, decide_false, hcf]
      | false =>
        have hyes : wOk ws = true := by unfold wOk; simp only [c1, c2, c3, decide_false, Bool.or_false, Bool.not_false]
        rw [c3] at hcf
        obtain ⟨H1, u1, g1, g2, g3, g4⟩ := clone_is (m := m - 1) hw (fun h => c1 (by rw [h]; rfl)) (by omega) (by omega)
        obtain ⟨H2, u2, q1, q2, q3, q4⟩ := clone_is (m := m - 1) (hw.ext g2) (fun h => c1 (by rw [h]; rfl)) (by omega) (by omega)
        have hb : bld Try.prog 79 [(0, u1), (1, u2)] = some (.agg #[u1, u2, .int .i64 0]) := by
          rcases g3 with ⟨_, ⟨rfl, _⟩ | ⟨_, _, _, rfl, _⟩⟩ <;> rcases q3 with ⟨_, ⟨rfl, _⟩ | ⟨_, _, _, rfl, _⟩⟩ <;> rfl
        refine lvl_ex (pk_no rfl rfl) (by omega) ⟨H2 ++ [.cells (Value.agg #[u1, u2, .int .i64 0]).cells.toList 79 .fix], .pointer (some ⟨H2.length, 0, none⟩), ?_, (g2.tr q2).tr (Fr.app _ _ _), by rw [hyes]; exact ePW _⟩
        rw [f35_eq]
        unfold f35
        simp -implicitDefEqProofs only [r_opt, r_ret, ob_some, ifB_true, iteV_true, iteV_false, r_gdt, r_gdt2, r_gdtf, r_gdtf2, r_gdff, r_gdff2, r_gdft, r_gdft2, r_gdu, r_gdu2, pick_t, pick_f, ext_0, ext_1, x_newB, r_nil, r_fAddr, Nat.zero_add, b_lss, b_leq, b_gtr, b_geq, b_eql, b_neq, u_not, Bool.not_true, Bool.not_false, oneOf_one, oneOf_two, again_normal, again_exit, again_ret, Bool.and_true, hlen, e1, c2, decide_false, hcf, g1, q1, hb]
theorem check_is (hp : PV H p ev wv nv) (hm : 17592186045000 < m) (hm2 : m ≤ 72057594037927936) : ∃ H', lvl Try.prog pk12 m (.func 17) [plV p ev wv nv] H = some (.int .u16 (errno (checkOk p)), H') ∧ Ext H H' := by
  have h1 := hp.be
  have h2 := hp.bw
  have h3 := hp.bn
  obtain ⟨H0, hH0⟩ : ∃ H0, H0 = H ++ [plB p ev wv nv] := ⟨_, rfl⟩
  have x0 : Ext H H0 := by rw [hH0]; exact Fr.app _ _ _
  have b0 : H0[H.length]? = some (plB p ev wv nv) := by rw [hH0]; exact at_last _ _
  have l11 := ld_pl11 b0
  have g1 := numbers_is (H := H0) (m := m - 1) (by omega) p ev wv nv
  obtain ⟨H1, hH1⟩ : ∃ H1, H1 = H0 ++ [plB p ev wv nv] := ⟨_, rfl⟩
  have x1 : Ext H0 H1 := by rw [hH1]; exact Fr.app _ _ _
  rw [← hH1] at g1
  have b1 := ld_of b0 x1
  have l11' := ld_pl11 b1
  obtain ⟨H2, g2, x2⟩ := edges_is (m := m - 1) (hp.ext (x0.tr x1)) (by omega) (by omega)
  have b2 := ld_of b1 x2
  have w2 := ld_pl b2 8 _ rfl
  have la2 := ld_pl b2 2 _ rfl
  have p2 := hp.ext ((x0.tr x1).tr x2)
  have wl := p2.w.len
  obtain ⟨H3, u3, g3, x3, g4⟩ := wNew_is p2.w (m := m - 1) (by omega) (by omega) (by omega)
  have b3 := ld_of b2 x3
  have n3 := ld_pl b3 10 _ rfl
  have no3 := ld_pl b3 0 _ rfl
  have p3 := p2.ext x3
  have nl := p3.n.len
  have hcf : lvl Try.prog pk12 (m - 1) (.func 36) [nv, .func (.func 32) #[] #[.pointer (some ⟨H.length, 0, none⟩)]] H3 = some (.bool (p.next.any fun r => decide ((r.length : Int) ≠ p.nodes)), H3) := by
    have := cfR_is (H := H3) (m := m - 1) (v := nv) (fv := .func (.func 32) #[] #[.pointer (some ⟨H.length, 0, none⟩)]) (n := p.next.length) (fun i => (p.next[i]?.map fun r => decide ((r.length : Int) ≠ p.nodes)).getD false) nl (by omega) (by omega) (fun i hi => by
      have hx : p.next[i]? = some p.next[i] := List.getElem?_eq_getElem hi
      obtain ⟨a, u, q1, q2, q3⟩ := p3.n.at_ hx .i64
      refine ⟨a, u, q1, q2, ?_⟩
      have hlen := q3.len
      have : lvl Try.prog pk12 (m - 1 - 1 - 1 + 0) (.func 32) [u, .pointer (some ⟨H.length, 0, none⟩)] H3 = some (.bool (decide ((p.next[i].length : Int) ≠ p.nodes)), H3) := by
        refine lvl_at (pk_no rfl rfl) (by omega) ?_
        rw [f32_eq]
        unfold f32
        have e : (((p.next[i].length : Nat) : Int) != p.nodes) = decide ((p.next[i].length : Int) ≠ p.nodes) := by
          rw [Bool.eq_iff_iff]
          simp
        simp -implicitDefEqProofs only [r_opt, r_ret, ob_some, ifB_true, iteV_true, iteV_false, r_gdt, r_gdt2, r_gdtf, r_gdtf2, r_gdff, r_gdff2, r_gdft, r_gdft2, r_gdu, r_gdu2, pick_t, pick_f, ext_0, ext_1, x_newB, r_nil, r_fAddr, Nat.zero_add, b_lss, b_leq, b_gtr, b_geq, b_eql, b_neq, u_not, Bool.not_true, Bool.not_false, oneOf_one, oneOf_two, again_normal, again_exit, again_ret, Bool.and_true, hlen, no3, e]
      rw [hx]
      exact this)
    rw [this, any_range p.next (fun r => decide ((r.length : Int) ≠ p.nodes)) _ fun i x h => by rw [h]; rfl]
  have hn1 : ((p.weights.length : Int) != p.lanes) = !decide ((p.weights.length : Int) = p.lanes) := by rw [Bool.eq_iff_iff]; simp
  have hn2 : ((p.next.length : Int) != p.nodes) = !decide ((p.next.length : Int) = p.nodes) := by rw [Bool.eq_iff_iff]; simp
  have hr : (p.next.any fun r => decide ((r.length : Int) ≠ p.nodes)) = !rowsOk p := by unfold rowsOk; rw [Bool.not_not]
  rw [hr] at hcf
  have hz : errno false = 120 := rfl
  have hz1 : errno true = 0 := rfl
  refine lvl_ex1 (pk_no rfl rfl) (by omega) ?_
  rw [f17_eq]
  unfold f17 checkOk
  cases c1 : numOk p with
  | false => exact ⟨H1, by simp -implicitDefEqProofs only [r_opt, r_ret, ob_some, ifB_true, iteV_true, iteV_false, r_gdt, r_gdt2, r_gdtf, r_gdtf2, r_gdff, r_gdff2, r_gdft, r_gdft2, r_gdu, r_gdu2, pick_t, pick_f, ext_0, ext_1, x_newB, r_nil, r_fAddr, Nat.zero_add, b_lss, b_leq, b_gtr, b_geq, b_eql, b_neq, u_not, Bool.not_true, Bool.not_false, oneOf_one, oneOf_two, again_normal, again_exit, again_ret, Bool.and_true, plV_cells, ← hH0, l11, g1, c1, hz, hz1, Bool.false_and, Bool.true_and], x0.tr x1⟩
  | true =>
      cases c2 : edgesOk p with
      | false => exact ⟨H2, by simp -implicitDefEqProofs only [r_opt, r_ret, ob_some, ifB_true, iteV_true, iteV_false, r_gdt, r_gdt2, r_gdtf, r_gdtf2, r_gdff, r_gdff2, r_gdft, r_gdft2, r_gdu, r_gdu2, pick_t, pick_f, ext_0, ext_1, x_newB, r_nil, r_fAddr, Nat.zero_add, b_lss, b_leq, b_gtr, b_geq, b_eql, b_neq, u_not, Bool.not_true, Bool.not_false, oneOf_one, oneOf_two, again_normal, again_exit, again_ret, Bool.and_true, plV_cells, ← hH0, l11, g1, l11', g2, c1, c2, hz, hz1, Bool.false_and, Bool.true_and], (x0.tr x1).tr x2⟩
      | true =>
          cases c3 : decide ((p.weights.length : Int) = p.lanes) with
          | false => exact ⟨H2, by simp -implicitDefEqProofs only [r_opt, r_ret, ob_some, ifB_true, iteV_true, iteV_false, r_gdt, r_gdt2, r_gdtf, r_gdtf2, r_gdff, r_gdff2, r_gdft, r_gdft2, r_gdu, r_gdu2, pick_t, pick_f, ext_0, ext_1, x_newB, r_nil, r_fAddr, Nat.zero_add, b_lss, b_leq, b_gtr, b_geq, b_eql, b_neq, u_not, Bool.not_true, Bool.not_false, oneOf_one, oneOf_two, again_normal, again_exit, again_ret, Bool.and_true, plV_cells, ← hH0, l11, g1, l11', g2, w2, wl, la2, hn1, c1, c2, c3, hz, hz1, Bool.false_and, Bool.true_and], (x0.tr x1).tr x2⟩
          | true =>
              cases c4 : wOk p.weights with
              | false => exact ⟨H3, by simp -implicitDefEqProofs only [r_opt, r_ret, ob_some, ifB_true, iteV_true, iteV_false, r_gdt, r_gdt2, r_gdtf, r_gdtf2, r_gdff, r_gdff2, r_gdft, r_gdft2, r_gdu, r_gdu2, pick_t, pick_f, ext_0, ext_1, x_newB, r_nil, r_fAddr, Nat.zero_add, b_lss, b_leq, b_gtr, b_geq, b_eql, b_neq, u_not, Bool.not_true, Bool.not_false, oneOf_one, oneOf_two, again_normal, again_exit, again_ret, Bool.and_true, plV_cells, ← hH0, l11, g1, l11', g2, w2, wl, la2, hn1, g3, g4, c1, c2, c3, c4, hz, hz1, Bool.false_and, Bool.true_and], ((x0.tr x1).tr x2).tr x3⟩
              | true =>
                  cases c5 : decide ((p.next.length : Int) = p.nodes) with
                  | false => exact ⟨H3, by simp -implicitDefEqProofs only [r_opt, r_ret, ob_some, ifB_true, iteV_true, iteV_false, r_gdt, r_gdt2, r_gdtf, r_gdtf2, r_gdff, r_gdff2, r_gdft, r_gdft2, r_gdu, r_gdu2, pick_t, pick_f, ext_0, ext_1, x_newB, r_nil, r_fAddr, Nat.zero_add, b_lss, b_leq, b_gtr, b_geq, b_eql, b_neq, u_not, Bool.not_true, Bool.not_false, oneOf_one, oneOf_two, again_normal, again_exit, again_ret, Bool.and_true, plV_cells, ← hH0, l11, g1, l11', g2, w2, wl, la2, hn1, g3, g4, n3, nl, no3, hn2, c1, c2, c3, c4, c5, hz, hz1, Bool.false_and, Bool.true_and], ((x0.tr x1).tr x2).tr x3⟩
                  | true =>
                      cases c6 : rowsOk p with
                      | false => exact ⟨H3, by simp -implicitDefEqProofs only [r_opt, r_ret, ob_some, ifB_true, iteV_true, iteV_false, r_gdt, r_gdt2, r_gdtf, r_gdtf2, r_gdff, r_gdff2, r_gdft, r_gdft2, r_gdu, r_gdu2, pick_t, pick_f, ext_0, ext_1, x_newB, r_nil, r_fAddr, Nat.zero_add, b_lss, b_leq, b_gtr, b_geq, b_eql, b_neq, u_not, Bool.not_true, Bool.not_false, oneOf_one, oneOf_two, again_normal, again_exit, again_ret, Bool.and_true, plV_cells, ← hH0, l11, g1, l11', g2, w2, wl, la2, hn1, g3, g4, n3, nl, no3, hn2, hcf, c1, c2, c3, c4, c5, c6, hz, hz1, Bool.false_and, Bool.true_and], ((x0.tr x1).tr x2).tr x3⟩
                      | true =>
                          exact ⟨H3, by simp -implicitDefEqProofs only [r_opt, r_ret, ob_some, ifB_true, iteV_true, iteV_false, r_gdt, r_gdt2, r_gdtf, r_gdtf2, r_gdff, r_gdff2, r_gdft, r_gdft2, r_gdu, r_gdu2, pick_t, pick_f, ext_0, ext_1, x_newB, r_nil, r_fAddr, Nat.zero_add, b_lss, b_leq, b_gtr, b_geq, b_eql, b_neq, u_not, Bool.not_true, Bool.not_false, oneOf_one, oneOf_two, again_normal, again_exit, again_ret, Bool.and_true, plV_cells, ← hH0, l11, g1, l11', g2, w2, wl, la2, hn1, g3, g4, n3, nl, no3, hn2, hcf, c1, c2, c3, c4, c5, c6, hz, hz1, Bool.false_and, Bool.true_and], ((x0.tr x1).tr x2).tr x3⟩
end
end Go.Proofs.Ytdobnaldfmpimaa

set_option linter.unusedSectionVars false
set_option linter.unusedSimpArgs false
set_option linter.unusedVariables false
set_option maxRecDepth 100000
namespace Go.Proofs.Ytdobnaldfmpimaa
open Go.Abs
def dd : List Int → List Int
  | [] => []
  | [x] => [x]
  | x :: y :: r => if x = y then dd (y :: r) else x :: dd (y :: r)
theorem dd_snoc : ∀ (l : List Int) (a b : Int), dd (l ++ [a, b]) = if a = b then dd (l ++ [a]) else dd (l ++ [a]) ++ [b]
  | [], a, b => by
    by_cases h : a = b <;> simp [dd, h]
  | [x], a, b => by
    by_cases h : a = b <;> by_cases h2 : x = a <;> simp [dd, h, h2] <;> simp_all
  | x :: y :: l, a, b => by
    have ih := dd_snoc (y :: l) a b
    simp only [List.cons_append] at ih ⊢
    simp only [dd]
    by_cases h2 : x = y
    · rw [if_pos h2, if_pos h2, ih]
    · rw [if_neg h2, if_neg h2, ih]
      by_cases h : a = b
      · rw [if_pos h, if_pos h]
      · rw [if_neg h, if_neg h]
        rfl
theorem dd_take {zs : List Int} {j : Nat} {a b : Int} (h0 : 0 < j) (ha : zs[j - 1]? = some a) (hb : zs[j]? = some b) : dd (zs.take (j + 1)) = if b = a then dd (zs.take j) else dd (zs.take j) ++ [b] := by
  have e1 : zs.take j = zs.take (j - 1) ++ [a] := by
    have := List.take_add_one (l := zs) (i := j - 1)
    rw [ha, show j - 1 + 1 = j by omega] at this
    simpa using this
  have e2 : zs.take (j + 1) = zs.take (j - 1) ++ [a, b] := by
    rw [List.take_add_one, hb, e1]
    simp
  rw [e2, dd_snoc, ← e1]
  by_cases h : a = b
  · rw [if_pos h, if_pos h.symm]
  · rw [if_neg h, if_neg (Ne.symm h)]
theorem dd_le : ∀ l : List Int, (dd l).length ≤ l.length
  | [] => Nat.le_refl _
  | [x] => Nat.le_refl _
  | x :: y :: r => by
    have := dd_le (y :: r)
    unfold dd
    split
    · simp only [List.length_cons] at *; omega
    · simp only [List.length_cons] at *; omega
section
variable {H : Heap} {m c cap : Nat} {ys rest : List Value}
theorem ia {o n i : Nat} (h : i < n) : iAddr 1 (.slice (some ⟨c, o, none⟩) n cap) (.int .i64 (i : Nat)) = some (.pointer (some ⟨c, o + i, none⟩)) := by
  rw [r_iAddr _ _ _ _ _ _ _ (by omega) (by omega)]
  simp
def rowB (ys : List Int) (rest : List Value) : Blk := .cells (ys.map (Value.int .i64) ++ rest) 3 .row
theorem rd_row {ys : List Int} {i : Nat} {y : Int} (hc : H[c]? = some (rowB ys rest)) (hi : ys[i]? = some y) : ld1 (.pointer (some ⟨c, i, none⟩)) H = some (.int .i64 y, H) := by
  have := (List.getElem?_eq_some_iff.mp hi).1
  rw [x_ld1, hc]
  unfold rowB
  rw [x_ldC, List.getElem?_append_left (by rw [List.length_map]; exact this), List.getElem?_map, hi]
  rfl
theorem st_row {ys : List Int} {i : Nat} (y : Int) (hc : H[c]? = some (rowB ys rest)) (hi : i < ys.length) : stN 1 (.pointer (some ⟨c, i, none⟩)) (.int .i64 y) H = some (undef, H.set c (rowB (ys.set i y) rest)) := by
  rw [x_stN 1 _ _ _ rfl, hc]
  unfold rowB
  have e : (Value.int .i64 y).cells.toList = [.int .i64 y] := rfl
  rw [e, x_stC _ _ _ _ _ _ (by decide) (by simp; omega) rfl]
  congr 3
  simp only [setCells]
  rw [List.set_append_left _ _ (by rw [List.length_map]; exact hi), ← List.map_set]
theorem compact_end {zs ys : List Int} {k : Nat} (hc : H[c]? = some (rowB ys rest)) (hy : ys.length = zs.length) (hk : k < zs.length) (hcap : zs.length ≤ cap) (hrest : rest.length = cap - zs.length) (hd : ys.take k = dd zs) :
    ∃ w H', slc Try.prog 1 (.slice (some ⟨c, 0, none⟩) zs.length cap) (some (.int .i64 (k : Nat))) none none H = some (w, H) ∧ clr 1 [.int .i64 0] w H = some (.tuple #[], H') ∧
      slc Try.prog 1 (.slice (some ⟨c, 0, none⟩) zs.length cap) none (some (.int .i64 (k : Nat))) none H' = some (.slice (some ⟨c, 0, none⟩) k cap, H') ∧ Iw H' (.slice (some ⟨c, 0, none⟩) k cap) (dd zs) ∧ H'.length = H.length ∧ ∀ b, b ≠ c → H'[b]? = H[b]? := by
  have hlt := (List.getElem?_eq_some_iff.mp hc).1
  have g1 := slc_is (P := Try.prog) (H := H) (o := 0) (sz := 1) (len := zs.length) (cap := cap) (lo := some (.int .i64 (k : Nat))) (hi := none) (mx := none) (h := zs.length) (m := cap) (l := k) hc (fun _ => szI) (bnd_nat 0 .i64 k) rfl rfl (by omega) (by omega) (Nat.le_refl _)
  rw [Nat.zero_add, Nat.mul_one] at g1
  obtain ⟨H', hH'⟩ : ∃ H', H' = H.set c (rowB (ys.take k) ((List.replicate (zs.length - k) [Value.int .i64 0]).flatten ++ rest)) := ⟨_, rfl⟩
  have hc' : H'[c]? = some (rowB (ys.take k) ((List.replicate (zs.length - k) [Value.int .i64 0]).flatten ++ rest)) := by rw [hH']; exact List.getElem?_set_self hlt
  have hyk : (ys.take k).length = k := by rw [List.length_take]; omega
  have g2 : clr 1 [.int .i64 0] (.slice (some ⟨c, k, none⟩) (zs.length - k) (cap - k)) H = some (.tuple #[], H') := by
    unfold clr
    simp only
    rw [if_neg (by omega), hc]
    unfold rowB
    simp only
    rw [if_pos ⟨by decide, by simp; omega, rfl, rfl⟩, hH']
    congr 3
    unfold rowB
    congr 1
    have hsplit : ys.map (Value.int .i64) = (ys.take k).map (Value.int .i64) ++ (ys.drop k).map (Value.int .i64) := by rw [← List.map_append, List.take_append_drop]
    have hl : ((List.replicate (zs.length - k) [Value.int .i64 0]).flatten).length = zs.length - k := by simp
    rw [hsplit]
    have := setCells_mid ((List.replicate (zs.length - k) [Value.int .i64 0]).flatten) ((ys.drop k).map (Value.int .i64)) ((ys.take k).map (Value.int .i64)) rest (by rw [hl, List.length_map, List.length_drop]; omega)
    rw [List.length_map, hyk] at this
    rw [this, List.append_assoc]
  have g3 := slc_is (P := Try.prog) (H := H') (o := 0) (sz := 1) (len := zs.length) (cap := cap) (lo := none) (hi := some (.int .i64 (k : Nat))) (mx := none) (h := k) (m := cap) (l := 0) hc' (fun _ => szI) rfl (bnd_nat _ .i64 k) rfl (by omega) (by omega) (Nat.le_refl _)
  rw [Nat.zero_mul, Nat.zero_add, Nat.sub_zero, Nat.sub_zero] at g3
  refine ⟨_, H', g1, g2, g3, ?_, by rw [hH']; simp, fun b hb => by rw [hH']; exact List.getElem?_set_ne (Ne.symm hb)⟩
  have hdl : (dd zs).length = k := by rw [← hd, hyk]
  refine ⟨by rw [inC_flat, List.length_map, Nat.mul_one], .inr ⟨c, cap, (List.replicate (zs.length - k) [Value.int .i64 0]).flatten ++ rest, by rw [hdl], by omega, ?_, by rw [inC_flat, hc', hd]; rfl⟩⟩
  simp [hdl]
  omega
def Comp (H0 : Heap) (c cap : Nat) (zs : List Int) (v : Value) (H' : Heap) : Prop := Iw H' v (dd zs) ∧ (∀ b, home v b → b = c) ∧ H'.length = H0.length ∧ ∀ b, b ≠ c → H'[b]? = H0[b]?
theorem compact_loop1 {zs : List Int} {rest : List Value} {k0 kk : Nat} {H0 : Heap} {Q : Heap → Value → Prop} (hQ : ∀ H' v, Comp H0 c cap zs v H' → Q H' v) (hcap : zs.length ≤ cap) (hrest : rest.length = cap - zs.length) (hn : zs.length ≤ 72057594037927936) (h1 : 1 ≤ k0) :
    ∀ (q j t k : Nat) (H : Heap) (ys : List Int), zs.length - j = q → j ≤ zs.length → q < k → k0 < j → t < j → H[c]? = some (rowB ys rest) → ys.length = zs.length → ys.take t = dd (zs.take j) → ys.drop t = zs.drop t → H.length = H0.length → (∀ b, b ≠ c → H[b]? = H0[b]?) → ∀ (x1 x2 x6 x7 x8 x9 x10 x11 x12 x13 x14 x15 x16 x17 x18 x19 x20 x21 x22 x23 x24 x25 x26 x27 x28 x29 x30 x31 x32 x33 x34 x35 x36 x37 x38 x39 x40 x41 x42 x43 x44 x45 x46 x47 x48 x49 x50 x51 x52 x53 x54 x55 x56 x57 x58 x59 x60 : Value),
    ∃ H' v, loopN k (runCode Try.prog (lvl Try.prog pk12 m) (loopN m) f45_c1) (f45_k1 (lvl Try.prog pk12 m) (loopN m) (again kk (runCode Try.prog (lvl Try.prog pk12 m) (loopN m) f45_c0) (f45_k0 (lvl Try.prog pk12 m) (loopN m)))) [(.slice (some ⟨c, 0, none⟩) zs.length cap), x1, x2, (.int .i64 (t : Nat)), (.slice (some ⟨c, k0, none⟩) (zs.length - k0) (cap - k0)), (.int .i64 (j - k0 : Nat)), x6, x7, x8, x9, x10, x11, x12, x13, x14, x15, x16, x17, x18, x19, x20, x21, x22, x23, x24, x25, x26, x27, x28, x29, x30, x31, x32, x33, x34, x35, x36, x37, x38, x39, x40, x41, x42, x43, x44, x45, x46, x47, x48, x49, x50, x51, x52, x53, x54, x55, x56, x57, x58, x59, x60] H = some (v, H') ∧ Q H' v := by
  intro q
  induction q with
  | zero =>
    intro j t k H ys hr hj hk hkj htj hc hy hd hdr hl hf
    intros
    obtain ⟨k, rfl⟩ : ∃ n, k = n + 1 := ⟨k - 1, by omega⟩
    obtain rfl : j = zs.length := by omega
    rw [List.take_of_length_le (Nat.le_refl _)] at hd
    obtain ⟨w, H', g1, g2, g3, g4, g5, g6⟩ := compact_end hc hy htj hcap hrest hd
    have e : decide (((zs.length - k0 : Nat) : Int) < (zs.length - k0 : Nat)) = false := by simp
    refine ⟨H', .slice (some ⟨c, 0, none⟩) t cap, ?_, hQ _ _ ⟨g4, fun b ⟨_, _, _, h⟩ => by cases h; rfl, by omega, fun b hb => by rw [g6 b hb, hf b hb]⟩⟩
    rw [loop_succ, f45_b1_eq]
    unfold f45_b1
    simp -implicitDefEqProofs only [r_opt, r_ret, ob_some, ifB_true, iteV_true, iteV_false, r_gdt, r_gdt2, r_gdtf, r_gdtf2, r_gdff, r_gdff2, r_gdft, r_gdft2, r_gdu, r_gdu2, pick_t, pick_f, ext_0, ext_1, x_newB, r_nil, r_fAddr, Nat.zero_add, b_lss, b_leq, b_gtr, b_geq, b_eql, b_neq, u_not, Bool.not_true, Bool.not_false, oneOf_one, oneOf_two, again_normal, again_exit, again_ret, Bool.and_true, r_lenSl, e]
    rw [f45_e1_2_eq]
    unfold f45_e1_2
    simp -implicitDefEqProofs only [r_opt, r_ret, ob_some, ifB_true, iteV_true, iteV_false, r_gdt, r_gdt2, r_gdtf, r_gdtf2, r_gdff, r_gdff2, r_gdft, r_gdft2, r_gdu, r_gdu2, pick_t, pick_f, ext_0, ext_1, x_newB, r_nil, r_fAddr, Nat.zero_add, b_lss, b_leq, b_gtr, b_geq, b_eql, b_neq, u_not, Bool.not_true, Bool.not_false, oneOf_one, oneOf_two, again_normal, again_exit, again_ret, Bool.and_true, g1, g2, g3]
    rw [f45_r0_eq]
    rfl
  | succ q ih =>
    intro j t k H ys hr hj hk hkj htj hc hy hd hdr hl hf
    intros
    obtain ⟨k, rfl⟩ : ∃ n, k = n + 1 := ⟨k - 1, by omega⟩
    have e : decide (((j - k0 : Nat) : Int) < (zs.length - k0 : Nat)) = true := by simp; omega
    have e3 : IntKind.i64.wrap (((j - k0 : Nat) : Int) + 1) = ((j + 1 - k0 : Nat) : Int) := by rw [wrap_i64 (by omega) (by omega)]; omega
    have e4 : IntKind.i64.wrap (((j - k0 : Nat) : Int) - 1) = ((j - 1 - k0 : Nat) : Int) := by rw [wrap_i64 (by omega) (by omega)]; omega
    have e5 : IntKind.i64.wrap ((t : Int) + 1) = ((t + 1 : Nat) : Int) := by rw [wrap_i64 (by omega) (by omega)]; omega
    have get : ∀ i, t ≤ i → ys[i]? = zs[i]? := fun i hi => by
      have := congrArg (·[i - t]?) hdr
      simp only [List.getElem?_drop] at this
      rwa [show t + (i - t) = i by omega] at this
    have ga : ys[j - 1]? = some (zs[j - 1]'(by omega)) := by rw [get _ (by omega)]; exact List.getElem?_eq_getElem (by omega)
    have gb : ys[j]? = some (zs[j]'(by omega)) := by rw [get _ (by omega)]; exact List.getElem?_eq_getElem (by omega)
    have i1 : iAddr 1 (.slice (some ⟨c, k0, none⟩) (zs.length - k0) (cap - k0)) (.int .i64 (j - k0 : Nat)) = some (.pointer (some ⟨c, j, none⟩)) := by rw [ia (by omega), show k0 + (j - k0) = j by omega]
    have i2 : iAddr 1 (.slice (some ⟨c, k0, none⟩) (zs.length - k0) (cap - k0)) (.int .i64 (j - 1 - k0 : Nat)) = some (.pointer (some ⟨c, j - 1, none⟩)) := by rw [ia (by omega), show k0 + (j - 1 - k0) = j - 1 by omega]
    have i3 : iAddr 1 (.slice (some ⟨c, 0, none⟩) zs.length cap) (.int .i64 (t : Nat)) = some (.pointer (some ⟨c, t, none⟩)) := by rw [ia (by omega), Nat.zero_add]
    have l1 := rd_row hc gb
    have l2 := rd_row hc ga
    have s1 := st_row (i := t) (zs[j]'(by omega)) hc (by omega)
    have hdt := dd_take (zs := zs) (j := j) (by omega) (List.getElem?_eq_getElem (show j - 1 < zs.length by omega)) (List.getElem?_eq_getElem (show j < zs.length by omega))
    rw [loop_succ, f45_b1_eq]
    unfold f45_b1
    by_cases hx : zs[j]'(by omega) = zs[j - 1]'(by omega)
    · have d : ((zs[j]'(by omega)) != (zs[j - 1]'(by omega))) = false := by simp [hx]
      rw [if_pos hx] at hdt
      simp -implicitDefEqProofs only [r_opt, r_ret, ob_some, ifB_true, iteV_true, iteV_false, r_gdt, r_gdt2, r_gdtf, r_gdtf2, r_gdff, r_gdff2, r_gdft, r_gdft2, r_gdu, r_gdu2, pick_t, pick_f, ext_0, ext_1, x_newB, r_nil, r_fAddr, Nat.zero_add, b_lss, b_leq, b_gtr, b_geq, b_eql, b_neq, u_not, Bool.not_true, Bool.not_false, oneOf_one, oneOf_two, again_normal, again_exit, again_ret, Bool.and_true, r_lenSl, e, i1, l1, b_sub, e4, i2, l2, d, b_add, e3]
      exact ih (j + 1) t k H ys (by omega) (by omega) (by omega) (by omega) (by omega) hc hy (by rw [hdt]; exact hd) hdr hl hf ..
    · have d : ((zs[j]'(by omega)) != (zs[j - 1]'(by omega))) = true := by simp [hx]
      rw [if_neg hx] at hdt
      simp -implicitDefEqProofs only [r_opt, r_ret, ob_some, ifB_true, iteV_true, iteV_false, r_gdt, r_gdt2, r_gdtf, r_gdtf2, r_gdff, r_gdff2, r_gdft, r_gdft2, r_gdu, r_gdu2, pick_t, pick_f, ext_0, ext_1, x_newB, r_nil, r_fAddr, Nat.zero_add, b_lss, b_leq, b_gtr, b_geq, b_eql, b_neq, u_not, Bool.not_true, Bool.not_false, oneOf_one, oneOf_two, again_normal, again_exit, again_ret, Bool.and_true, r_lenSl, e, i1, l1, b_sub, e4, i2, l2, d, i3, s1, b_add, e3, e5]
      refine ih (j + 1) (t + 1) k _ (ys.set t (zs[j]'(by omega))) (by omega) (by omega) (by omega) (by omega) (by omega) (List.getElem?_set_self (List.getElem?_eq_some_iff.mp hc).1) (by rw [List.length_set]; exact hy) ?_ ?_ (by rw [List.length_set]; exact hl) (fun b hb => by rw [List.getElem?_set_ne (Ne.symm hb)]; exact hf b hb) ..
      · rw [hdt, ← hd, List.take_add_one, List.getElem?_set_self (by omega), List.take_set_of_le (Nat.le_refl _)]
        rfl
      · rw [List.drop_set_of_lt (by omega), ← List.drop_drop (i := 1), hdr, List.drop_drop]
theorem compact_loop0 {zs : List Int} {rest : List Value} {Q : Heap → Value → Prop} (hQ : ∀ H' v, Comp H c cap zs v H' → Q H' v) (hcap : zs.length ≤ cap) (hrest : rest.length = cap - zs.length) (hn : zs.length + 10 < m) (hm : m ≤ 72057594037927936) (hc : H[c]? = some (rowB zs rest)) :
    ∀ (q j k : Nat), zs.length - j = q → 1 ≤ j → j ≤ zs.length → q < k → dd (zs.take j) = zs.take j → ∀ (x1 x2 x4 x5 x6 x7 x8 x9 x10 x11 x12 x13 x14 x15 x16 x17 x18 x19 x20 x21 x22 x23 x24 x25 x26 x27 x28 x29 x30 x31 x32 x33 x34 x35 x36 x37 x38 x39 x40 x41 x42 x43 x44 x45 x46 x47 x48 x49 x50 x51 x52 x53 x54 x55 x56 x57 x58 x59 x60 : Value),
    ∃ H' v, loopN k (runCode Try.prog (lvl Try.prog pk12 m) (loopN m) f45_c0) (f45_k0 (lvl Try.prog pk12 m) (loopN m)) [(.slice (some ⟨c, 0, none⟩) zs.length cap), x1, x2, (.int .i64 (j : Nat)), x4, x5, x6, x7, x8, x9, x10, x11, x12, x13, x14, x15, x16, x17, x18, x19, x20, x21, x22, x23, x24, x25, x26, x27, x28, x29, x30, x31, x32, x33, x34, x35, x36, x37, x38, x39, x40, x41, x42, x43, x44, x45, x46, x47, x48, x49, x50, x51, x52, x53, x54, x55, x56, x57, x58, x59, x60] H = some (v, H') ∧ Q H' v := by
  intro q
  induction q with
  | zero =>
    intro j k hr h1 hj hk hd
    intros
    obtain ⟨k, rfl⟩ : ∃ n, k = n + 1 := ⟨k - 1, by omega⟩
    obtain rfl : j = zs.length := by omega
    rw [List.take_of_length_le (Nat.le_refl _)] at hd
    have e : decide ((zs.length : Int) < zs.length) = false := by simp
    refine ⟨H, .slice (some ⟨c, 0, none⟩) zs.length cap, ?_, hQ _ _ ⟨?_, fun b ⟨_, _, _, h⟩ => by cases h; rfl, rfl, fun b hb => rfl⟩⟩
    · rw [loop_succ, f45_b0_eq]
      unfold f45_b0
      simp -implicitDefEqProofs only [r_opt, r_ret, ob_some, ifB_true, iteV_true, iteV_false, r_gdt, r_gdt2, r_gdtf, r_gdtf2, r_gdff, r_gdff2, r_gdft, r_gdft2, r_gdu, r_gdu2, pick_t, pick_f, ext_0, ext_1, x_newB, r_nil, r_fAddr, Nat.zero_add, b_lss, b_leq, b_gtr, b_geq, b_eql, b_neq, u_not, Bool.not_true, Bool.not_false, oneOf_one, oneOf_two, again_normal, again_exit, again_ret, Bool.and_true, r_lenSl, e]
      rw [f45_e0_0_eq]
      rfl
    · rw [hd]
      exact ⟨by rw [inC_flat, List.length_map, Nat.mul_one], .inr ⟨c, cap, rest, rfl, hcap, by rw [hrest, Nat.mul_one], by rw [inC_flat, hc]; rfl⟩⟩
  | succ q ih =>
    intro j k hr h1 hj hk hd
    intros
    obtain ⟨k, rfl⟩ : ∃ n, k = n + 1 := ⟨k - 1, by omega⟩
    have e : decide ((j : Int) < zs.length) = true := by simp; omega
    have e3 : IntKind.i64.wrap ((j : Int) + 1) = ((j + 1 : Nat) : Int) := by rw [wrap_i64 (by omega) (by omega)]; omega
    have e4 : IntKind.i64.wrap ((j : Int) - 1) = ((j - 1 : Nat) : Int) := by rw [wrap_i64 (by omega) (by omega)]; omega
    have i1 : iAddr 1 (.slice (some ⟨c, 0, none⟩) zs.length cap) (.int .i64 (j : Nat)) = some (.pointer (some ⟨c, j, none⟩)) := by rw [ia (by omega), Nat.zero_add]
    have i2 : iAddr 1 (.slice (some ⟨c, 0, none⟩) zs.length cap) (.int .i64 (j - 1 : Nat)) = some (.pointer (some ⟨c, j - 1, none⟩)) := by rw [ia (by omega), Nat.zero_add]
    have ga : zs[j - 1]? = some (zs[j - 1]'(by omega)) := List.getElem?_eq_getElem (by omega)
    have gb : zs[j]? = some (zs[j]'(by omega)) := List.getElem?_eq_getElem (by omega)
    have l1 := rd_row hc gb
    have l2 := rd_row hc ga
    have hdt := dd_take (zs := zs) (j := j) (by omega) ga gb
    rw [loop_succ, f45_b0_eq]
    unfold f45_b0
    by_cases hx : zs[j]'(by omega) = zs[j - 1]'(by omega)
    · have d : ((zs[j]'(by omega)) == (zs[j - 1]'(by omega))) = true := by simp [hx]
      have g1 := slc_is (P := Try.prog) (H := H) (o := 0) (sz := 1) (len := zs.length) (cap := cap) (lo := some (.int .i64 (j : Nat))) (hi := none) (mx := none) (h := zs.length) (m := cap) (l := j) hc (fun _ => szI) (bnd_nat 0 .i64 j) rfl rfl (by omega) (by omega) (Nat.le_refl _)
      rw [Nat.zero_add, Nat.mul_one] at g1
      rw [if_pos hx] at hdt
      have e1 : (1 : Int) = ((j + 1 - j : Nat) : Int) := by omega
      simp -implicitDefEqProofs only [r_opt, r_ret, ob_some, ifB_true, iteV_true, iteV_false, r_gdt, r_gdt2, r_gdtf, r_gdtf2, r_gdff, r_gdff2, r_gdft, r_gdft2, r_gdu, r_gdu2, pick_t, pick_f, ext_0, ext_1, x_newB, r_nil, r_fAddr, Nat.zero_add, b_lss, b_leq, b_gtr, b_geq, b_eql, b_neq, u_not, Bool.not_true, Bool.not_false, oneOf_one, oneOf_two, again_normal, again_exit, again_ret, Bool.and_true, r_lenSl, e, i1, l1, b_sub, e4, i2, l2, d, g1]
      have := compact_loop1 (m := m) (kk := k) (H0 := H) (cap := cap) (c := c) (k0 := j) hQ hcap hrest (by omega) h1 (zs.length - (j + 1)) (j + 1) j m H zs rfl (by omega) (by omega) (by omega) (by omega) hc rfl (by rw [hdt, hd]) rfl rfl (fun _ _ => rfl)
      rw [← e1] at this
      exact this ..
    · have d : ((zs[j]'(by omega)) == (zs[j - 1]'(by omega))) = false := by simp [hx]
      rw [if_neg hx] at hdt
      simp -implicitDefEqProofs only [r_opt, r_ret, ob_some, ifB_true, iteV_true, iteV_false, r_gdt, r_gdt2, r_gdtf, r_gdtf2, r_gdff, r_gdff2, r_gdft, r_gdft2, r_gdu, r_gdu2, pick_t, pick_f, ext_0, ext_1, x_newB, r_nil, r_fAddr, Nat.zero_add, b_lss, b_leq, b_gtr, b_geq, b_eql, b_neq, u_not, Bool.not_true, Bool.not_false, oneOf_one, oneOf_two, again_normal, again_exit, again_ret, Bool.and_true, r_lenSl, e, i1, l1, b_sub, e4, i2, l2, d, b_add, e3]
      exact ih (j + 1) k (by omega) (by omega) (by omega) (by omega) (by rw [hdt, hd, List.take_add_one, gb]; rfl) ..
theorem compact_is {v : Value} {zs : List Int} {H0 : Heap} (hv : Iw H v zs) (hnew : New H0 v) (he : Ext H0 H) (hn : zs.length + 20 < m) (hm : m ≤ 72057594037927936) : ∃ H' u, lvl Try.prog pk12 m (.func 45) [v] H = some (u, H') ∧ Ext H0 H' ∧ Iw H' u (dd zs) ∧ New H0 u := by
  have hlen := hv.len
  refine lvl_ex (pk_no rfl rfl) (by omega) ?_
  rw [f45_eq]
  unfold f45
  by_cases h2 : zs.length < 2
  · have e : decide ((zs.length : Int) < 2) = true := by simp; omega
    have hd : dd zs = zs := by
      match zs, h2 with
      | [], _ => rfl
      | [x], _ => rfl
      | x :: y :: r, h => exact absurd h (by simp only [List.length_cons]; omega)
    refine ⟨H, v, ?_, he, by rw [hd]; exact hv, hnew⟩
    simp -implicitDefEqProofs only [r_opt, r_ret, ob_some, ifB_true, iteV_true, iteV_false, r_gdt, r_gdt2, r_gdtf, r_gdtf2, r_gdff, r_gdff2, r_gdft, r_gdft2, r_gdu, r_gdu2, pick_t, pick_f, ext_0, ext_1, x_newB, r_nil, r_fAddr, Nat.zero_add, b_lss, b_leq, b_gtr, b_geq, b_eql, b_neq, u_not, Bool.not_true, Bool.not_false, oneOf_one, oneOf_two, again_normal, again_exit, again_ret, Bool.and_true, hlen, e]
  · have e : decide ((zs.length : Int) < 2) = false := by simp; omega
    obtain ⟨hcs, ⟨rfl, h0⟩ | ⟨c, cap, rest, rfl, h1, h2', h3⟩⟩ := hv
    · omega
    · rw [inC_flat] at h3
      rw [Nat.mul_one] at h2'
      have hcl := hnew c ⟨_, _, _, rfl⟩
      simp -implicitDefEqProofs only [r_opt, r_ret, ob_some, ifB_true, iteV_true, iteV_false, r_gdt, r_gdt2, r_gdtf, r_gdtf2, r_gdff, r_gdff2, r_gdft, r_gdft2, r_gdu, r_gdu2, pick_t, pick_f, ext_0, ext_1, x_newB, r_nil, r_fAddr, Nat.zero_add, b_lss, b_leq, b_gtr, b_geq, b_eql, b_neq, u_not, Bool.not_true, Bool.not_false, oneOf_one, oneOf_two, again_normal, again_exit, again_ret, Bool.and_true, hlen, e]
      have hd1 : dd (zs.take 1) = zs.take 1 := by
        match zs with
        | [] => rfl
        | x :: r => rfl
      refine compact_loop0 (fun H' u hC => ?_) h1 h2' (by omega) (by omega) h3 (zs.length - 1) 1 (m - 1) rfl (Nat.le_refl _) (by omega) (by omega) hd1 ..
      obtain ⟨g2, g3, g4, g5⟩ := hC
      refine ⟨⟨by rw [g4]; exact he.1, fun b hb _ => ?_⟩, g2, fun b hb => by rw [g3 b hb]; exact hcl⟩
      rw [g5 b (by omega), he.2 b hb id]
end
def candE (v : Int) (e : Ed) : List Int := if e.1 = e.2 then [] else if e.1 = v then [e.2] else if e.2 = v then [e.1] else []
def cand (es : List Ed) (v : Int) : List Int := es.flatMap (candE v)
def bes (es : List Ed) (v : Int) : List Int := dd (srt (cand es v))
theorem cand_le (v : Int) : ∀ es : List Ed, (cand es v).length ≤ es.length
  | [] => Nat.le_refl _
  | e :: es => by
    have := cand_le v es
    unfold cand at *
    rw [List.flatMap_cons, List.length_append]
    have h1 : (candE v e).length ≤ 1 := by
      unfold candE
      split
      · simp
      · split
        · simp
        · split <;> simp
    simp only [List.length_cons]
    omega
theorem cand_take {es : List Ed} {i : Nat} {e : Ed} (v : Int) (h : es[i]? = some e) : cand (es.take (i + 1)) v = cand (es.take i) v ++ candE v e := by
  unfold cand
  rw [List.take_add_one, h]
  simp
theorem bldI (H : Heap) (k : Int) : bldSlice 3 1 1 [.int .i64 0] [(0, .int .i64 k)] H = some (.slice (some ⟨H.length, 0, none⟩) 1 1, H ++ [.cells (inC k) 3 .row]) := rfl
theorem zEd : Blk.cells [Value.int .i64 0, .int .i64 0] 33 .fix = .cells (edC (0, 0)) 33 .fix := rfl
def edB (y : Ed) : Blk := .cells (edC y) 33 .fix
theorem st_ed (y : Ed) (H : Heap) : stN 2 (.pointer (some ⟨H.length, 0, none⟩)) (edV y) (H ++ [.cells (edC (0, 0)) 33 .fix]) = some (undef, H ++ [edB y]) := by
  rw [x_stN 2 _ _ _ rfl, at_last, x_stC _ _ _ _ _ _ (by decide) (by simp [edC, edV, Value.cells]) rfl]
  simp [edC, edV, Value.cells, setCells, edB]
theorem ld_ed0 {H : Heap} {b : Nat} {y : Ed} (h : H[b]? = some (edB y)) : ld1 (.pointer (some ⟨b, 0, none⟩)) H = some (.int .i64 y.1, H) := by rw [x_ld1, h]; rfl
theorem ld_ed1 {H : Heap} {b : Nat} {y : Ed} (h : H[b]? = some (edB y)) : ld1 (.pointer (some ⟨b, 1, none⟩)) H = some (.int .i64 y.2, H) := by rw [x_ld1, h]; rfl
section
variable {H : Heap} {m : Nat} {p : PlanD} {ev wv nv : Value}
theorem beside_loop {v : Int} {Q : Heap → Value → Prop} (hQ : ∀ H' u, Ext H H' → Iw H' u (bes p.edges v) → New H u → Q H' u) (hx : Es H ev p.edges) (hL : p.edges.length ≤ 17592186043000) (hn : p.edges.length + 30 < m) (hm : m ≤ 72057594037927936) : ∀ (q i k : Nat) (H1 : Heap) (acc : Value), p.edges.length - i = q → i ≤ p.edges.length → q < k → Ext H H1 → Iw H1 acc (cand (p.edges.take i) v) → New H acc → ∀ (x0 x2 x3 x4 x6 x7 x8 x12 x13 x14 x15 x16 x17 x18 x19 x20 x21 x22 x23 x24 x25 x26 x27 x28 x29 x30 x31 x32 x33 x34 x35 x36 x37 x38 x39 x40 x41 x42 x43 x44 x45 : Value),
    ∃ H' u, loopN k (runCode Try.prog (lvl Try.prog pk12 m) (loopN m) f22_c0) (f22_k0 (lvl Try.prog pk12 m) (loopN m)) [x0, (.int .i64 v), x2, x3, x4, acc, x6, x7, x8, ev, (.int .i64 p.edges.length), (.int .i64 (i : Nat)), x12, x13, x14, x15, x16, x17, x18, x19, x20, x21, x22, x23, x24, x25, x26, x27, x28, x29, x30, x31, x32, x33, x34, x35, x36, x37, x38, x39, x40, x41, x42, x43, x44, x45] H1 = some (u, H') ∧ Q H' u := by
  intro q
  induction q with
  | zero =>
    intro i k H1 acc hr hi hk he ha hnew
    intros
    obtain ⟨k, rfl⟩ : ∃ n, k = n + 1 := ⟨k - 1, by omega⟩
    obtain rfl : i = p.edges.length := by omega
    have e : decide ((p.edges.length : Int) < p.edges.length) = false := by simp
    rw [List.take_of_length_le (Nat.le_refl _)] at ha
    have hcl := cand_le v p.edges
    obtain ⟨H2, g1, g2, g3⟩ := sort_rw ha (by omega) hnew he
    have g1' := sort_is m (by omega) [acc] H1
    rw [g1] at g1'
    have hsl := srt_len (cand p.edges v)
    obtain ⟨H3, u, q1, q2, q3, q4⟩ := compact_is (m := m) g2 hnew g3 (by omega) (by omega)
    refine ⟨H3, u, ?_, hQ _ _ q2 q3 q4⟩
    rw [loop_succ, f22_b0_eq]
    unfold f22_b0
    simp -implicitDefEqProofs only [r_opt, r_ret, ob_some, ifB_true, iteV_true, iteV_false, r_gdt, r_gdt2, r_gdtf, r_gdtf2, r_gdff, r_gdff2, r_gdft, r_gdft2, r_gdu, r_gdu2, pick_t, pick_f, ext_0, ext_1, x_newB, r_nil, r_fAddr, Nat.zero_add, b_lss, b_leq, b_gtr, b_geq, b_eql, b_neq, u_not, Bool.not_true, Bool.not_false, oneOf_one, oneOf_two, again_normal, again_exit, again_ret, Bool.and_true, e]
    rw [f22_e0_0_eq]
    unfold f22_e0_0
    simp -implicitDefEqProofs only [r_opt, r_ret, ob_some, ifB_true, iteV_true, iteV_false, r_gdt, r_gdt2, r_gdtf, r_gdtf2, r_gdff, r_gdff2, r_gdft, r_gdft2, r_gdu, r_gdu2, pick_t, pick_f, ext_0, ext_1, x_newB, r_nil, r_fAddr, Nat.zero_add, b_lss, b_leq, b_gtr, b_geq, b_eql, b_neq, u_not, Bool.not_true, Bool.not_false, oneOf_one, oneOf_two, again_normal, again_exit, again_ret, Bool.and_true, g1', q1]
  | succ q ih =>
    intro i k H1 acc hr hi hk he ha hnew
    intros
    obtain ⟨k, rfl⟩ : ∃ n, k = n + 1 := ⟨k - 1, by omega⟩
    have e : decide ((i : Int) < p.edges.length) = true := by simp; omega
    have e3 : IntKind.i64.wrap ((i : Int) + 1) = ((i + 1 : Nat) : Int) := by rw [wrap_i64 (by omega) (by omega)]; omega
    have hxi : p.edges[i]? = some p.edges[i] := List.getElem?_eq_getElem (by omega)
    obtain ⟨b, o, g1, g2, g3⟩ := (hx.ext he).at_ edC_len hxi .i64
    obtain ⟨y, hy⟩ : ∃ y, y = p.edges[i] := ⟨_, rfl⟩
    have l1 : ldN 2 (.pointer (some ⟨b, o, none⟩)) H1 = some (edV y, H1) := by rw [hy]; exact (g3 H1 rfl).1
    rw [← hy] at hxi
    have hct := cand_take v hxi
    have hcl := cand_le v (p.edges.take i)
    rw [List.length_take] at hcl
    have st := st_ed y H1
    obtain ⟨H2, hH2⟩ : ∃ H2, H2 = H1 ++ [edB y] := ⟨_, rfl⟩
    rw [← hH2] at st
    have x1 : Ext H1 H2 := by rw [hH2]; exact Fr.app _ _ _
    have hb : H2[H1.length]? = some (edB y) := by rw [hH2]; exact at_last _ _
    have la := ld_ed0 hb
    have lb := ld_ed1 hb
    have ha2 : Iw H2 acc (cand (p.edges.take i) v) := by rw [hH2]; exact ha.on _
    rw [loop_succ, f22_b0_eq]
    unfold f22_b0
    by_cases c1 : y.1 = y.2
    · have d1 : (y.1 == y.2) = true := by simpa using c1
      have hc0 : candE v y = [] := if_pos c1
      rw [hc0, List.append_nil] at hct
      simp -implicitDefEqProofs only [r_opt, r_ret, ob_some, ifB_true, iteV_true, iteV_false, r_gdt, r_gdt2, r_gdtf, r_gdtf2, r_gdff, r_gdff2, r_gdft, r_gdft2, r_gdu, r_gdu2, pick_t, pick_f, ext_0, ext_1, x_newB, r_nil, r_fAddr, Nat.zero_add, b_lss, b_leq, b_gtr, b_geq, b_eql, b_neq, u_not, Bool.not_true, Bool.not_false, oneOf_one, oneOf_two, again_normal, again_exit, again_ret, Bool.and_true, e, g1, l1, zEd, st, la, lb, d1, b_add, e3]
      exact ih (i + 1) k H2 acc (by omega) (by omega) (by omega) (he.tr x1) (by rw [hct]; exact ha2) hnew ..
    · have d1 : (y.1 == y.2) = false := by simpa using c1
      by_cases c2 : y.1 = v
      · have d2 : (y.1 == v) = true := by simpa using c2
        have hc0 : candE v y = [y.2] := by unfold candE; rw [if_neg c1, if_pos c2]
        rw [hc0] at hct
        obtain ⟨u, H3, t1, t2, t3, t4⟩ := ha2.push1 (by' := 8) inC_len inC_all (by decide) y.2 hnew (he.tr x1) (roomy_mono (n := 17592186044100) (by decide) (by omega))
        simp -implicitDefEqProofs only [r_opt, r_ret, ob_some, ifB_true, iteV_true, iteV_false, r_gdt, r_gdt2, r_gdtf, r_gdtf2, r_gdff, r_gdff2, r_gdft, r_gdft2, r_gdu, r_gdu2, pick_t, pick_f, ext_0, ext_1, x_newB, r_nil, r_fAddr, Nat.zero_add, b_lss, b_leq, b_gtr, b_geq, b_eql, b_neq, u_not, Bool.not_true, Bool.not_false, oneOf_one, oneOf_two, again_normal, again_exit, again_ret, Bool.and_true, e, g1, l1, zEd, st, la, lb, d1, d2, bldI, t1, b_add, e3]
        exact ih (i + 1) k H3 u (by omega) (by omega) (by omega) t4 (by rw [hct]; exact t2) t3 ..
      · have d2 : (y.1 == v) = false := by simpa using c2
        by_cases c3 : y.2 = v
        · have d3 : (y.2 == v) = true := by simpa using c3
          have hc0 : candE v y = [y.1] := by unfold candE; rw [if_neg c1, if_neg c2, if_pos c3]
          rw [hc0] at hct
          obtain ⟨u, H3, t1, t2, t3, t4⟩ := ha2.push1 (by' := 8) inC_len inC_all (by decide) y.1 hnew (he.tr x1) (roomy_mono (n := 17592186044100) (by decide) (by omega))
          simp -implicitDefEqProofs only [r_opt, r_ret, ob_some, ifB_true, iteV_true, iteV_false, r_gdt, r_gdt2, r_gdtf, r_gdtf2, r_gdff, r_gdff2, r_gdft, r_gdft2, r_gdu, r_gdu2, pick_t, pick_f, ext_0, ext_1, x_newB, r_nil, r_fAddr, Nat.zero_add, b_lss, b_leq, b_gtr, b_geq, b_eql, b_neq, u_not, Bool.not_true, Bool.not_false, oneOf_one, oneOf_two, again_normal, again_exit, again_ret, Bool.and_true, e, g1, l1, zEd, st, la, lb, d1, d2, d3, bldI, t1, b_add, e3]
          exact ih (i + 1) k H3 u (by omega) (by omega) (by omega) t4 (by rw [hct]; exact t2) t3 ..
        · have d3 : (y.2 == v) = false := by simpa using c3
          have hc0 : candE v y = [] := by unfold candE; rw [if_neg c1, if_neg c2, if_neg c3]
          rw [hc0, List.append_nil] at hct
          simp -implicitDefEqProofs only [r_opt, r_ret, ob_some, ifB_true, iteV_true, iteV_false, r_gdt, r_gdt2, r_gdtf, r_gdtf2, r_gdff, r_gdff2, r_gdft, r_gdft2, r_gdu, r_gdu2, pick_t, pick_f, ext_0, ext_1, x_newB, r_nil, r_fAddr, Nat.zero_add, b_lss, b_leq, b_gtr, b_geq, b_eql, b_neq, u_not, Bool.not_true, Bool.not_false, oneOf_one, oneOf_two, again_normal, again_exit, again_ret, Bool.and_true, e, g1, l1, zEd, st, la, lb, d1, d2, d3, b_add, e3]
          exact ih (i + 1) k H2 acc (by omega) (by omega) (by omega) (he.tr x1) (by rw [hct]; exact ha2) hnew ..
theorem beside_is (hp : PV H p ev wv nv) (hn : p.edges.length + 40 < m) (hm : m ≤ 72057594037927936) (v : Int) : ∃ H' u, lvl Try.prog pk12 m (.func 22) [plV p ev wv nv, .int .i64 v] H = some (u, H') ∧ Ext H H' ∧ Iw H' u (bes p.edges v) ∧ New H u := by
  refine lvl_ex (pk_no rfl rfl) (by omega) ?_
  have hb := at_last H (plB p ev wv nv)
  have l1 := ld_pl hb 1 _ rfl
  have hlen := hp.e.len
  rw [f22_eq]
  unfold f22
  simp -implicitDefEqProofs only [r_opt, r_ret, ob_some, ifB_true, iteV_true, iteV_false, r_gdt, r_gdt2, r_gdtf, r_gdtf2, r_gdff, r_gdff2, r_gdft, r_gdft2, r_gdu, r_gdu2, pick_t, pick_f, ext_0, ext_1, x_newB, r_nil, r_fAddr, Nat.zero_add, b_lss, b_leq, b_gtr, b_geq, b_eql, b_neq, u_not, Bool.not_true, Bool.not_false, oneOf_one, oneOf_two, again_normal, again_exit, again_ret, Bool.and_true, plV_cells, l1, hlen]
  exact beside_loop (fun H' u h1 h2 h3 => ⟨h1, h2, h3⟩) hp.e hp.be (m := m - 1) (by omega) (by omega) p.edges.length 0 (m - 1) _ _ (by omega) (by omega) (by omega) (Fr.app _ _ _) (Rw.nil (el := inC)) (New.nil _) ..
end
end Go.Proofs.Ytdobnaldfmpimaa

set_option linter.unusedSectionVars false
set_option linter.unusedSimpArgs false
set_option linter.unusedVariables false
set_option maxRecDepth 100000
namespace Go.Proofs.Ytdobnaldfmpimaa
open Go.Abs
def idxI (xs : List Int) (w : Int) : Int := fst (fun j => xs[j]? == some w) xs.length 0
def portOf (es : List Ed) (v w : Int) : Int := if idxI (bes es v) w < 0 then idxI (bes es v) w else idxI (bes es v) w + 1
def hopAt (es : List Ed) (v : Nat) : List Ed := ((bes es v).filter fun w => wi w 0 5).map fun w => ((v : Int), w)
def hopN (p : PlanD) : Nat := (min (max p.nodes 0) 6).toNat
def hopsOf (p : PlanD) : List Ed := (List.range (hopN p)).flatMap (hopAt p.edges)
abbrev Hs (H : Heap) (v : Value) (xs : List Ed) := Rs edC 38 H v xs
abbrev Hw (H : Heap) (v : Value) (xs : List Ed) := Rw edC 38 2 H v xs
theorem dd_mem (z : Int) : ∀ l, z ∈ dd l ↔ z ∈ l
  | [] => Iff.rfl
  | [x] => Iff.rfl
  | x :: y :: r => by
    have ih := dd_mem z (y :: r)
    unfold dd
    split
    · rename_i h
      subst h
      rw [ih]
      simp
    · simp only [List.mem_cons] at ih ⊢
      rw [ih]
theorem dd_pw : ∀ l : List Int, l.Pairwise (· ≤ ·) → (dd l).Pairwise (· < ·)
  | [], _ => List.Pairwise.nil
  | [x], _ => by simp [dd]
  | x :: y :: r, h => by
    obtain ⟨h1, h2⟩ := List.pairwise_cons.mp h
    have ih := dd_pw (y :: r) h2
    unfold dd
    split
    · exact ih
    · rename_i hne
      refine List.pairwise_cons.mpr ⟨fun z hz => ?_, ih⟩
      have hz' := (dd_mem z _).mp hz
      have h3 := h1 y (by simp)
      have h4 : y ≤ z := by
        rcases List.mem_cons.mp hz' with rfl | hz'
        · exact Int.le_refl _
        · exact (List.pairwise_cons.mp h2).1 z hz'
      omega
theorem bes_pw (es : List Ed) (v : Int) : (bes es v).Pairwise (· < ·) := dd_pw _ (srt_pw _)
theorem pw_few : ∀ (l : List Int) (lo hi : Int), l.Pairwise (· < ·) → (∀ x ∈ l, lo ≤ x ∧ x ≤ hi) → lo ≤ hi + 1 → (l.length : Int) ≤ hi + 1 - lo
  | [], lo, hi, _, _, h => by simp; omega
  | x :: r, lo, hi, hp, hb, h => by
    obtain ⟨h1, h2⟩ := List.pairwise_cons.mp hp
    have hx := hb x (by simp)
    have := pw_few r (x + 1) hi h2 (fun y hy => ⟨by have := h1 y hy; omega, (hb y (by simp [hy])).2⟩) (by omega)
    simp only [List.length_cons]
    omega
theorem filt_few (l : List Int) (h : l.Pairwise (· < ·)) : (l.filter fun w => wi w 0 5).length ≤ 6 := by
  have := pw_few (l.filter fun w => wi w 0 5) 0 5 (h.sublist (List.filter_sublist)) (fun x hx => by
    have := (List.mem_filter.mp hx).2
    unfold wi at this
    simpa using this) (by omega)
  omega
section
variable {H : Heap} {m : Nat} {p : PlanD} {ev wv nv : Value}
theorem ixI_loop {v : Value} {xs : List Int} {w : Int} (hx : Is H v xs) (hn : xs.length ≤ 72057594037927936) : ∀ (q i k : Nat), xs.length - i = q → i ≤ xs.length → q < k → ∀ (x2 x3 x4 x5 x6 x9 x10 x11 x12 x13 x14 x15 x16 x17 x18 : Value),
    loopN k (runCode Try.prog (lvl Try.prog pk12 m) (loopN m) f38_c0) (f38_k0 (lvl Try.prog pk12 m) (loopN m)) [v, (.int .i64 w), x2, x3, x4, x5, x6, (.int .i64 xs.length), (.int .i64 (i : Nat)), x9, x10, x11, x12, x13, x14, x15, x16, x17, x18] H = some (.int .i64 (fst (fun j => xs[j]? == some w) q i), H) := by
  intro q

  induction q with
  | zero =>
    intro i k  hr hi hk 
    intros
    obtain ⟨k, rfl⟩ : ∃ n, k = n + 1 := ⟨k - 1, by omega⟩
    obtain rfl : xs.length = i := by omega
    have e : decide (((xs.length : Nat) : Int) < (xs.length : Nat)) = false := by simp
    rw [loop_succ, f38_b0_eq]
    unfold f38_b0
    simp -implicitDefEqProofs only [r_opt, r_ret, ob_some, ifB_true, iteV_true, iteV_false, r_gdt, r_gdt2, r_gdtf, r_gdtf2, r_gdff, r_gdff2, r_gdft, r_gdft2, r_gdu, r_gdu2, pick_t, pick_f, ext_0, ext_1, x_newB, r_nil, r_fAddr, Nat.zero_add, b_lss, b_leq, b_gtr, b_geq, b_eql, b_neq, u_not, Bool.not_true, Bool.not_false, oneOf_one, oneOf_two, again_normal, again_exit, again_ret, Bool.and_true, e]
    rw [f38_e0_0_eq]
    rfl
  | succ q ih =>
    intro i k  hr hi hk 
    intros
    obtain ⟨k, rfl⟩ : ∃ n, k = n + 1 := ⟨k - 1, by omega⟩
    have e : decide ((i : Int) < (xs.length : Nat)) = true := decide_eq_true (by omega)
    have e3 : IntKind.i64.wrap ((i : Int) + 1) = ((i + 1 : Nat) : Int) := by rw [wrap_i64 (by omega) (by omega)]; omega
    have hxi : xs[i]? = some xs[i] := List.getElem?_eq_getElem (by omega)
    obtain ⟨b, o, g1, g2, g3⟩ := hx.at_ inC_len hxi .i64
    have l1 : ld1 (.pointer (some ⟨b, o, none⟩)) H = some (.int .i64 xs[i], H) := (g3 H rfl).2.1 0 _ rfl
    rw [loop_succ, f38_b0_eq]
    unfold f38_b0
    unfold fst
    by_cases h : w = xs[i]
    · have d : (w == xs[i]) = true := by rw [h]; simp
      have d2 : (xs[i]? == some w) = true := by rw [hxi, h]; simp
      simp -implicitDefEqProofs only [r_opt, r_ret, ob_some, ifB_true, iteV_true, iteV_false, r_gdt, r_gdt2, r_gdtf, r_gdtf2, r_gdff, r_gdff2, r_gdft, r_gdft2, r_gdu, r_gdu2, pick_t, pick_f, ext_0, ext_1, x_newB, r_nil, r_fAddr, Nat.zero_add, b_lss, b_leq, b_gtr, b_geq, b_eql, b_neq, u_not, Bool.not_true, Bool.not_false, oneOf_one, oneOf_two, again_normal, again_exit, again_ret, Bool.and_true, e, g1, l1, d]
      rw [f38_r0_eq, if_pos d2]
      rfl
    · have d : (w == xs[i]) = false := by simpa using h
      have d2 : ¬ (xs[i]? == some w) = true := by rw [hxi]; simpa using fun hh => h hh.symm
      simp -implicitDefEqProofs only [r_opt, r_ret, ob_some, ifB_true, iteV_true, iteV_false, r_gdt, r_gdt2, r_gdtf, r_gdtf2, r_gdff, r_gdff2, r_gdft, r_gdft2, r_gdu, r_gdu2, pick_t, pick_f, ext_0, ext_1, x_newB, r_nil, r_fAddr, Nat.zero_add, b_lss, b_leq, b_gtr, b_geq, b_eql, b_neq, u_not, Bool.not_true, Bool.not_false, oneOf_one, oneOf_two, again_normal, again_exit, again_ret, Bool.and_true, e, g1, l1, d, b_add, e3]
      rw [if_neg d2]
      exact ih (i + 1) k (by omega) (by omega) (by omega) ..
theorem ixI_is {v : Value} {xs : List Int} (hx : Is H v xs) (w : Int) (hn : xs.length + 10 < m) (hm : m ≤ 72057594037927936) : lvl Try.prog pk12 m (.func 38) [v, .int .i64 w] H = some (.int .i64 (idxI xs w), H) := by
  have hlen := hx.len
  refine lvl_at (pk_no rfl rfl) (by omega) ?_
  rw [f38_eq]
  unfold f38
  simp -implicitDefEqProofs only [r_opt, r_ret, ob_some, ifB_true, iteV_true, iteV_false, r_gdt, r_gdt2, r_gdtf, r_gdtf2, r_gdff, r_gdff2, r_gdft, r_gdft2, r_gdu, r_gdu2, pick_t, pick_f, ext_0, ext_1, x_newB, r_nil, r_fAddr, Nat.zero_add, b_lss, b_leq, b_gtr, b_geq, b_eql, b_neq, u_not, Bool.not_true, Bool.not_false, oneOf_one, oneOf_two, again_normal, again_exit, again_ret, Bool.and_true, hlen]
  exact ixI_loop hx (by omega) xs.length 0 (m - 1) (by omega) (by omega) (by omega) ..
theorem bes_le (es : List Ed) (v : Int) : (bes es v).length ≤ es.length := by
  have h1 := dd_le (srt (cand es v))
  have h2 := srt_len (cand es v)
  have h3 := cand_le v es
  unfold bes
  omega
theorem bHop (a b : Int) : bld Try.prog 38 [(0, .int .i64 a), (1, .int .i64 b)] = some (edV (a, b)) := rfl
theorem bldHop (H : Heap) (y : Ed) : bldSlice 38 2 1 [.int .i64 0, .int .i64 0] [(0, edV y)] H = some (.slice (some ⟨H.length, 0, none⟩) 1 1, H ++ [.cells (edC y) 38 .row]) := rfl
theorem hops_loop1 {H0 : Heap} {a : Nat} {v : Nat} {ws : List Int} {hs : List Ed} {Q : Heap → Value → Prop} {K : Ex → K (Value × Heap)} {bn : Int} {u : Value} (hs1 : hs.length + (ws.filter fun w => wi w 0 5).length ≤ 1000) (hws : ws.length ≤ 72057594037927936) (hm : 0 < m)
    (hK : ∀ (H' : Heap) (acc : Value), Ext H0 H' → Hw H' acc (hs ++ (ws.filter fun w => wi w 0 5).map fun w => ((v : Int), w)) → New H0 acc → ∀ (x0 x2 x4 x5 x6 x7 x8 x9 x12 x13 x14 x15 x16 x17 x18 x19 x20 x21 x22 x23 x24 x25 x26 x27 x28 x29 x30 x31 x32 : Value), ∃ H2 u2, K .normal [x0, (.pointer (some ⟨a, 0, none⟩)), x2, acc, x4, x5, x6, x7, x8, x9, (.int .i64 bn), (.int .i64 (IntKind.i64.wrap ((v : Int) + 1))), x12, x13, x14, x15, x16, x17, x18, x19, x20, x21, x22, x23, x24, x25, x26, x27, x28, x29, x30, x31, x32] H' = some (u2, H2) ∧ Q H2 u2) : ∀ (q i k : Nat) (H1 : Heap) (acc : Value), ws.length - i = q → i ≤ ws.length → q < k → Ext H0 H1 → Is H1 u ws → Apart H1 u acc → Hw H1 acc (hs ++ ((ws.take i).filter fun w => wi w 0 5).map fun w => ((v : Int), w)) → New H0 acc → ∀ (x0 x2 x5 x6 x7 x8 x9 x12 x13 x14 x15 x19 x20 x21 x22 x23 x24 x25 x26 x27 x28 x29 x30 x31 x32 : Value),
    ∃ H' u2, loopN k (runCode Try.prog (lvl Try.prog pk12 m) (loopN m) f18_c1) (f18_k1 (lvl Try.prog pk12 m) (loopN m) K) [x0, (.pointer (some ⟨a, 0, none⟩)), x2, acc, (.int .i64 (v : Nat)), x5, x6, x7, x8, x9, (.int .i64 bn), (.int .i64 (v : Nat)), x12, x13, x14, x15, u, (.int .i64 ws.length), (.int .i64 (i : Nat)), x19, x20, x21, x22, x23, x24, x25, x26, x27, x28, x29, x30, x31, x32] H1 = some (u2, H') ∧ Q H' u2 := by
  intro q

  induction q with
  | zero =>
    intro i k H1 acc hr hi hk he hu hap ha hnew
    intros
    obtain ⟨k, rfl⟩ : ∃ n, k = n + 1 := ⟨k - 1, by omega⟩
    obtain rfl : ws.length = i := by omega
    have e : decide (((ws.length : Nat) : Int) < (ws.length : Nat)) = false := by simp
    rw [List.take_of_length_le (Nat.le_refl _)] at ha
    rw [loop_succ, f18_b1_eq]
    unfold f18_b1
    simp -implicitDefEqProofs only [r_opt, r_ret, ob_some, ifB_true, iteV_true, iteV_false, r_gdt, r_gdt2, r_gdtf, r_gdtf2, r_gdff, r_gdff2, r_gdft, r_gdft2, r_gdu, r_gdu2, pick_t, pick_f, ext_0, ext_1, x_newB, r_nil, r_fAddr, Nat.zero_add, b_lss, b_leq, b_gtr, b_geq, b_eql, b_neq, u_not, Bool.not_true, Bool.not_false, oneOf_one, oneOf_two, again_normal, again_exit, again_ret, Bool.and_true, e]
    rw [f18_e1_2_eq]
    unfold f18_e1_2
    simp -implicitDefEqProofs only [r_opt, r_ret, ob_some, ifB_true, iteV_true, iteV_false, r_gdt, r_gdt2, r_gdtf, r_gdtf2, r_gdff, r_gdff2, r_gdft, r_gdft2, r_gdu, r_gdu2, pick_t, pick_f, ext_0, ext_1, x_newB, r_nil, r_fAddr, Nat.zero_add, b_lss, b_leq, b_gtr, b_geq, b_eql, b_neq, u_not, Bool.not_true, Bool.not_false, oneOf_one, oneOf_two, again_normal, again_exit, again_ret, Bool.and_true, b_add]
    exact hK H1 acc he ha hnew ..
  | succ q ih =>
    intro i k H1 acc hr hi hk he hu hap ha hnew
    intros
    obtain ⟨k, rfl⟩ : ∃ n, k = n + 1 := ⟨k - 1, by omega⟩
    have e : decide ((i : Int) < (ws.length : Nat)) = true := decide_eq_true (by omega)
    have e3 : IntKind.i64.wrap ((i : Int) + 1) = ((i + 1 : Nat) : Int) := by rw [wrap_i64 (by omega) (by omega)]; omega
    have hxi : ws[i]? = some ws[i] := List.getElem?_eq_getElem (by omega)
    obtain ⟨b, o, g1, g2, g3⟩ := hu.at_ inC_len hxi .i64
    have l1 : ld1 (.pointer (some ⟨b, o, none⟩)) H1 = some (.int .i64 ws[i], H1) := (g3 H1 rfl).2.1 0 _ rfl
    have htake : ws.take (i + 1) = ws.take i ++ [ws[i]] := by rw [List.take_add_one, hxi]; rfl
    have w1 := within_is (m := m) hm ws[i] 0 5 H1
    have hfl : ((ws.take i).filter fun w => wi w 0 5).length ≤ (ws.filter fun w => wi w 0 5).length := (List.Sublist.filter _ (List.take_sublist i ws)).length_le
    rw [loop_succ, f18_b1_eq]
    unfold f18_b1
    cases c : wi ws[i] 0 5 with
    | true =>
      rw [c] at w1
      obtain ⟨acc2, H2, t1, t2, t3, t4, t5, t6⟩ := ha.push2 (by' := 16) edC_len edC_all (by decide) ((v : Int), ws[i]) hnew he (roomy_mono (n := 1000000) (by decide) (by simp only [List.length_append, List.length_map]; omega))
      simp -implicitDefEqProofs only [r_opt, r_ret, ob_some, ifB_true, iteV_true, iteV_false, r_gdt, r_gdt2, r_gdtf, r_gdtf2, r_gdff, r_gdff2, r_gdft, r_gdft2, r_gdu, r_gdu2, pick_t, pick_f, ext_0, ext_1, x_newB, r_nil, r_fAddr, Nat.zero_add, b_lss, b_leq, b_gtr, b_geq, b_eql, b_neq, u_not, Bool.not_true, Bool.not_false, oneOf_one, oneOf_two, again_normal, again_exit, again_ret, Bool.and_true, e, g1, l1, w1, bHop, bldHop, t1, b_add, e3]
      refine ih (i + 1) k H2 acc2 (by omega) (by omega) (by omega) t4 (hu.apart hap t5) (hap.up t5 t6) ?_ t3 ..
      · rw [htake, List.filter_append, List.map_append, ← List.append_assoc]
        have : ([ws[i]].filter fun w => wi w 0 5) = [ws[i]] := by rw [List.filter_cons, if_pos c]; rfl
        rw [this]
        exact t2
    | false =>
      rw [c] at w1
      simp -implicitDefEqProofs only [r_opt, r_ret, ob_some, ifB_true, iteV_true, iteV_false, r_gdt, r_gdt2, r_gdtf, r_gdtf2, r_gdff, r_gdff2, r_gdft, r_gdft2, r_gdu, r_gdu2, pick_t, pick_f, ext_0, ext_1, x_newB, r_nil, r_fAddr, Nat.zero_add, b_lss, b_leq, b_gtr, b_geq, b_eql, b_neq, u_not, Bool.not_true, Bool.not_false, oneOf_one, oneOf_two, again_normal, again_exit, again_ret, Bool.and_true, e, g1, l1, w1, b_add, e3]
      refine ih (i + 1) k H1 acc (by omega) (by omega) (by omega) he hu hap ?_ hnew ..
      have : ([ws[i]].filter fun w => wi w 0 5) = [] := by rw [List.filter_cons, if_neg (by rw [c]; decide)]; rfl
      rw [htake, List.filter_append, this, List.append_nil]
      exact ha
theorem hopAt_le (es : List Ed) (v : Nat) : (hopAt es v).length ≤ 6 := by
  have h2 := filt_few _ (bes_pw es v)
  unfold hopAt
  rw [List.length_map]
  omega
theorem flat_bound (es : List Ed) : ∀ i, ((List.range i).flatMap (hopAt es)).length ≤ i * 6
  | 0 => by simp
  | i + 1 => by
    have := flat_bound es i
    have := hopAt_le es i
    rw [List.range_succ, List.flatMap_append, List.length_append, Nat.succ_mul]
    simp only [List.flatMap_cons, List.flatMap_nil, List.append_nil]
    omega
theorem hops_len (p : PlanD) : (hopsOf p).length ≤ 36 := by
  have := flat_bound p.edges (hopN p)
  have h6 : hopN p ≤ 6 := by unfold hopN; omega
  unfold hopsOf
  omega
theorem minI2 (a b : Int) : minmax Try.prog false [.int .i64 a, .int .i64 b] = some (.int .i64 (min a b)) := by
  simp [minmax, flat, purF, pur, Builtin.min_, Builtin.min2, pure, bind, Sem.bind]
  split <;> omega
theorem maxI2 (a b : Int) : minmax Try.prog true [.int .i64 a, .int .i64 b] = some (.int .i64 (max a b)) := by
  simp [minmax, flat, purF, pur, Builtin.max_, Builtin.max2, pure, bind, Sem.bind]
  split <;> omega
theorem hops_loop0 {H0 : Heap} {a : Nat} (hp : PV H0 p ev wv nv) (hn : p.edges.length + 60 < m) (hm : m ≤ 72057594037927936) : ∀ (q i k : Nat) (H1 : Heap) (acc : Value), (hopN p) - i = q → i ≤ (hopN p) → q < k → Ext H0 H1 → H0[a]? = some (plB p ev wv nv) → Hw H1 acc ((List.range i).flatMap (hopAt p.edges)) → New H0 acc → ∀ (x0 x2 x4 x5 x6 x7 x8 x9 x12 x13 x14 x15 x16 x17 x18 x19 x20 x21 x22 x23 x24 x25 x26 x27 x28 x29 x30 x31 x32 : Value),
    ∃ H' u2, loopN k (runCode Try.prog (lvl Try.prog pk12 m) (loopN m) f18_c0) (f18_k0 (lvl Try.prog pk12 m) (loopN m)) [x0, (.pointer (some ⟨a, 0, none⟩)), x2, acc, x4, x5, x6, x7, x8, x9, (.int .i64 (hopN p)), (.int .i64 (i : Nat)), x12, x13, x14, x15, x16, x17, x18, x19, x20, x21, x22, x23, x24, x25, x26, x27, x28, x29, x30, x31, x32] H1 = some (u2, H') ∧ Ext H0 H' ∧ Hw H' u2 (hopsOf p) ∧ New H0 u2 := by
  intro q
  have h6 : hopN p ≤ 6 := by unfold hopN; omega
  induction q with
  | zero =>
    intro i k H1 acc hr hi hk he hb0 ha hnew
    intros
    obtain ⟨k, rfl⟩ : ∃ n, k = n + 1 := ⟨k - 1, by omega⟩
    obtain rfl : (hopN p) = i := by omega
    have e : decide ((((hopN p) : Nat) : Int) < ((hopN p) : Nat)) = false := by simp
    refine ⟨H1, acc, ?_, he, ha, hnew⟩
    rw [loop_succ, f18_b0_eq]
    unfold f18_b0
    simp -implicitDefEqProofs only [r_opt, r_ret, ob_some, ifB_true, iteV_true, iteV_false, r_gdt, r_gdt2, r_gdtf, r_gdtf2, r_gdff, r_gdff2, r_gdft, r_gdft2, r_gdu, r_gdu2, pick_t, pick_f, ext_0, ext_1, x_newB, r_nil, r_fAddr, Nat.zero_add, b_lss, b_leq, b_gtr, b_geq, b_eql, b_neq, u_not, Bool.not_true, Bool.not_false, oneOf_one, oneOf_two, again_normal, again_exit, again_ret, Bool.and_true, e]
    rw [f18_e0_0_eq]
    rfl
  | succ q ih =>
    intro i k H1 acc hr hi hk he hb0 ha hnew
    intros
    obtain ⟨k, rfl⟩ : ∃ n, k = n + 1 := ⟨k - 1, by omega⟩
    have e : decide ((i : Int) < ((hopN p) : Nat)) = true := decide_eq_true (by omega)
    have e3 : IntKind.i64.wrap ((i : Int) + 1) = ((i + 1 : Nat) : Int) := by rw [wrap_i64 (by omega) (by omega)]; omega
    have hb := ld_of hb0 he
    have l11 := ld_pl11 hb
    obtain ⟨H2, u, g1, g2, g3, g4⟩ := beside_is (hp.ext he) (m := m) (by omega) (by omega) (i : Int)
    have hlen := g3.len
    have hble := bes_le p.edges (i : Int)
    have hol := flat_bound p.edges i
    have hff := filt_few _ (bes_pw p.edges (i : Int))
    have hL := hp.be
    have hap : Apart H2 u acc := fun b hb => ⟨g3.lt hb, fun hc => by have := g4 b hb; have := ha.lt hc; omega⟩
    have ha2 : Hw H2 acc ((List.range i).flatMap (hopAt p.edges)) := ha.keep fun b hb => g2.2 b (ha.lt hb) id
    rw [loop_succ, f18_b0_eq]
    unfold f18_b0
    simp -implicitDefEqProofs only [r_opt, r_ret, ob_some, ifB_true, iteV_true, iteV_false, r_gdt, r_gdt2, r_gdtf, r_gdtf2, r_gdff, r_gdff2, r_gdft, r_gdft2, r_gdu, r_gdu2, pick_t, pick_f, ext_0, ext_1, x_newB, r_nil, r_fAddr, Nat.zero_add, b_lss, b_leq, b_gtr, b_geq, b_eql, b_neq, u_not, Bool.not_true, Bool.not_false, oneOf_one, oneOf_two, again_normal, again_exit, again_ret, Bool.and_true, e, l11, g1, hlen]
    refine hops_loop1 (H0 := H0) (a := a) (v := i) (ws := bes p.edges (i : Int)) (hs := (List.range i).flatMap (hopAt p.edges)) (Q := fun H' u2 => Ext H0 H' ∧ Hw H' u2 (hopsOf p) ∧ New H0 u2) (by omega) (by omega) (by omega) ?_ (bes p.edges (i : Int)).length 0 m H2 acc (by omega) (by omega) (by omega) (he.tr g2) g3.rs hap (by simpa using ha2) hnew ..
    intro H3 acc3 k1 k2 k3
    intros
    rw [again_normal, e3]
    refine ih (i + 1) k H3 acc3 (by omega) (by omega) (by omega) k1 hb0 ?_ k3 ..
    rw [List.range_succ, List.flatMap_append]
    simpa [hopAt] using k2
theorem hops_is (hp : PV H p ev wv nv) (hn : p.edges.length + 70 < m) (hm : m ≤ 72057594037927936) : ∃ H' u, lvl Try.prog pk12 m (.func 18) [plV p ev wv nv] H = some (u, H') ∧ Ext H H' ∧ Hw H' u (hopsOf p) ∧ New H u := by
  have hL := hp.be
  obtain ⟨H0, hH0⟩ : ∃ H0, H0 = H ++ [plB p ev wv nv] := ⟨_, rfl⟩
  have x0 : Ext H H0 := by rw [hH0]; exact Fr.app _ _ _
  have b0 : H0[H.length]? = some (plB p ev wv nv) := by rw [hH0]; exact at_last _ _
  have l0 := ld_pl b0 0 _ rfl
  have h6 : hopN p ≤ 6 := by unfold hopN; omega
  have e1 : minmax Try.prog true [.int .i64 p.nodes, .int .i64 0] = some (.int .i64 (max p.nodes 0)) := maxI2 p.nodes 0
  have e2 : minmax Try.prog false [.int .i64 (max p.nodes 0), .int .i64 6] = some (.int .i64 (hopN p)) := by
    rw [minI2]
    congr 2
    unfold hopN
    omega
  obtain ⟨H', u, g1, g2, g3, g4⟩ : ∃ H' u, lvl Try.prog pk12 m (.func 18) [plV p ev wv nv] H = some (u, H') ∧ Ext H0 H' ∧ Hw H' u (hopsOf p) ∧ New H0 u := by
    refine lvl_ex (pk_no rfl rfl) (by omega) ?_
    rw [f18_eq]
    unfold f18
    simp -implicitDefEqProofs only [r_opt, r_ret, ob_some, ifB_true, iteV_true, iteV_false, r_gdt, r_gdt2, r_gdtf, r_gdtf2, r_gdff, r_gdff2, r_gdft, r_gdft2, r_gdu, r_gdu2, pick_t, pick_f, ext_0, ext_1, x_newB, r_nil, r_fAddr, Nat.zero_add, b_lss, b_leq, b_gtr, b_geq, b_eql, b_neq, u_not, Bool.not_true, Bool.not_false, oneOf_one, oneOf_two, again_normal, again_exit, again_ret, Bool.and_true, plV_cells, ← hH0, l0, e1, e2]
    exact hops_loop0 (hp.ext x0) (m := m - 1) (by omega) (by omega) (hopN p) 0 (m - 1) H0 _ (by omega) (by omega) (by omega) (Fr.refl _ _) b0 (Rw.nil (el := edC)) (New.nil _) ..
  exact ⟨H', u, g1, x0.tr g2, g3, fun b hb => Nat.le_trans x0.1 (g4 b hb)⟩
end
end Go.Proofs.Ytdobnaldfmpimaa

set_option linter.unusedSectionVars false
set_option linter.unusedSimpArgs false
set_option linter.unusedVariables false
set_option maxRecDepth 100000
namespace Go.Proofs.Ytdobnaldfmpimaa
open Go.Abs
def layL (x : Int) : List Int → List Int
  | [] => [x]
  | y :: r => if y < x then y :: layL x r else if y = x then x :: r else x :: y :: r
theorem layL_mem (x z : Int) : ∀ l, z ∈ layL x l ↔ z = x ∨ z ∈ l
  | [] => by simp [layL]
  | y :: r => by
    unfold layL
    split
    · simp only [List.mem_cons, layL_mem x z r]
      constructor
      · rintro (h | h | h)
        · exact .inr (.inl h)
        · exact .inl h
        · exact .inr (.inr h)
      · rintro (h | h | h)
        · exact .inr (.inl h)
        · exact .inl h
        · exact .inr (.inr h)
    · split
      · rename_i h
        subst h
        simp
      · simp
theorem layL_len (x : Int) : ∀ l, (layL x l).length ≤ l.length + 1
  | [] => by simp [layL]
  | y :: r => by
    have := layL_len x r
    unfold layL
    split
    · simp only [List.length_cons]; omega
    · split <;> simp only [List.length_cons] <;> omega
theorem layL_pw (x : Int) : ∀ l, l.Pairwise (· < ·) → (layL x l).Pairwise (· < ·)
  | [], _ => by simp [layL]
  | y :: r, h => by
    obtain ⟨h1, h2⟩ := List.pairwise_cons.mp h
    unfold layL
    split
    · rename_i hyx
      refine List.pairwise_cons.mpr ⟨fun z hz => ?_, layL_pw x r h2⟩
      rcases (layL_mem x z r).mp hz with rfl | hz
      · exact hyx
      · exact h1 z hz
    · rename_i hyx
      split
      · rename_i hh
        subst hh
        exact h
      · rename_i hne
        refine List.pairwise_cons.mpr ⟨fun z hz => ?_, h⟩
        rcases List.mem_cons.mp hz with rfl | hz
        · omega
        · have := h1 z hz
          omega
theorem pw_ext : ∀ (l l' : List Int), l.Pairwise (· < ·) → l'.Pairwise (· < ·) → (∀ z, z ∈ l ↔ z ∈ l') → l = l'
  | [], [], _, _, _ => rfl
  | [], y :: r, _, _, h => absurd ((h y).mpr (by simp)) (by simp)
  | x :: l, [], _, _, h => absurd ((h x).mp (by simp)) (by simp)
  | x :: l, y :: r, h1, h2, h => by
    obtain ⟨a1, a2⟩ := List.pairwise_cons.mp h1
    obtain ⟨b1, b2⟩ := List.pairwise_cons.mp h2
    have hxy : x = y := by
      have h3 := (h x).mp (by simp)
      have h4 := (h y).mpr (by simp)
      rcases List.mem_cons.mp h3 with h3 | h3
      · exact h3
      · rcases List.mem_cons.mp h4 with h4 | h4
        · exact h4.symm
        · have := b1 x h3
          have := a1 y h4
          omega
    subst hxy
    rw [pw_ext l r a2 b2 fun z => ?_]
    constructor
    · intro hz
      rcases List.mem_cons.mp ((h z).mp (by simp [hz])) with h3 | h3
      · have := a1 z hz
        omega
      · exact h3
    · intro hz
      rcases List.mem_cons.mp ((h z).mpr (by simp [hz])) with h3 | h3
      · have := b1 z hz
        omega
      · exact h3
def rlist (l xs : List Int) : List Int := xs.foldl (fun l x => layL x l) l
theorem rlist_mem (z : Int) : ∀ (xs l : List Int), z ∈ rlist l xs ↔ z ∈ l ∨ z ∈ xs
  | [], l => by simp [rlist]
  | x :: xs, l => by
    have := rlist_mem z xs (layL x l)
    unfold rlist at *
    rw [List.foldl_cons, this, layL_mem, List.mem_cons]
    constructor
    · rintro ((h | h) | h)
      · exact .inr (.inl h)
      · exact .inl h
      · exact .inr (.inr h)
    · rintro (h | h | h)
      · exact .inl (.inr h)
      · exact .inl (.inl h)
      · exact .inr h
theorem rlist_pw : ∀ (xs l : List Int), l.Pairwise (· < ·) → (rlist l xs).Pairwise (· < ·)
  | [], l, h => h
  | x :: xs, l, h => by
    unfold rlist
    exact rlist_pw xs (layL x l) (layL_pw x l h)
theorem rlist_len : ∀ (xs l : List Int), (rlist l xs).length ≤ l.length + xs.length
  | [], l => by simp [rlist]
  | x :: xs, l => by
    have h1 := rlist_len xs (layL x l)
    have h2 := layL_len x l
    unfold rlist at *
    rw [List.foldl_cons]
    simp only [List.length_cons]
    omega
theorem bes_rlist (es : List Ed) (v : Int) : bes es v = rlist [] (cand es v) := by
  refine pw_ext _ _ (dd_pw _ (srt_pw _)) (rlist_pw _ _ List.Pairwise.nil) fun z => ?_
  rw [rlist_mem]
  unfold bes
  rw [dd_mem, (srt_perm _).mem_iff]
  simp
theorem bes_mem (es : List Ed) (v z : Int) : z ∈ bes es v ↔ z ∈ cand es v := by
  unfold bes
  rw [dd_mem, (srt_perm _).mem_iff]
theorem layL_split (x : Int) : ∀ (i : Nat) (l : List Int), (∀ j y, j < i → l[j]? = some y → y < x) → i ≤ l.length → layL x l = l.take i ++ layL x (l.drop i)
  | 0, l, _, _ => by simp
  | i + 1, [], _, h => by simp at h
  | i + 1, y :: r, h, hl => by
    have h0 : y < x := h 0 y (by omega) rfl
    have ih := layL_split x i r (fun j z hj hz => h (j + 1) z (by omega) (by simpa using hz)) (by simpa using hl)
    rw [layL, if_pos h0, List.take_succ_cons, List.drop_succ_cons, List.cons_append, ih]
theorem layL_stop (x : Int) : ∀ (l : List Int), (∀ y, l[0]? = some y → ¬ y < x) → layL x l = x :: (if l[0]? = some x then l.drop 1 else l)
  | [], _ => rfl
  | y :: r, h => by
    have h0 := h y rfl
    rw [layL, if_neg h0]
    by_cases hy : y = x
    · subst hy
      simp
    · rw [if_neg hy, if_neg (by simpa using hy)]
section
variable {H : Heap} {m : Nat} {p : PlanD} {ev wv nv : Value}
theorem lay_tail {H0 H1 : Heap} {v acc : Value} {xs : List Int} {x : Int} {i : Nat} (hv : Iw H0 v xs) (hl : xs.length ≤ 17592186043000) (he : Ext H0 H1) (ha : Iw H1 acc (xs.take i)) (hnew : New H0 acc) (hi : i ≤ xs.length) (hlt : ∀ j y, j < i → xs[j]? = some y → y < x) (hstop : ∀ y, xs[i]? = some y → ¬ y < x) (x2 x3 x4 x7 x8 x9 x10 x11 x12 x13 x14 x15 x16 x17 x18 x19 x20 x21 x22 x23 x24 x25 x26 x27 x28 x29 x30 x31 x32 x33 x34 x35 x36 x37 x38 x39 x40 x41 x42 x43 x44 x45 x46 x47 x48 x49 x50 x51 : Value) :
    ∃ H' u, f63_e0_0 (lvl Try.prog pk12 m) (loopN m) v (.int .i64 x) x2 x3 x4 acc (.int .i64 (i : Nat)) x7 x8 x9 x10 x11 x12 x13 x14 x15 x16 x17 x18 x19 x20 x21 x22 x23 x24 x25 x26 x27 x28 x29 x30 x31 x32 x33 x34 x35 x36 x37 x38 x39 x40 x41 x42 x43 x44 x45 x46 x47 x48 x49 x50 x51 H1 = some (u, H') ∧ Ext H0 H' ∧ Iw H' u (layL x xs) ∧ New H0 u := by
  have hsp := layL_split x i xs hlt hi
  have hst := layL_stop x (xs.drop i) (fun y hy => hstop y (by rw [List.getElem?_drop, Nat.add_zero] at hy; exact hy))
  rw [List.getElem?_drop, Nat.add_zero] at hst
  have hv1 : Iw H1 v xs := hv.keep fun b hb => he.2 b (hv.lt hb) id
  have hlen := hv1.len
  obtain ⟨a2, H2, t1, t2, t3, t4⟩ := ha.push1 (by' := 8) inC_len inC_all (by decide) x hnew he (roomy_mono (n := 17592186044100) (by decide) (by rw [List.length_take]; omega))
  have hv2 : Iw H2 v xs := hv.keep fun b hb => t4.2 b (hv.lt hb) id
  unfold f63_e0_0
  by_cases hil : i < xs.length
  · have hxi : xs[i]? = some xs[i] := List.getElem?_eq_getElem hil
    have e1 : decide ((i : Int) < xs.length) = true := decide_eq_true (by omega)
    obtain ⟨b, o, g1, g2, g3⟩ := hv1.rr.at_ inC_len hxi .i64
    have l1 : ld1 (.pointer (some ⟨b, o, none⟩)) H1 = some (.int .i64 xs[i], H1) := (g3 H1 rfl).2.1 0 _ rfl
    by_cases hx : xs[i] = x
    · have d : (xs[i] == x) = true := by simpa using hx
      have e3 : IntKind.i64.wrap ((i : Int) + 1) = ((i + 1 : Nat) : Int) := by rw [wrap_i64 (by omega) (by omega)]; omega
      obtain ⟨w, s1, s2, s3⟩ := hv2.rr.sub (P := Try.prog) inC_len szI (hi := none) (bnd_nat 0 .i64 (i + 1)) (r := xs.length) rfl (by omega) (Nat.le_refl _)
      rw [List.take_of_length_le (Nat.le_refl _)] at s2
      obtain ⟨a3, H3, q1, q2, q3, q4⟩ := t2.more inC_len inC_all (by decide) (by' := 8) s2.rs t3 t4 (roomy_mono (n := 17592186044100) (by decide) (by simp only [List.length_append, List.length_take, List.length_drop, List.length_cons, List.length_nil]; omega))
      refine ⟨H3, a3, ?_, q4, ?_, q3⟩
      · simp -implicitDefEqProofs only [r_opt, r_ret, ob_some, ifB_true, iteV_true, iteV_false, r_gdt, r_gdt2, r_gdtf, r_gdtf2, r_gdff, r_gdff2, r_gdft, r_gdft2, r_gdu, r_gdu2, pick_t, pick_f, ext_0, ext_1, x_newB, r_nil, r_fAddr, Nat.zero_add, b_lss, b_leq, b_gtr, b_geq, b_eql, b_neq, u_not, Bool.not_true, Bool.not_false, oneOf_one, oneOf_two, again_normal, again_exit, again_ret, Bool.and_true, hlen, e1, g1, l1, d, b_add, e3, bldI, t1, s1, q1]
      · rw [hsp, hst, if_pos (by rw [hxi, hx]), List.drop_drop]
        simpa using q2
    · have d : (xs[i] == x) = false := by simpa using hx
      obtain ⟨w, s1, s2, s3⟩ := hv2.rr.sub (P := Try.prog) inC_len szI (hi := none) (bnd_nat 0 .i64 i) (r := xs.length) rfl (by omega) (Nat.le_refl _)
      rw [List.take_of_length_le (Nat.le_refl _)] at s2
      obtain ⟨a3, H3, q1, q2, q3, q4⟩ := t2.more inC_len inC_all (by decide) (by' := 8) s2.rs t3 t4 (roomy_mono (n := 17592186044100) (by decide) (by simp only [List.length_append, List.length_take, List.length_drop, List.length_cons, List.length_nil]; omega))
      refine ⟨H3, a3, ?_, q4, ?_, q3⟩
      · simp -implicitDefEqProofs only [r_opt, r_ret, ob_some, ifB_true, iteV_true, iteV_false, r_gdt, r_gdt2, r_gdtf, r_gdtf2, r_gdff, r_gdff2, r_gdft, r_gdft2, r_gdu, r_gdu2, pick_t, pick_f, ext_0, ext_1, x_newB, r_nil, r_fAddr, Nat.zero_add, b_lss, b_leq, b_gtr, b_geq, b_eql, b_neq, u_not, Bool.not_true, Bool.not_false, oneOf_one, oneOf_two, again_normal, again_exit, again_ret, Bool.and_true, hlen, e1, g1, l1, d, bldI, t1, s1, q1]
      · rw [hsp, hst, if_neg (by rw [hxi]; simpa using hx)]
        simpa using q2
  · have e1 : decide ((i : Int) < xs.length) = false := decide_eq_false (by omega)
    obtain ⟨w, s1, s2, s3⟩ := hv2.rr.sub (P := Try.prog) inC_len szI (hi := none) (bnd_nat 0 .i64 i) (r := xs.length) rfl (by omega) (Nat.le_refl _)
    rw [List.take_of_length_le (Nat.le_refl _)] at s2
    obtain ⟨a3, H3, q1, q2, q3, q4⟩ := t2.more inC_len inC_all (by decide) (by' := 8) s2.rs t3 t4 (roomy_mono (n := 17592186044100) (by decide) (by simp only [List.length_append, List.length_take, List.length_drop, List.length_cons, List.length_nil]; omega))
    refine ⟨H3, a3, ?_, q4, ?_, q3⟩
    · simp -implicitDefEqProofs only [r_opt, r_ret, ob_some, ifB_true, iteV_true, iteV_false, r_gdt, r_gdt2, r_gdtf, r_gdtf2, r_gdff, r_gdff2, r_gdft, r_gdft2, r_gdu, r_gdu2, pick_t, pick_f, ext_0, ext_1, x_newB, r_nil, r_fAddr, Nat.zero_add, b_lss, b_leq, b_gtr, b_geq, b_eql, b_neq, u_not, Bool.not_true, Bool.not_false, oneOf_one, oneOf_two, again_normal, again_exit, again_ret, Bool.and_true, hlen, e1, bldI, t1, s1, q1]
    · rw [hsp, hst, if_neg (by rw [List.getElem?_eq_none (by omega)]; simp)]
      simpa using q2
theorem lay_loop {H0 : Heap} {v : Value} {xs : List Int} {x : Int} (hv : Iw H0 v xs) (hl : xs.length ≤ 17592186043000) : ∀ (q i k : Nat) (H1 : Heap) (acc : Value), xs.length - i = q → i ≤ xs.length → q < k → Ext H0 H1 → Iw H1 acc (xs.take i) → New H0 acc → (∀ j y, j < i → xs[j]? = some y → y < x) → ∀ (x2 x3 x4 x7 x8 x9 x10 x11 x12 x13 x14 x15 x16 x17 x18 x19 x20 x21 x22 x23 x24 x25 x26 x27 x28 x29 x30 x31 x32 x33 x34 x35 x36 x37 x38 x39 x40 x41 x42 x43 x44 x45 x46 x47 x48 x49 x50 x51 : Value),
    ∃ H' u, loopN k (runCode Try.prog (lvl Try.prog pk12 m) (loopN m) f63_c0) (f63_k0 (lvl Try.prog pk12 m) (loopN m)) [v, (.int .i64 x), x2, x3, x4, acc, (.int .i64 (i : Nat)), x7, x8, x9, x10, x11, x12, x13, x14, x15, x16, x17, x18, x19, x20, x21, x22, x23, x24, x25, x26, x27, x28, x29, x30, x31, x32, x33, x34, x35, x36, x37, x38, x39, x40, x41, x42, x43, x44, x45, x46, x47, x48, x49, x50, x51] H1 = some (u, H') ∧ Ext H0 H' ∧ Iw H' u (layL x xs) ∧ New H0 u := by
  intro q

  induction q with
  | zero =>
    intro i k H1 acc hr hi hk he ha hnew hlt
    intros
    obtain ⟨k, rfl⟩ : ∃ n, k = n + 1 := ⟨k - 1, by omega⟩
    obtain rfl : xs.length = i := by omega
    have e : decide (((xs.length : Nat) : Int) < (xs.length : Nat)) = false := by simp
    have hlen := hv.len
    rw [loop_succ, f63_b0_eq]
    unfold f63_b0
    simp -implicitDefEqProofs only [r_opt, r_ret, ob_some, ifB_true, iteV_true, iteV_false, r_gdt, r_gdt2, r_gdtf, r_gdtf2, r_gdff, r_gdff2, r_gdft, r_gdft2, r_gdu, r_gdu2, pick_t, pick_f, ext_0, ext_1, x_newB, r_nil, r_fAddr, Nat.zero_add, b_lss, b_leq, b_gtr, b_geq, b_eql, b_neq, u_not, Bool.not_true, Bool.not_false, oneOf_one, oneOf_two, again_normal, again_exit, again_ret, Bool.and_true, hlen, e]
    rw [f63_e0_0_eq]
    exact lay_tail hv hl he ha hnew (Nat.le_refl _) hlt (fun y hy => by rw [List.getElem?_eq_none (Nat.le_refl _)] at hy; cases hy) ..
  | succ q ih =>
    intro i k H1 acc hr hi hk he ha hnew hlt
    intros
    obtain ⟨k, rfl⟩ : ∃ n, k = n + 1 := ⟨k - 1, by omega⟩
    have e : decide ((i : Int) < (xs.length : Nat)) = true := decide_eq_true (by omega)
    have e3 : IntKind.i64.wrap ((i : Int) + 1) = ((i + 1 : Nat) : Int) := by rw [wrap_i64 (by omega) (by omega)]; omega
    have hlen := hv.len
    have hv1 : Iw H1 v xs := hv.keep fun b hb => he.2 b (hv.lt hb) id
    have hxi : xs[i]? = some xs[i] := List.getElem?_eq_getElem (by omega)
    obtain ⟨b, o, g1, g2, g3⟩ := hv1.rr.at_ inC_len hxi .i64
    have l1 : ld1 (.pointer (some ⟨b, o, none⟩)) H1 = some (.int .i64 xs[i], H1) := (g3 H1 rfl).2.1 0 _ rfl
    rw [loop_succ, f63_b0_eq]
    unfold f63_b0
    by_cases c : xs[i] < x
    · obtain ⟨a2, H2, t1, t2, t3, t4⟩ := ha.push1 (by' := 8) inC_len inC_all (by decide) xs[i] hnew he (roomy_mono (n := 17592186044100) (by decide) (by rw [List.length_take]; omega))
      simp -implicitDefEqProofs only [r_opt, r_ret, ob_some, ifB_true, iteV_true, iteV_false, r_gdt, r_gdt2, r_gdtf, r_gdtf2, r_gdff, r_gdff2, r_gdft, r_gdft2, r_gdu, r_gdu2, pick_t, pick_f, ext_0, ext_1, x_newB, r_nil, r_fAddr, Nat.zero_add, b_lss, b_leq, b_gtr, b_geq, b_eql, b_neq, u_not, Bool.not_true, Bool.not_false, oneOf_one, oneOf_two, again_normal, again_exit, again_ret, Bool.and_true, hlen, e, g1, l1, c, decide_true, bldI, t1, b_add, e3]
      refine ih (i + 1) k H2 a2 (by omega) (by omega) (by omega) t4 (by rw [List.take_add_one, hxi]; exact t2) t3 (fun j y hj hy => ?_) ..
      by_cases hji : j = i
      · subst hji
        rw [hxi] at hy
        cases hy
        exact c
      · exact hlt j y (by omega) hy
    · simp -implicitDefEqProofs only [r_opt, r_ret, ob_some, ifB_true, iteV_true, iteV_false, r_gdt, r_gdt2, r_gdtf, r_gdtf2, r_gdff, r_gdff2, r_gdft, r_gdft2, r_gdu, r_gdu2, pick_t, pick_f, ext_0, ext_1, x_newB, r_nil, r_fAddr, Nat.zero_add, b_lss, b_leq, b_gtr, b_geq, b_eql, b_neq, u_not, Bool.not_true, Bool.not_false, oneOf_one, oneOf_two, again_normal, again_exit, again_ret, Bool.and_true, hlen, e, g1, l1, c, decide_false]
      rw [f63_e0_0_eq]
      exact lay_tail hv hl he ha hnew (by omega) hlt (fun y hy => by rw [hxi] at hy; cases hy; exact c) ..
theorem lay_is {v : Value} {xs : List Int} (hv : Iw H v xs) (x : Int) (hl : xs.length ≤ 17592186043000) (hn : xs.length + 10 < m) (hm : m ≤ 72057594037927936) : ∃ H' u, lvl Try.prog pk12 m (.func 63) [v, .int .i64 x] H = some (u, H') ∧ Ext H H' ∧ Iw H' u (layL x xs) ∧ New H u := by
  refine lvl_ex (pk_no rfl rfl) (by omega) ?_
  rw [f63_eq]
  unfold f63
  exact lay_loop hv (by omega) xs.length 0 (m - 1) H _ (by omega) (by omega) (by omega) (Fr.refl _ _) (Rw.nil (el := inC)) (New.nil _) (fun j y h => by omega) ..
theorem rbes_loop {H0 : Heap} {a : Nat} {v : Int} (hp : Es H0 ev p.edges) (hL : p.edges.length ≤ 17592186043000) (hn : p.edges.length + 50 < m) (hm : m ≤ 72057594037927936) : ∀ (q i k : Nat) (H1 : Heap) (acc : Value), p.edges.length - i = q → i ≤ p.edges.length → q < k → Ext H0 H1 → H0[a]? = some (plB p ev wv nv) → Iw H1 acc (rlist [] (cand (p.edges.take i) v)) → New H0 acc → ∀ (x0 x3 x4 x7 x8 x9 x10 x11 x12 x13 x14 x15 x16 x17 x18 x19 x20 x21 x22 x23 x24 x25 x26 x27 x28 x29 x30 x31 x32 x33 x34 x35 x36 x37 x38 x39 x40 x41 x42 x43 x44 x45 x46 x47 x48 : Value),
    ∃ H' u, loopN k (runCode Try.prog (lvl Try.prog pk12 m) (loopN m) f42_c0) (f42_k0 (lvl Try.prog pk12 m) (loopN m)) [x0, (.int .i64 v), (.pointer (some ⟨a, 0, none⟩)), x3, x4, acc, (.int .i64 (i : Nat)), x7, x8, x9, x10, x11, x12, x13, x14, x15, x16, x17, x18, x19, x20, x21, x22, x23, x24, x25, x26, x27, x28, x29, x30, x31, x32, x33, x34, x35, x36, x37, x38, x39, x40, x41, x42, x43, x44, x45, x46, x47, x48] H1 = some (u, H') ∧ Ext H0 H' ∧ Iw H' u (bes p.edges v) ∧ New H0 u := by
  intro q

  induction q with
  | zero =>
    intro i k H1 acc hr hi hk he hb0 ha hnew
    intros
    obtain ⟨k, rfl⟩ : ∃ n, k = n + 1 := ⟨k - 1, by omega⟩
    obtain rfl : p.edges.length = i := by omega
    have e : decide (((p.edges.length : Nat) : Int) < (p.edges.length : Nat)) = false := by simp
    have hb := ld_of hb0 he
    have l1 := ld_pl hb 1 _ rfl
    have hlen := (hp.ext he).len
    rw [List.take_of_length_le (Nat.le_refl _), ← bes_rlist] at ha
    refine ⟨H1, acc, ?_, he, ha, hnew⟩
    rw [loop_succ, f42_b0_eq]
    unfold f42_b0
    simp -implicitDefEqProofs only [r_opt, r_ret, ob_some, ifB_true, iteV_true, iteV_false, r_gdt, r_gdt2, r_gdtf, r_gdtf2, r_gdff, r_gdff2, r_gdft, r_gdft2, r_gdu, r_gdu2, pick_t, pick_f, ext_0, ext_1, x_newB, r_nil, r_fAddr, Nat.zero_add, b_lss, b_leq, b_gtr, b_geq, b_eql, b_neq, u_not, Bool.not_true, Bool.not_false, oneOf_one, oneOf_two, again_normal, again_exit, again_ret, Bool.and_true, l1, hlen, e]
    rw [f42_e0_0_eq]
    rfl
  | succ q ih =>
    intro i k H1 acc hr hi hk he hb0 ha hnew
    intros
    obtain ⟨k, rfl⟩ : ∃ n, k = n + 1 := ⟨k - 1, by omega⟩
    have e : decide ((i : Int) < (p.edges.length : Nat)) = true := decide_eq_true (by omega)
    have e3 : IntKind.i64.wrap ((i : Int) + 1) = ((i + 1 : Nat) : Int) := by rw [wrap_i64 (by omega) (by omega)]; omega
    have hb := ld_of hb0 he
    have l1 := ld_pl hb 1 _ rfl
    have hlen := (hp.ext he).len
    have hxi : p.edges[i]? = some p.edges[i] := List.getElem?_eq_getElem (by omega)
    obtain ⟨b, o, g1, g2, g3⟩ := (hp.ext he).at_ edC_len hxi .i64
    obtain ⟨y, hy⟩ : ∃ y, y = p.edges[i] := ⟨_, rfl⟩
    have le : ldN 2 (.pointer (some ⟨b, o, none⟩)) H1 = some (edV y, H1) := by rw [hy]; exact (g3 H1 rfl).1
    rw [← hy] at hxi
    have hct := cand_take v hxi
    have hcl := cand_le v (p.edges.take i)
    rw [List.length_take] at hcl
    have hrl := rlist_len (cand (p.edges.take i) v) []
    simp only [List.length_nil] at hrl
    have st := st_ed y H1
    obtain ⟨H2, hH2⟩ : ∃ H2, H2 = H1 ++ [edB y] := ⟨_, rfl⟩
    rw [← hH2] at st
    have x1 : Ext H1 H2 := by rw [hH2]; exact Fr.app _ _ _
    have hb2 : H2[H1.length]? = some (edB y) := by rw [hH2]; exact at_last _ _
    have la := ld_ed0 hb2
    have lb := ld_ed1 hb2
    have ha2 : Iw H2 acc (rlist [] (cand (p.edges.take i) v)) := by rw [hH2]; exact ha.on _
    have rapp : ∀ z, rlist [] (cand (p.edges.take i) v ++ [z]) = layL z (rlist [] (cand (p.edges.take i) v)) := fun z => by unfold rlist; rw [List.foldl_append]; rfl
    rw [loop_succ, f42_b0_eq]
    unfold f42_b0
    by_cases c1 : y.1 = v
    · have d1 : (y.1 == v) = true := by simpa using c1
      by_cases c2 : y.2 = v
      · have d2 : (y.2 != v) = false := by simpa using c2
        have d3 : (y.2 == v) = true := by simpa using c2
        have d4 : (y.1 != v) = false := by simpa using c1
        have hc0 : candE v y = [] := by unfold candE; rw [if_pos (by rw [c1, c2])]
        rw [hc0, List.append_nil] at hct
        simp -implicitDefEqProofs only [r_opt, r_ret, ob_some, ifB_true, iteV_true, iteV_false, r_gdt, r_gdt2, r_gdtf, r_gdtf2, r_gdff, r_gdff2, r_gdft, r_gdft2, r_gdu, r_gdu2, pick_t, pick_f, ext_0, ext_1, x_newB, r_nil, r_fAddr, Nat.zero_add, b_lss, b_leq, b_gtr, b_geq, b_eql, b_neq, u_not, Bool.not_true, Bool.not_false, oneOf_one, oneOf_two, again_normal, again_exit, again_ret, Bool.and_true, l1, hlen, e, g1, le, zEd, st, la, lb, d1, d2, d3, d4, b_add, e3]
        exact ih (i + 1) k H2 acc (by omega) (by omega) (by omega) (he.tr x1) hb0 (by rw [hct]; exact ha2) hnew ..
      · have d2 : (y.2 != v) = true := by simpa using c2
        have d3 : (y.2 == v) = false := by simpa using c2
        have hc0 : candE v y = [y.2] := by unfold candE; rw [if_neg (by rw [c1]; exact fun h => c2 h.symm), if_pos c1]
        rw [hc0] at hct
        obtain ⟨H3, u, q1, q2, q3, q4⟩ := lay_is ha2 y.2 (m := m) (by omega) (by omega) hm
        have hb3 := ld_of hb2 q2
        have la3 := ld_ed0 hb3
        have lb3 := ld_ed1 hb3
        simp -implicitDefEqProofs only [r_opt, r_ret, ob_some, ifB_true, iteV_true, iteV_false, r_gdt, r_gdt2, r_gdtf, r_gdtf2, r_gdff, r_gdff2, r_gdft, r_gdft2, r_gdu, r_gdu2, pick_t, pick_f, ext_0, ext_1, x_newB, r_nil, r_fAddr, Nat.zero_add, b_lss, b_leq, b_gtr, b_geq, b_eql, b_neq, u_not, Bool.not_true, Bool.not_false, oneOf_one, oneOf_two, again_normal, again_exit, again_ret, Bool.and_true, l1, hlen, e, g1, le, zEd, st, la, lb, d1, d2, q1, la3, lb3, d3, b_add, e3]
        exact ih (i + 1) k H3 u (by omega) (by omega) (by omega) ((he.tr x1).tr q2) hb0 (by rw [hct, rapp]; exact q3) (fun b' hb' => Nat.le_trans (he.tr x1).1 (q4 b' hb')) ..
    · have d1 : (y.1 == v) = false := by simpa using c1
      have d4 : (y.1 != v) = true := by simpa using c1
      by_cases c2 : y.2 = v
      · have d3 : (y.2 == v) = true := by simpa using c2
        have hc0 : candE v y = [y.1] := by unfold candE; rw [if_neg (by rw [c2]; exact c1), if_neg c1, if_pos c2]
        rw [hc0] at hct
        obtain ⟨H3, u, q1, q2, q3, q4⟩ := lay_is ha2 y.1 (m := m) (by omega) (by omega) hm
        simp -implicitDefEqProofs only [r_opt, r_ret, ob_some, ifB_true, iteV_true, iteV_false, r_gdt, r_gdt2, r_gdtf, r_gdtf2, r_gdff, r_gdff2, r_gdft, r_gdft2, r_gdu, r_gdu2, pick_t, pick_f, ext_0, ext_1, x_newB, r_nil, r_fAddr, Nat.zero_add, b_lss, b_leq, b_gtr, b_geq, b_eql, b_neq, u_not, Bool.not_true, Bool.not_false, oneOf_one, oneOf_two, again_normal, again_exit, again_ret, Bool.and_true, l1, hlen, e, g1, le, zEd, st, la, lb, d1, d3, d4, q1, b_add, e3]
        exact ih (i + 1) k H3 u (by omega) (by omega) (by omega) ((he.tr x1).tr q2) hb0 (by rw [hct, rapp]; exact q3) (fun b' hb' => Nat.le_trans (he.tr x1).1 (q4 b' hb')) ..
      · have d3 : (y.2 == v) = false := by simpa using c2
        have hc0 : candE v y = [] := by
          unfold candE
          rw [if_neg c1, if_neg c2]
          split <;> rfl
        rw [hc0, List.append_nil] at hct
        simp -implicitDefEqProofs only [r_opt, r_ret, ob_some, ifB_true, iteV_true, iteV_false, r_gdt, r_gdt2, r_gdtf, r_gdtf2, r_gdff, r_gdff2, r_gdft, r_gdft2, r_gdu, r_gdu2, pick_t, pick_f, ext_0, ext_1, x_newB, r_nil, r_fAddr, Nat.zero_add, b_lss, b_leq, b_gtr, b_geq, b_eql, b_neq, u_not, Bool.not_true, Bool.not_false, oneOf_one, oneOf_two, again_normal, again_exit, again_ret, Bool.and_true, l1, hlen, e, g1, le, zEd, st, la, lb, d1, d3, b_add, e3]
        exact ih (i + 1) k H2 acc (by omega) (by omega) (by omega) (he.tr x1) hb0 (by rw [hct]; exact ha2) hnew ..
theorem rbes_is (hp : PV H p ev wv nv) (hn : p.edges.length + 60 < m) (hm : m ≤ 72057594037927936) (v : Int) : ∃ H' u, lvl Try.prog pk12 m (.func 42) [plV p ev wv nv, .int .i64 v] H = some (u, H') ∧ Ext H H' ∧ Iw H' u (bes p.edges v) ∧ New H u := by
  have hL := hp.be
  obtain ⟨H0, hH0⟩ : ∃ H0, H0 = H ++ [plB p ev wv nv] := ⟨_, rfl⟩
  have x0 : Ext H H0 := by rw [hH0]; exact Fr.app _ _ _
  have b0 : H0[H.length]? = some (plB p ev wv nv) := by rw [hH0]; exact at_last _ _
  obtain ⟨H', u, g1, g2, g3, g4⟩ : ∃ H' u, lvl Try.prog pk12 m (.func 42) [plV p ev wv nv, .int .i64 v] H = some (u, H') ∧ Ext H0 H' ∧ Iw H' u (bes p.edges v) ∧ New H0 u := by
    refine lvl_ex (pk_no rfl rfl) (by omega) ?_
    rw [f42_eq]
    unfold f42
    simp -implicitDefEqProofs only [r_opt, r_ret, ob_some, ifB_true, iteV_true, iteV_false, r_gdt, r_gdt2, r_gdtf, r_gdtf2, r_gdff, r_gdff2, r_gdft, r_gdft2, r_gdu, r_gdu2, pick_t, pick_f, ext_0, ext_1, x_newB, r_nil, r_fAddr, Nat.zero_add, b_lss, b_leq, b_gtr, b_geq, b_eql, b_neq, u_not, Bool.not_true, Bool.not_false, oneOf_one, oneOf_two, again_normal, again_exit, again_ret, Bool.and_true, plV_cells, ← hH0]
    exact rbes_loop (hp.e.ext x0) hp.be (m := m - 1) (by omega) (by omega) p.edges.length 0 (m - 1) H0 _ (by omega) (by omega) (by omega) (Fr.refl _ _) b0 (Rw.nil (el := inC)) (New.nil _) ..
  exact ⟨H', u, g1, x0.tr g2, g3, fun b hb => Nat.le_trans x0.1 (g4 b hb)⟩
theorem rport_loop {u : Value} {xs : List Int} {w : Int} (hx : Is H u xs) (hl : xs.length ≤ 17592186043000) : ∀ (q i k : Nat), xs.length - i = q → i ≤ xs.length → q < k → ∀ (x0 x1 x3 x4 x5 x6 x9 x10 x11 x12 x13 x14 x15 x16 x17 x18 x19 x20 x21 x22 x23 x24 x25 : Value),
    loopN k (runCode Try.prog (lvl Try.prog pk12 m) (loopN m) f43_c0) (f43_k0 (lvl Try.prog pk12 m) (loopN m)) [x0, x1, (.int .i64 w), x3, x4, x5, x6, u, (.int .i64 (i : Nat)), x9, x10, x11, x12, x13, x14, x15, x16, x17, x18, x19, x20, x21, x22, x23, x24, x25] H = some (.int .i64 (if fst (fun j => xs[j]? == some w) q i < 0 then fst (fun j => xs[j]? == some w) q i else fst (fun j => xs[j]? == some w) q i + 1), H) := by
  intro q

  induction q with
  | zero =>
    intro i k  hr hi hk 
    intros
    obtain ⟨k, rfl⟩ : ∃ n, k = n + 1 := ⟨k - 1, by omega⟩
    obtain rfl : xs.length = i := by omega
    have e : decide (((xs.length : Nat) : Int) < (xs.length : Nat)) = false := by simp
    have hlen := hx.len
    rw [loop_succ, f43_b0_eq]
    unfold f43_b0
    simp -implicitDefEqProofs only [r_opt, r_ret, ob_some, ifB_true, iteV_true, iteV_false, r_gdt, r_gdt2, r_gdtf, r_gdtf2, r_gdff, r_gdff2, r_gdft, r_gdft2, r_gdu, r_gdu2, pick_t, pick_f, ext_0, ext_1, x_newB, r_nil, r_fAddr, Nat.zero_add, b_lss, b_leq, b_gtr, b_geq, b_eql, b_neq, u_not, Bool.not_true, Bool.not_false, oneOf_one, oneOf_two, again_normal, again_exit, again_ret, Bool.and_true, hlen, e]
    rw [f43_e0_0_eq]
    rfl
  | succ q ih =>
    intro i k  hr hi hk 
    intros
    obtain ⟨k, rfl⟩ : ∃ n, k = n + 1 := ⟨k - 1, by omega⟩
    have e : decide ((i : Int) < (xs.length : Nat)) = true := decide_eq_true (by omega)
    have e3 : IntKind.i64.wrap ((i : Int) + 1) = ((i + 1 : Nat) : Int) := by rw [wrap_i64 (by omega) (by omega)]; omega
    have hlen := hx.len
    have hxi : xs[i]? = some xs[i] := List.getElem?_eq_getElem (by omega)
    obtain ⟨b, o, g1, g2, g3⟩ := hx.at_ inC_len hxi .i64
    have l1 : ld1 (.pointer (some ⟨b, o, none⟩)) H = some (.int .i64 xs[i], H) := (g3 H rfl).2.1 0 _ rfl
    rw [loop_succ, f43_b0_eq]
    unfold f43_b0
    unfold fst
    by_cases h : xs[i] = w
    · have d : (xs[i] == w) = true := by rw [h]; simp
      have d2 : (xs[i]? == some w) = true := by rw [hxi, h]; simp
      have d3 : ¬ ((i : Nat) : Int) < 0 := by omega
      simp -implicitDefEqProofs only [r_opt, r_ret, ob_some, ifB_true, iteV_true, iteV_false, r_gdt, r_gdt2, r_gdtf, r_gdtf2, r_gdff, r_gdff2, r_gdft, r_gdft2, r_gdu, r_gdu2, pick_t, pick_f, ext_0, ext_1, x_newB, r_nil, r_fAddr, Nat.zero_add, b_lss, b_leq, b_gtr, b_geq, b_eql, b_neq, u_not, Bool.not_true, Bool.not_false, oneOf_one, oneOf_two, again_normal, again_exit, again_ret, Bool.and_true, hlen, e, g1, l1, d, b_add, e3]
      rw [f43_r0_eq]
      unfold f43_r0
      rw [if_pos d2, if_neg d3, oneOf_one]
      rfl
    · have d : (xs[i] == w) = false := by simpa using h
      have d2 : ¬ (xs[i]? == some w) = true := by rw [hxi]; simpa using h
      simp -implicitDefEqProofs only [r_opt, r_ret, ob_some, ifB_true, iteV_true, iteV_false, r_gdt, r_gdt2, r_gdtf, r_gdtf2, r_gdff, r_gdff2, r_gdft, r_gdft2, r_gdu, r_gdu2, pick_t, pick_f, ext_0, ext_1, x_newB, r_nil, r_fAddr, Nat.zero_add, b_lss, b_leq, b_gtr, b_geq, b_eql, b_neq, u_not, Bool.not_true, Bool.not_false, oneOf_one, oneOf_two, again_normal, again_exit, again_ret, Bool.and_true, hlen, e, g1, l1, d, b_add, e3]
      rw [if_neg d2]
      exact ih (i + 1) k (by omega) (by omega) (by omega) ..
theorem rport_is (hp : PV H p ev wv nv) (hn : p.edges.length + 70 < m) (hm : m ≤ 72057594037927936) (v w : Int) : ∃ H', lvl Try.prog pk12 m (.func 43) [plV p ev wv nv, .int .i64 v, .int .i64 w] H = some (.int .i64 (portOf p.edges v w), H') ∧ Ext H H' := by
  have hL := hp.be
  obtain ⟨H0, hH0⟩ : ∃ H0, H0 = H ++ [plB p ev wv nv] := ⟨_, rfl⟩
  have x0 : Ext H H0 := by rw [hH0]; exact Fr.app _ _ _
  have b0 : H0[H.length]? = some (plB p ev wv nv) := by rw [hH0]; exact at_last _ _
  have l11 := ld_pl11 b0
  obtain ⟨H1, u, g1, g2, g3, g4⟩ := rbes_is (hp.ext x0) (m := m - 1) (by omega) (by omega) v
  have hb := bes_le p.edges v
  refine lvl_ex1 (pk_no rfl rfl) (by omega) ⟨H1, ?_, x0.tr g2⟩
  rw [f43_eq]
  unfold f43 portOf
  simp -implicitDefEqProofs only [r_opt, r_ret, ob_some, ifB_true, iteV_true, iteV_false, r_gdt, r_gdt2, r_gdtf, r_gdtf2, r_gdff, r_gdff2, r_gdft, r_gdft2, r_gdu, r_gdu2, pick_t, pick_f, ext_0, ext_1, x_newB, r_nil, r_fAddr, Nat.zero_add, b_lss, b_leq, b_gtr, b_geq, b_eql, b_neq, u_not, Bool.not_true, Bool.not_false, oneOf_one, oneOf_two, again_normal, again_exit, again_ret, Bool.and_true, plV_cells, ← hH0, l11, g1]
  exact rport_loop g3.rs (by omega) (bes p.edges v).length 0 (m - 1) (by omega) (by omega) (by omega) ..
end
end Go.Proofs.Ytdobnaldfmpimaa

set_option linter.unusedSectionVars false
set_option linter.unusedSimpArgs false
set_option linter.unusedVariables false
set_option maxRecDepth 100000
namespace Go.Proofs.Ytdobnaldfmpimaa
open Go.Abs
section
variable {H : Heap} {m : Nat} {p : PlanD} {ev wv nv : Value}
theorem rwi_is (hm : 0 < m) (x lo hi : Int) (H : Heap) : lvl Try.prog pk12 m (.func 60) [.int .i64 x, .int .i64 lo, .int .i64 hi] H = some (.bool (wi x lo hi), H) := by
  refine lvl_at (pk_no rfl rfl) hm ?_
  rw [f60_eq]
  unfold f60 wi
  by_cases h : lo ≤ x
  · simp -implicitDefEqProofs only [r_opt, r_ret, ob_some, ifB_true, iteV_true, iteV_false, r_gdt, r_gdt2, r_gdtf, r_gdtf2, r_gdff, r_gdff2, r_gdft, r_gdft2, r_gdu, r_gdu2, pick_t, pick_f, ext_0, ext_1, x_newB, r_nil, r_fAddr, Nat.zero_add, b_lss, b_leq, b_gtr, b_geq, b_eql, b_neq, u_not, Bool.not_true, Bool.not_false, oneOf_one, oneOf_two, again_normal, again_exit, again_ret, Bool.and_true, h, decide_true, Bool.true_and]
  · simp -implicitDefEqProofs only [r_opt, r_ret, ob_some, ifB_true, iteV_true, iteV_false, r_gdt, r_gdt2, r_gdtf, r_gdtf2, r_gdff, r_gdff2, r_gdft, r_gdft2, r_gdu, r_gdu2, pick_t, pick_f, ext_0, ext_1, x_newB, r_nil, r_fAddr, Nat.zero_add, b_lss, b_leq, b_gtr, b_geq, b_eql, b_neq, u_not, Bool.not_true, Bool.not_false, oneOf_one, oneOf_two, again_normal, again_exit, again_ret, Bool.and_true, h, decide_false, Bool.false_and]
theorem ld_ed2 {H : Heap} {b : Nat} {y : Ed} (h : H[b]? = some (edB y)) : ldN 2 (.pointer (some ⟨b, 0, none⟩)) H = some (edV y, H) := by
  rw [x_ldN, h]
  unfold edB
  rw [x_ldNC _ _ _ _ _ (by simp [edC])]
  rfl
theorem redges_loop1 {H0 : Heap} {a eb i0 kk : Nat} {y : Ed} {R : Bool} (hp : Es H ev p.edges) (hb : H[a]? = some (plB p ev wv nv)) (he0 : H[eb]? = some (edB y)) (hi0 : i0 ≤ p.edges.length) (hn : p.edges.length ≤ 72057594037927936) (hx : Ext H0 H)
    (hK : ∀ (x0 x4 x5 x6 x7 x8 x9 x10 x11 x12 x13 x14 x15 x16 x17 x18 x19 x20 x21 x22 x23 x24 x25 x26 x27 x28 x29 x30 x31 x32 x33 x34 x35 x36 x37 x38 x39 x40 x41 x42 x43 x44 x45 x46 x47 x48 x49 x50 : Value), ∃ H2, loopN kk (runCode Try.prog (lvl Try.prog pk12 m) (loopN m) f61_c0) (f61_k0 (lvl Try.prog pk12 m) (loopN m)) [x0, (.pointer (some ⟨a, 0, none⟩)), (.bool false), (.int .i64 (IntKind.i64.wrap ((i0 : Int) + 1))), x4, x5, x6, x7, x8, x9, x10, x11, x12, x13, x14, x15, x16, x17, x18, x19, x20, x21, x22, x23, x24, x25, x26, x27, x28, x29, x30, x31, x32, x33, x34, x35, x36, x37, x38, x39, x40, x41, x42, x43, x44, x45, x46, x47, x48, x49, x50] H = some (.bool R, H2) ∧ Ext H0 H2) : ∀ (q i k : Nat), i0 - i = q → i ≤ i0 → q < k → ∀ (x0 x6 x7 x8 x9 x10 x11 x12 x13 x14 x15 x16 x17 x18 x19 x20 x21 x22 x23 x24 x25 x26 x27 x28 x29 x30 x31 x32 x33 x34 x35 x36 x37 x38 x39 x40 x41 x42 x43 x44 x45 x46 x47 x48 x49 x50 : Value),
    ∃ H2, loopN k (runCode Try.prog (lvl Try.prog pk12 m) (loopN m) f61_c1) (f61_k1 (lvl Try.prog pk12 m) (loopN m) (again kk (runCode Try.prog (lvl Try.prog pk12 m) (loopN m) f61_c0) (f61_k0 (lvl Try.prog pk12 m) (loopN m)))) [x0, (.pointer (some ⟨a, 0, none⟩)), (.bool false), (.int .i64 (i0 : Nat)), (.pointer (some ⟨eb, 0, none⟩)), (.int .i64 (i : Nat)), x6, x7, x8, x9, x10, x11, x12, x13, x14, x15, x16, x17, x18, x19, x20, x21, x22, x23, x24, x25, x26, x27, x28, x29, x30, x31, x32, x33, x34, x35, x36, x37, x38, x39, x40, x41, x42, x43, x44, x45, x46, x47, x48, x49, x50] H = some (.bool (!(((p.edges.take i0).drop i).any fun x => x == y) && R), H2) ∧ Ext H0 H2 := by
  intro q

  induction q with
  | zero =>
    intro i k  hr hi hk 
    intros
    obtain ⟨k, rfl⟩ : ∃ n, k = n + 1 := ⟨k - 1, by omega⟩
    obtain rfl : i0 = i := by omega
    have e : decide (((i0 : Nat) : Int) < (i0 : Nat)) = false := by simp
    have hd0 : (p.edges.take i0).drop i0 = [] := List.drop_eq_nil_of_le (by rw [List.length_take]; omega)
    rw [hd0, List.any_nil, Bool.not_false, Bool.true_and]
    rw [loop_succ, f61_b1_eq]
    unfold f61_b1
    simp -implicitDefEqProofs only [r_opt, r_ret, ob_some, ifB_true, iteV_true, iteV_false, r_gdt, r_gdt2, r_gdtf, r_gdtf2, r_gdff, r_gdff2, r_gdft, r_gdft2, r_gdu, r_gdu2, pick_t, pick_f, ext_0, ext_1, x_newB, r_nil, r_fAddr, Nat.zero_add, b_lss, b_leq, b_gtr, b_geq, b_eql, b_neq, u_not, Bool.not_true, Bool.not_false, oneOf_one, oneOf_two, again_normal, again_exit, again_ret, Bool.and_true, e]
    rw [f61_e1_2_eq]
    unfold f61_e1_2
    simp -implicitDefEqProofs only [r_opt, r_ret, ob_some, ifB_true, iteV_true, iteV_false, r_gdt, r_gdt2, r_gdtf, r_gdtf2, r_gdff, r_gdff2, r_gdft, r_gdft2, r_gdu, r_gdu2, pick_t, pick_f, ext_0, ext_1, x_newB, r_nil, r_fAddr, Nat.zero_add, b_lss, b_leq, b_gtr, b_geq, b_eql, b_neq, u_not, Bool.not_true, Bool.not_false, oneOf_one, oneOf_two, again_normal, again_exit, again_ret, Bool.and_true, b_add]
    exact hK ..
  | succ q ih =>
    intro i k  hr hi hk 
    intros
    obtain ⟨k, rfl⟩ : ∃ n, k = n + 1 := ⟨k - 1, by omega⟩
    have e : decide ((i : Int) < (i0 : Nat)) = true := decide_eq_true (by omega)
    have e3 : IntKind.i64.wrap ((i : Int) + 1) = ((i + 1 : Nat) : Int) := by rw [wrap_i64 (by omega) (by omega)]; omega
    have l1 := ld_pl hb 1 _ rfl
    have lab := ld_ed2 he0
    have hxi : p.edges[i]? = some (p.edges[i]'(by omega)) := List.getElem?_eq_getElem (by omega)
    obtain ⟨b, o, g1, g2, g3⟩ := hp.at_ edC_len hxi .i64
    have le : ldN 2 (.pointer (some ⟨b, o, none⟩)) H = some (edV (p.edges[i]'(by omega)), H) := (g3 H rfl).1
    have hdrop : (p.edges.take i0).drop i = p.edges[i]'(by omega) :: (p.edges.take i0).drop (i + 1) := by
      rw [List.drop_eq_getElem_cons (by rw [List.length_take]; omega), List.getElem_take]
    rw [hdrop, List.any_cons]
    rw [loop_succ, f61_b1_eq]
    unfold f61_b1
    cases c : (p.edges[i]'(by omega)) == y with
    | true =>
      refine ⟨H, ?_, hx⟩
      simp -implicitDefEqProofs only [r_opt, r_ret, ob_some, ifB_true, iteV_true, iteV_false, r_gdt, r_gdt2, r_gdtf, r_gdtf2, r_gdff, r_gdff2, r_gdft, r_gdft2, r_gdu, r_gdu2, pick_t, pick_f, ext_0, ext_1, x_newB, r_nil, r_fAddr, Nat.zero_add, b_lss, b_leq, b_gtr, b_geq, b_eql, b_neq, u_not, Bool.not_true, Bool.not_false, oneOf_one, oneOf_two, again_normal, again_exit, again_ret, Bool.and_true, e, l1, g1, le, lab, eEdge, c, Bool.true_or, Bool.not_true, Bool.false_and]
      rw [f61_r1_eq]
      unfold f61_r1
      rw [again_ret, f61_r0_eq]
      rfl
    | false =>
      simp -implicitDefEqProofs only [r_opt, r_ret, ob_some, ifB_true, iteV_true, iteV_false, r_gdt, r_gdt2, r_gdtf, r_gdtf2, r_gdff, r_gdff2, r_gdft, r_gdft2, r_gdu, r_gdu2, pick_t, pick_f, ext_0, ext_1, x_newB, r_nil, r_fAddr, Nat.zero_add, b_lss, b_leq, b_gtr, b_geq, b_eql, b_neq, u_not, Bool.not_true, Bool.not_false, oneOf_one, oneOf_two, again_normal, again_exit, again_ret, Bool.and_true, e, l1, g1, le, lab, eEdge, c, Bool.false_or, b_add, e3]
      exact ih (i + 1) k (by omega) (by omega) (by omega) ..
theorem redges_loop {H0 : Heap} {a : Nat} (hp : Es H0 ev p.edges) (hn : p.edges.length + 20 < m) (hm : m ≤ 72057594037927936) : ∀ (q i k : Nat) (H1 : Heap), p.edges.length - i = q → i ≤ p.edges.length → q < k → Ext H0 H1 → H0[a]? = some (plB p ev wv nv) → ∀ (x0 x4 x5 x6 x7 x8 x9 x10 x11 x12 x13 x14 x15 x16 x17 x18 x19 x20 x21 x22 x23 x24 x25 x26 x27 x28 x29 x30 x31 x32 x33 x34 x35 x36 x37 x38 x39 x40 x41 x42 x43 x44 x45 x46 x47 x48 x49 x50 : Value),
    ∃ H2, loopN k (runCode Try.prog (lvl Try.prog pk12 m) (loopN m) f61_c0) (f61_k0 (lvl Try.prog pk12 m) (loopN m)) [x0, (.pointer (some ⟨a, 0, none⟩)), (.bool false), (.int .i64 (i : Nat)), x4, x5, x6, x7, x8, x9, x10, x11, x12, x13, x14, x15, x16, x17, x18, x19, x20, x21, x22, x23, x24, x25, x26, x27, x28, x29, x30, x31, x32, x33, x34, x35, x36, x37, x38, x39, x40, x41, x42, x43, x44, x45, x46, x47, x48, x49, x50] H1 = some (.bool (edOk p.nodes (p.edges.take i) (p.edges.drop i) && decide ((p.edges.length : Int) ≤ 15)), H2) ∧ Ext H0 H2 := by
  intro q

  induction q with
  | zero =>
    intro i k H1 hr hi hk he hb0
    intros
    obtain ⟨k, rfl⟩ : ∃ n, k = n + 1 := ⟨k - 1, by omega⟩
    obtain rfl : p.edges.length = i := by omega
    have e : decide (((p.edges.length : Nat) : Int) < (p.edges.length : Nat)) = false := by simp
    have hb := ld_of hb0 he
    have l1 := ld_pl hb 1 _ rfl
    have hlen := (hp.ext he).len
    refine ⟨H1, ?_, he⟩
    rw [loop_succ, f61_b0_eq]
    unfold f61_b0
    simp -implicitDefEqProofs only [r_opt, r_ret, ob_some, ifB_true, iteV_true, iteV_false, r_gdt, r_gdt2, r_gdtf, r_gdtf2, r_gdff, r_gdff2, r_gdft, r_gdft2, r_gdu, r_gdu2, pick_t, pick_f, ext_0, ext_1, x_newB, r_nil, r_fAddr, Nat.zero_add, b_lss, b_leq, b_gtr, b_geq, b_eql, b_neq, u_not, Bool.not_true, Bool.not_false, oneOf_one, oneOf_two, again_normal, again_exit, again_ret, Bool.and_true, l1, hlen, e]
    rw [f61_e0_0_eq, List.drop_length, edOk, Bool.true_and]
    unfold f61_e0_0
    simp -implicitDefEqProofs only [r_opt, r_ret, ob_some, ifB_true, iteV_true, iteV_false, r_gdt, r_gdt2, r_gdtf, r_gdtf2, r_gdff, r_gdff2, r_gdft, r_gdft2, r_gdu, r_gdu2, pick_t, pick_f, ext_0, ext_1, x_newB, r_nil, r_fAddr, Nat.zero_add, b_lss, b_leq, b_gtr, b_geq, b_eql, b_neq, u_not, Bool.not_true, Bool.not_false, oneOf_one, oneOf_two, again_normal, again_exit, again_ret, Bool.and_true, l1, hlen]
  | succ q ih =>
    intro i k H1 hr hi hk he hb0
    intros
    obtain ⟨k, rfl⟩ : ∃ n, k = n + 1 := ⟨k - 1, by omega⟩
    have e : decide ((i : Int) < (p.edges.length : Nat)) = true := decide_eq_true (by omega)
    have e3 : IntKind.i64.wrap ((i : Int) + 1) = ((i + 1 : Nat) : Int) := by rw [wrap_i64 (by omega) (by omega)]; omega
    have hb := ld_of hb0 he
    have l1 := ld_pl hb 1 _ rfl
    have hlen := (hp.ext he).len
    have hxi : p.edges[i]? = some p.edges[i] := List.getElem?_eq_getElem (by omega)
    obtain ⟨b, o, g1, g2, g3⟩ := (hp.ext he).at_ edC_len hxi .i64
    obtain ⟨y, hy⟩ : ∃ y, y = p.edges[i] := ⟨_, rfl⟩
    have le : ldN 2 (.pointer (some ⟨b, o, none⟩)) H1 = some (edV y, H1) := by rw [hy]; exact (g3 H1 rfl).1
    have hdrop : p.edges.drop i = y :: p.edges.drop (i + 1) := by rw [hy]; exact List.drop_eq_getElem_cons (by omega)
    have htake : p.edges.take i ++ [y] = p.edges.take (i + 1) := by rw [List.take_add_one, hxi, hy]; rfl
    have st := st_ed y H1
    obtain ⟨H2, hH2⟩ : ∃ H2, H2 = H1 ++ [edB y] := ⟨_, rfl⟩
    rw [← hH2] at st
    have x1 : Ext H1 H2 := by rw [hH2]; exact Fr.app _ _ _
    have hb2 : H2[H1.length]? = some (edB y) := by rw [hH2]; exact at_last _ _
    have la := ld_ed0 hb2
    have lb := ld_ed1 hb2
    have hb3 := ld_of hb x1
    have l0 := ld_pl hb3 0 _ rfl
    rw [hdrop, edOk, htake]
    rw [loop_succ, f61_b0_eq]
    unfold f61_b0
    by_cases c1 : y.1 < 0
    · refine ⟨H2, ?_, he.tr x1⟩
      simp -implicitDefEqProofs only [r_opt, r_ret, ob_some, ifB_true, iteV_true, iteV_false, r_gdt, r_gdt2, r_gdtf, r_gdtf2, r_gdff, r_gdff2, r_gdft, r_gdft2, r_gdu, r_gdu2, pick_t, pick_f, ext_0, ext_1, x_newB, r_nil, r_fAddr, Nat.zero_add, b_lss, b_leq, b_gtr, b_geq, b_eql, b_neq, u_not, Bool.not_true, Bool.not_false, oneOf_one, oneOf_two, again_normal, again_exit, again_ret, Bool.and_true, l1, hlen, e, g1, le, zEd, st, la, lb, c1, decide_true, Bool.true_or, Bool.not_true, Bool.false_and]
      rw [f61_r0_eq]
      rfl
    · by_cases c2 : y.2 ≤ y.1
      · refine ⟨H2, ?_, he.tr x1⟩
        simp -implicitDefEqProofs only [r_opt, r_ret, ob_some, ifB_true, iteV_true, iteV_false, r_gdt, r_gdt2, r_gdtf, r_gdtf2, r_gdff, r_gdff2, r_gdft, r_gdft2, r_gdu, r_gdu2, pick_t, pick_f, ext_0, ext_1, x_newB, r_nil, r_fAddr, Nat.zero_add, b_lss, b_leq, b_gtr, b_geq, b_eql, b_neq, u_not, Bool.not_true, Bool.not_false, oneOf_one, oneOf_two, again_normal, again_exit, again_ret, Bool.and_true, l1, hlen, e, g1, le, zEd, st, la, lb, c1, c2, decide_true, decide_false, Bool.false_or, Bool.true_or, Bool.not_true, Bool.false_and]
        rw [f61_r0_eq]
        rfl
      · by_cases c3 : p.nodes ≤ y.2
        · refine ⟨H2, ?_, he.tr x1⟩
          simp -implicitDefEqProofs only [r_opt, r_ret, ob_some, ifB_true, iteV_true, iteV_false, r_gdt, r_gdt2, r_gdtf, r_gdtf2, r_gdff, r_gdff2, r_gdft, r_gdft2, r_gdu, r_gdu2, pick_t, pick_f, ext_0, ext_1, x_newB, r_nil, r_fAddr, Nat.zero_add, b_lss, b_leq, b_gtr, b_geq, b_eql, b_neq, u_not, Bool.not_true, Bool.not_false, oneOf_one, oneOf_two, again_normal, again_exit, again_ret, Bool.and_true, l1, hlen, e, g1, le, zEd, st, la, lb, l0, c1, c2, c3, decide_true, decide_false, Bool.false_or, Bool.true_or, Bool.not_true, Bool.false_and]
          rw [f61_r0_eq]
          rfl
        · simp -implicitDefEqProofs only [r_opt, r_ret, ob_some, ifB_true, iteV_true, iteV_false, r_gdt, r_gdt2, r_gdtf, r_gdtf2, r_gdff, r_gdff2, r_gdft, r_gdft2, r_gdu, r_gdu2, pick_t, pick_f, ext_0, ext_1, x_newB, r_nil, r_fAddr, Nat.zero_add, b_lss, b_leq, b_gtr, b_geq, b_eql, b_neq, u_not, Bool.not_true, Bool.not_false, oneOf_one, oneOf_two, again_normal, again_exit, again_ret, Bool.and_true, l1, hlen, e, g1, le, zEd, st, la, lb, l0, c1, c2, c3, decide_false, Bool.false_or]
          rw [Bool.and_assoc]
          refine redges_loop1 (H := H2) (H0 := H0) (a := a) (eb := H1.length) (i0 := i) (kk := k) (y := y) (R := edOk p.nodes (p.edges.take (i + 1)) (p.edges.drop (i + 1)) && decide ((p.edges.length : Int) ≤ 15)) ((hp.ext he).ext x1) hb3 hb2 (by omega) (by omega) (he.tr x1) ?_ i 0 m (by omega) (by omega) (by omega) ..
          intros
          rw [e3]
          exact ih (i + 1) k H2 (by omega) (by omega) (by omega) (he.tr x1) hb0 ..
theorem redges_is (hp : PV H p ev wv nv) (hn : p.edges.length + 30 < m) (hm : m ≤ 72057594037927936) : ∃ H', lvl Try.prog pk12 m (.func 61) [plV p ev wv nv] H = some (.bool (edgesOk p), H') ∧ Ext H H' := by
  have h1 := hp.be
  have h2 := hp.bw
  have h3 := hp.bn
  obtain ⟨H0, hH0⟩ : ∃ H0, H0 = H ++ [plB p ev wv nv] := ⟨_, rfl⟩
  have x0 : Ext H H0 := by rw [hH0]; exact Fr.app _ _ _
  have b0 : H0[H.length]? = some (plB p ev wv nv) := by rw [hH0]; exact at_last _ _
  obtain ⟨H', g1, g2⟩ : ∃ H', lvl Try.prog pk12 m (.func 61) [plV p ev wv nv] H = some (.bool (edgesOk p), H') ∧ Ext H0 H' := by
    refine lvl_ex1 (pk_no rfl rfl) (by omega) ?_
    rw [f61_eq]
    unfold f61
    simp -implicitDefEqProofs only [r_opt, r_ret, ob_some, ifB_true, iteV_true, iteV_false, r_gdt, r_gdt2, r_gdtf, r_gdtf2, r_gdff, r_gdff2, r_gdft, r_gdft2, r_gdu, r_gdu2, pick_t, pick_f, ext_0, ext_1, x_newB, r_nil, r_fAddr, Nat.zero_add, b_lss, b_leq, b_gtr, b_geq, b_eql, b_neq, u_not, Bool.not_true, Bool.not_false, oneOf_one, oneOf_two, again_normal, again_exit, again_ret, Bool.and_true, plV_cells, ← hH0]
    exact redges_loop (hp.e.ext x0) (m := m - 1) (by omega) (by omega) p.edges.length 0 (m - 1) H0 (by omega) (by omega) (by omega) (Fr.refl _ _) b0 ..
  exact ⟨H', g1, x0.tr g2⟩
theorem ePR (a : Addr) : bin Try.prog .eql 81 (.pointer (some a)) (.pointer none) = some (.bool false) := x_eqNil 81 93 (by kernel_rfl) a
theorem ePR0 : bin Try.prog .eql 81 (.pointer none) (.pointer none) = some (.bool true) := x_eqNil0 81 93 (by kernel_rfl)
theorem bRW : bld Try.prog 93 [] = some (.agg #[.slice none 0 0, .slice none 0 0, .int .i64 0]) := by kernel_rfl
theorem one_sl {u : Value} {xs : List Int} (h : Iw H u xs) : u.cells.toList = [u] ∧ allCells [u] = true := by
  rcases h with ⟨_, ⟨rfl, _⟩ | ⟨_, _, _, rfl, _⟩⟩ <;> exact ⟨rfl, rfl⟩
theorem rwNew_tail {H : Heap} {v : Value} {ws : List Int} (hw : Is H v ws) (hl : ws.length ≤ 17592186044500) (hok : ws.any wBad = false) (x1 x2 x3 x4 x5 x6 x7 x8 x9 x10 x11 x12 x13 x14 x15 x16 x17 x18 x19 x20 x21 x22 x23 x24 x25 x26 x27 x28 x29 x30 x31 x32 x33 x34 x35 x36 x37 x38 x39 x40 x41 x42 x43 x44 x45 x46 x47 x48 x49 x50 x51 : Value) :
    ∃ H' u, f62_e0_0 (lvl Try.prog pk12 m) (loopN m) v x1 x2 x3 x4 x5 x6 x7 x8 x9 x10 x11 x12 x13 x14 x15 x16 x17 x18 x19 x20 x21 x22 x23 x24 x25 x26 x27 x28 x29 x30 x31 x32 x33 x34 x35 x36 x37 x38 x39 x40 x41 x42 x43 x44 x45 x46 x47 x48 x49 x50 x51 H = some (u, H') ∧ Ext H H' ∧ bin Try.prog .eql 81 u (.pointer none) = some (.bool (!wOk ws)) := by
  have hlen := hw.len
  unfold f62_e0_0
  by_cases c1 : (ws.length : Int) < 1
  · have hno : wOk ws = false := by unfold wOk; rw [decide_eq_true (show (ws.length : Int) = 0 by omega)]; rfl
    refine ⟨H, .pointer none, ?_, Fr.refl _ _, by rw [hno]; exact ePR0⟩
    simp -implicitDefEqProofs only [r_opt, r_ret, ob_some, ifB_true, iteV_true, iteV_false, r_gdt, r_gdt2, r_gdtf, r_gdtf2, r_gdff, r_gdff2, r_gdft, r_gdft2, r_gdu, r_gdu2, pick_t, pick_f, ext_0, ext_1, x_newB, r_nil, r_fAddr, Nat.zero_add, b_lss, b_leq, b_gtr, b_geq, b_eql, b_neq, u_not, Bool.not_true, Bool.not_false, oneOf_one, oneOf_two, again_normal, again_exit, again_ret, Bool.and_true, hlen, c1, decide_true]
  · by_cases c2 : (3 : Int) < ws.length
    · have hno : wOk ws = false := by unfold wOk; rw [decide_eq_true c2]; simp
      refine ⟨H, .pointer none, ?_, Fr.refl _ _, by rw [hno]; exact ePR0⟩
      simp -implicitDefEqProofs only [r_opt, r_ret, ob_some, ifB_true, iteV_true, iteV_false, r_gdt, r_gdt2, r_gdtf, r_gdtf2, r_gdff, r_gdff2, r_gdft, r_gdft2, r_gdu, r_gdu2, pick_t, pick_f, ext_0, ext_1, x_newB, r_nil, r_fAddr, Nat.zero_add, b_lss, b_leq, b_gtr, b_geq, b_eql, b_neq, u_not, Bool.not_true, Bool.not_false, oneOf_one, oneOf_two, again_normal, again_exit, again_ret, Bool.and_true, hlen, c1, c2, decide_true, decide_false]
    · have hyes : wOk ws = true := by unfold wOk; rw [decide_eq_false (show ¬ (ws.length : Int) = 0 by omega), decide_eq_false c2, hok]; rfl
      obtain ⟨H1, hH1⟩ : ∃ H1, H1 = H ++ [Blk.cells (Value.agg #[.slice none 0 0, .slice none 0 0, .int .i64 0]).cells.toList 93 .fix] := ⟨_, rfl⟩
      have x1 : Ext H H1 := by rw [hH1]; exact Fr.app _ _ _
      have b1 : H1[H.length]? = some (.cells [.slice none 0 0, .slice none 0 0, .int .i64 0] 93 .fix) := by rw [hH1]; exact at_last _ _
      have l0 : ld1 (.pointer (some ⟨H.length, 0, none⟩)) H1 = some (.slice none 0 0, H1) := by rw [x_ld1, b1]; rfl
      obtain ⟨u1, H2, g1, g2, g3, g4⟩ := (Rw.nil (el := inC) (e := 3) (sz := 1) (H := H1)).more inC_len inC_all (by decide) (by' := 8) (H0 := H1) (hw.ext x1) (New.nil _) (Fr.refl _ _) (roomy_mono (n := 1000) (by decide) (by simp; omega))
      obtain ⟨s1, s2⟩ := one_sl g2
      have b2 := ld_of b1 g4
      have st1 : stN 1 (.pointer (some ⟨H.length, 0, none⟩)) u1 H2 = some (undef, H2.set H.length (.cells [u1, .slice none 0 0, .int .i64 0] 93 .fix)) := by
        rw [x_stN 1 _ _ _ (by rw [s1]; rfl), b2, s1, x_stC _ _ _ _ _ _ (by decide) (by simp) s2]
        rfl
      obtain ⟨H3, hH3⟩ : ∃ H3, H3 = H2.set H.length (.cells [u1, .slice none 0 0, .int .i64 0] 93 .fix) := ⟨_, rfl⟩
      rw [← hH3] at st1
      have hl2 : H.length < H2.length := (List.getElem?_eq_some_iff.mp b2).1
      have b3 : H3[H.length]? = some (.cells [u1, .slice none 0 0, .int .i64 0] 93 .fix) := by rw [hH3]; exact List.getElem?_set_self hl2
      have x3 : Ext H H3 := ⟨by rw [hH3, List.length_set]; omega, fun b hb _ => by rw [hH3, List.getElem?_set_ne (by omega), g4.2 b (by have := x1.1; omega) id, x1.2 b hb id]⟩
      have l3 : ld1 (.pointer (some ⟨H.length, 1, none⟩)) H3 = some (.slice none 0 0, H3) := by rw [x_ld1, b3]; rfl
      obtain ⟨u2, H4, q1, q2, q3, q4⟩ := (Rw.nil (el := inC) (e := 3) (sz := 1) (H := H3)).more inC_len inC_all (by decide) (by' := 8) (H0 := H3) (hw.ext x3) (New.nil _) (Fr.refl _ _) (roomy_mono (n := 1000) (by decide) (by simp; omega))
      obtain ⟨s3, s4⟩ := one_sl q2
      have b4 := ld_of b3 q4
      have st2 : stN 1 (.pointer (some ⟨H.length, 1, none⟩)) u2 H4 = some (undef, H4.set H.length (.cells [u1, u2, .int .i64 0] 93 .fix)) := by
        rw [x_stN 1 _ _ _ (by rw [s3]; rfl), b4, s3, x_stC _ _ _ _ _ _ (by decide) (by simp) s4]
        rfl
      have hl4 : H.length < H4.length := (List.getElem?_eq_some_iff.mp b4).1
      refine ⟨H4.set H.length (.cells [u1, u2, .int .i64 0] 93 .fix), .pointer (some ⟨H.length, 0, none⟩), ?_, ⟨by rw [List.length_set]; omega, fun b hb _ => ?_⟩, by rw [hyes]; exact ePR _⟩
      · simp -implicitDefEqProofs only [r_opt, r_ret, ob_some, ifB_true, iteV_true, iteV_false, r_gdt, r_gdt2, r_gdtf, r_gdtf2, r_gdff, r_gdff2, r_gdft, r_gdft2, r_gdu, r_gdu2, pick_t, pick_f, ext_0, ext_1, x_newB, r_nil, r_fAddr, Nat.zero_add, b_lss, b_leq, b_gtr, b_geq, b_eql, b_neq, u_not, Bool.not_true, Bool.not_false, oneOf_one, oneOf_two, again_normal, again_exit, again_ret, Bool.and_true, hlen, c1, c2, decide_false, bRW, ← hH1, l0, g1, st1, l3, q1, st2]
      · rw [List.getElem?_set_ne (by omega), q4.2 b (by have := x3.1; omega) id, x3.2 b hb id]
theorem rwNew_loop {v : Value} {ws : List Int} (hw : Is H v ws) (hl : ws.length ≤ 17592186044500) : ∀ (q i k : Nat), ws.length - i = q → i ≤ ws.length → q < k → (ws.take i).any wBad = false → ∀ (x1 x4 x5 x6 x7 x8 x9 x10 x11 x12 x13 x14 x15 x16 x17 x18 x19 x20 x21 x22 x23 x24 x25 x26 x27 x28 x29 x30 x31 x32 x33 x34 x35 x36 x37 x38 x39 x40 x41 x42 x43 x44 x45 x46 x47 x48 x49 x50 x51 : Value),
    ∃ H' u, loopN k (runCode Try.prog (lvl Try.prog pk12 m) (loopN m) f62_c0) (f62_k0 (lvl Try.prog pk12 m) (loopN m)) [v, x1, (.pointer none), (.int .i64 (i : Nat)), x4, x5, x6, x7, x8, x9, x10, x11, x12, x13, x14, x15, x16, x17, x18, x19, x20, x21, x22, x23, x24, x25, x26, x27, x28, x29, x30, x31, x32, x33, x34, x35, x36, x37, x38, x39, x40, x41, x42, x43, x44, x45, x46, x47, x48, x49, x50, x51] H = some (u, H') ∧ Ext H H' ∧ bin Try.prog .eql 81 u (.pointer none) = some (.bool (!wOk ws)) := by
  intro q

  induction q with
  | zero =>
    intro i k  hr hi hk hok
    intros
    obtain ⟨k, rfl⟩ : ∃ n, k = n + 1 := ⟨k - 1, by omega⟩
    obtain rfl : ws.length = i := by omega
    have e : decide (((ws.length : Nat) : Int) < (ws.length : Nat)) = false := by simp
    have hlen := hw.len
    rw [List.take_of_length_le (Nat.le_refl _)] at hok
    rw [loop_succ, f62_b0_eq]
    unfold f62_b0
    simp -implicitDefEqProofs only [r_opt, r_ret, ob_some, ifB_true, iteV_true, iteV_false, r_gdt, r_gdt2, r_gdtf, r_gdtf2, r_gdff, r_gdff2, r_gdft, r_gdft2, r_gdu, r_gdu2, pick_t, pick_f, ext_0, ext_1, x_newB, r_nil, r_fAddr, Nat.zero_add, b_lss, b_leq, b_gtr, b_geq, b_eql, b_neq, u_not, Bool.not_true, Bool.not_false, oneOf_one, oneOf_two, again_normal, again_exit, again_ret, Bool.and_true, hlen, e]
    rw [f62_e0_0_eq]
    exact rwNew_tail hw hl hok ..
  | succ q ih =>
    intro i k  hr hi hk hok
    intros
    obtain ⟨k, rfl⟩ : ∃ n, k = n + 1 := ⟨k - 1, by omega⟩
    have e : decide ((i : Int) < (ws.length : Nat)) = true := decide_eq_true (by omega)
    have e3 : IntKind.i64.wrap ((i : Int) + 1) = ((i + 1 : Nat) : Int) := by rw [wrap_i64 (by omega) (by omega)]; omega
    have hlen := hw.len
    have hxi : ws[i]? = some ws[i] := List.getElem?_eq_getElem (by omega)
    obtain ⟨b, o, g1, g2, g3⟩ := hw.at_ inC_len hxi .i64
    have l1 : ld1 (.pointer (some ⟨b, o, none⟩)) H = some (.int .i64 ws[i], H) := (g3 H rfl).2.1 0 _ rfl
    have htake : ws.take (i + 1) = ws.take i ++ [ws[i]] := by rw [List.take_add_one, hxi]; rfl
    have hbad : wBad ws[i] = true → wOk ws = false := fun h => by
      have : ws.any wBad = true := List.any_eq_true.mpr ⟨ws[i], List.getElem_mem (by omega), h⟩
      unfold wOk
      rw [this]
      simp
    rw [loop_succ, f62_b0_eq]
    unfold f62_b0
    by_cases c1 : ws[i] < 1
    · have hno := hbad (by unfold wBad; rw [decide_eq_true c1]; rfl)
      refine ⟨H, .pointer none, ?_, Fr.refl _ _, by rw [hno]; exact ePR0⟩
      simp -implicitDefEqProofs only [r_opt, r_ret, ob_some, ifB_true, iteV_true, iteV_false, r_gdt, r_gdt2, r_gdtf, r_gdtf2, r_gdff, r_gdff2, r_gdft, r_gdft2, r_gdu, r_gdu2, pick_t, pick_f, ext_0, ext_1, x_newB, r_nil, r_fAddr, Nat.zero_add, b_lss, b_leq, b_gtr, b_geq, b_eql, b_neq, u_not, Bool.not_true, Bool.not_false, oneOf_one, oneOf_two, again_normal, again_exit, again_ret, Bool.and_true, hlen, e, g1, l1, c1, decide_true]
      rw [f62_r0_eq]
      rfl
    · by_cases c2 : 5 < ws[i]
      · have hno := hbad (by unfold wBad; rw [decide_eq_true c2]; simp)
        refine ⟨H, .pointer none, ?_, Fr.refl _ _, by rw [hno]; exact ePR0⟩
        simp -implicitDefEqProofs only [r_opt, r_ret, ob_some, ifB_true, iteV_true, iteV_false, r_gdt, r_gdt2, r_gdtf, r_gdtf2, r_gdff, r_gdff2, r_gdft, r_gdft2, r_gdu, r_gdu2, pick_t, pick_f, ext_0, ext_1, x_newB, r_nil, r_fAddr, Nat.zero_add, b_lss, b_leq, b_gtr, b_geq, b_eql, b_neq, u_not, Bool.not_true, Bool.not_false, oneOf_one, oneOf_two, again_normal, again_exit, again_ret, Bool.and_true, hlen, e, g1, l1, c1, c2, decide_true, decide_false]
        rw [f62_r0_eq]
        rfl
      · have hgood : wBad ws[i] = false := by unfold wBad; rw [decide_eq_false c1, decide_eq_false c2]; rfl
        simp -implicitDefEqProofs only [r_opt, r_ret, ob_some, ifB_true, iteV_true, iteV_false, r_gdt, r_gdt2, r_gdtf, r_gdtf2, r_gdff, r_gdff2, r_gdft, r_gdft2, r_gdu, r_gdu2, pick_t, pick_f, ext_0, ext_1, x_newB, r_nil, r_fAddr, Nat.zero_add, b_lss, b_leq, b_gtr, b_geq, b_eql, b_neq, u_not, Bool.not_true, Bool.not_false, oneOf_one, oneOf_two, again_normal, again_exit, again_ret, Bool.and_true, hlen, e, g1, l1, c1, c2, decide_false, b_add, e3]
        exact ih (i + 1) k (by omega) (by omega) (by omega) (by rw [htake, List.any_append, hok]; simp [hgood]) ..
theorem rwNew_is {v : Value} {ws : List Int} (hw : Is H v ws) (hl : ws.length ≤ 17592186044500) (hm : ws.length + 100 < m) : ∃ H' u, lvl Try.prog pk12 m (.func 62) [v] H = some (u, H') ∧ Ext H H' ∧ bin Try.prog .eql 81 u (.pointer none) = some (.bool (!wOk ws)) := by
  refine lvl_ex (pk_no rfl rfl) (by omega) ?_
  rw [f62_eq]
  unfold f62
  exact rwNew_loop hw hl ws.length 0 (m - 1) (by omega) (by omega) (by omega) (by simp) ..
theorem rcheck_loop {a : Nat} (hp : Rows H nv p.next) (hb : H[a]? = some (plB p ev wv nv)) (hl : p.next.length ≤ 17592186043000) : ∀ (q i k : Nat), p.next.length - i = q → i ≤ p.next.length → q < k → ∀ (x0 x2 x3 x5 x6 x7 x8 x9 x10 x11 x12 x13 x14 x15 x16 x17 x18 x19 x20 x21 x22 x23 x24 x25 x26 x27 x28 x29 x30 x31 x32 x33 x34 x35 x36 x37 x38 x39 x40 x41 x42 x43 x44 x45 x46 x47 x48 x49 x50 x51 x52 x53 x54 x55 x56 x57 x58 x59 x60 x61 x62 x63 x64 x65 x66 x67 x68 x69 x70 x71 x72 x73 x74 x75 x76 x77 x78 x79 x80 x81 x82 : Value),
    loopN k (runCode Try.prog (lvl Try.prog pk12 m) (loopN m) f40_c0) (f40_k0 (lvl Try.prog pk12 m) (loopN m)) [x0, (.pointer (some ⟨a, 0, none⟩)), x2, x3, (.int .i64 (i : Nat)), x5, x6, x7, x8, x9, x10, x11, x12, x13, x14, x15, x16, x17, x18, x19, x20, x21, x22, x23, x24, x25, x26, x27, x28, x29, x30, x31, x32, x33, x34, x35, x36, x37, x38, x39, x40, x41, x42, x43, x44, x45, x46, x47, x48, x49, x50, x51, x52, x53, x54, x55, x56, x57, x58, x59, x60, x61, x62, x63, x64, x65, x66, x67, x68, x69, x70, x71, x72, x73, x74, x75, x76, x77, x78, x79, x80, x81, x82] H = some (.int .i64 (errno (!((p.next.drop i).any fun r => decide ((r.length : Int) ≠ p.nodes)))), H) := by
  intro q

  induction q with
  | zero =>
    intro i k  hr hi hk 
    intros
    obtain ⟨k, rfl⟩ : ∃ n, k = n + 1 := ⟨k - 1, by omega⟩
    obtain rfl : p.next.length = i := by omega
    have e : decide (((p.next.length : Nat) : Int) < (p.next.length : Nat)) = false := by simp
    have l10 := ld_pl hb 10 _ rfl
    have hlen := hp.len
    rw [loop_succ, f40_b0_eq]
    unfold f40_b0
    simp -implicitDefEqProofs only [r_opt, r_ret, ob_some, ifB_true, iteV_true, iteV_false, r_gdt, r_gdt2, r_gdtf, r_gdtf2, r_gdff, r_gdff2, r_gdft, r_gdft2, r_gdu, r_gdu2, pick_t, pick_f, ext_0, ext_1, x_newB, r_nil, r_fAddr, Nat.zero_add, b_lss, b_leq, b_gtr, b_geq, b_eql, b_neq, u_not, Bool.not_true, Bool.not_false, oneOf_one, oneOf_two, again_normal, again_exit, again_ret, Bool.and_true, l10, hlen, e]
    rw [f40_e0_0_eq, List.drop_length]
    rfl
  | succ q ih =>
    intro i k  hr hi hk 
    intros
    obtain ⟨k, rfl⟩ : ∃ n, k = n + 1 := ⟨k - 1, by omega⟩
    have e : decide ((i : Int) < (p.next.length : Nat)) = true := decide_eq_true (by omega)
    have e3 : IntKind.i64.wrap ((i : Int) + 1) = ((i + 1 : Nat) : Int) := by rw [wrap_i64 (by omega) (by omega)]; omega
    have l10 := ld_pl hb 10 _ rfl
    have l0 := ld_pl hb 0 _ rfl
    have hlen := hp.len
    have hxi : p.next[i]? = some p.next[i] := List.getElem?_eq_getElem (by omega)
    obtain ⟨a1, u, g1, g2, g3⟩ := hp.at_ hxi .i64
    have hul := g3.len
    rw [List.drop_eq_getElem_cons (by omega), List.any_cons]
    rw [loop_succ, f40_b0_eq]
    unfold f40_b0
    by_cases c : (p.next[i].length : Int) = p.nodes
    · have d : ((p.next[i].length : Int) != p.nodes) = false := by simpa using c
      have d2 : decide ((p.next[i].length : Int) ≠ p.nodes) = false := decide_eq_false fun h => h c
      simp -implicitDefEqProofs only [r_opt, r_ret, ob_some, ifB_true, iteV_true, iteV_false, r_gdt, r_gdt2, r_gdtf, r_gdtf2, r_gdff, r_gdff2, r_gdft, r_gdft2, r_gdu, r_gdu2, pick_t, pick_f, ext_0, ext_1, x_newB, r_nil, r_fAddr, Nat.zero_add, b_lss, b_leq, b_gtr, b_geq, b_eql, b_neq, u_not, Bool.not_true, Bool.not_false, oneOf_one, oneOf_two, again_normal, again_exit, again_ret, Bool.and_true, l10, hlen, e, g1, g2, hul, l0, d, b_add, e3]
      rw [d2, Bool.false_or]
      exact ih (i + 1) k (by omega) (by omega) (by omega) ..
    · have d : ((p.next[i].length : Int) != p.nodes) = true := by simpa using c
      have d2 : decide ((p.next[i].length : Int) ≠ p.nodes) = true := decide_eq_true c
      simp -implicitDefEqProofs only [r_opt, r_ret, ob_some, ifB_true, iteV_true, iteV_false, r_gdt, r_gdt2, r_gdtf, r_gdtf2, r_gdff, r_gdff2, r_gdft, r_gdft2, r_gdu, r_gdu2, pick_t, pick_f, ext_0, ext_1, x_newB, r_nil, r_fAddr, Nat.zero_add, b_lss, b_leq, b_gtr, b_geq, b_eql, b_neq, u_not, Bool.not_true, Bool.not_false, oneOf_one, oneOf_two, again_normal, again_exit, again_ret, Bool.and_true, l10, hlen, e, g1, g2, hul, l0, d]
      rw [f40_r0_eq, d2]
      rfl
theorem rcheck_is (hp : PV H p ev wv nv) (hm : 17592186045000 < m) (hm2 : m ≤ 72057594037927936) : ∃ H', lvl Try.prog pk12 m (.func 40) [plV p ev wv nv] H = some (.int .i64 (errno (checkOk p)), H') ∧ Ext H H' := by
  have h1 := hp.be
  have h2 := hp.bw
  have h3 := hp.bn
  obtain ⟨H0, hH0⟩ : ∃ H0, H0 = H ++ [plB p ev wv nv] := ⟨_, rfl⟩
  have x0 : Ext H H0 := by rw [hH0]; exact Fr.app _ _ _
  have b0 : H0[H.length]? = some (plB p ev wv nv) := by rw [hH0]; exact at_last _ _
  have l11 := ld_pl11 b0
  have w := fun x lo hi H => rwi_is (m := m - 1) (by omega) x lo hi H
  have q0 := ld_pl b0 0 _ rfl
  have q2 := ld_pl b0 2 _ rfl
  have q3 := ld_pl b0 3 _ rfl
  have q4 := ld_pl b0 4 _ rfl
  have q5 := ld_pl b0 5 _ rfl
  have q6 := ld_pl b0 6 _ rfl
  have q7 := ld_pl b0 7 _ rfl
  obtain ⟨H2, g2, x2⟩ := redges_is (m := m - 1) (hp.ext x0) (by omega) (by omega)
  have b2 := ld_of b0 x2
  have w2 := ld_pl b2 8 _ rfl
  have la2 := ld_pl b2 2 _ rfl
  have p2 := hp.ext (x0.tr x2)
  have wl := p2.w.len
  obtain ⟨H3, u3, g3, x3, g4⟩ := rwNew_is p2.w (m := m - 1) (by omega) (by omega)
  have b3 := ld_of b2 x3
  have n3 := ld_pl b3 10 _ rfl
  have no3 := ld_pl b3 0 _ rfl
  have p3 := p2.ext x3
  have nl := p3.n.len
  have hn1 : ((p.weights.length : Int) != p.lanes) = !decide ((p.weights.length : Int) = p.lanes) := by rw [Bool.eq_iff_iff]; simp
  have hn2 : ((p.next.length : Int) != p.nodes) = !decide ((p.next.length : Int) = p.nodes) := by rw [Bool.eq_iff_iff]; simp
  have hz : errno false = 120 := rfl
  have hz1 : errno true = 0 := rfl
  refine lvl_ex1 (pk_no rfl rfl) (by omega) ?_
  rw [f40_eq]
  unfold f40 checkOk numOk
  cases c1 : wi p.nodes 2 6 with
  | false => exact ⟨H0, by simp -implicitDefEqProofs only [r_opt, r_ret, ob_some, ifB_true, iteV_true, iteV_false, r_gdt, r_gdt2, r_gdtf, r_gdtf2, r_gdff, r_gdff2, r_gdft, r_gdft2, r_gdu, r_gdu2, pick_t, pick_f, ext_0, ext_1, x_newB, r_nil, r_fAddr, Nat.zero_add, b_lss, b_leq, b_gtr, b_geq, b_eql, b_neq, u_not, Bool.not_true, Bool.not_false, oneOf_one, oneOf_two, again_normal, again_exit, again_ret, Bool.and_true, plV_cells, ← hH0, w, q0, c1, hz, hz1, Bool.false_and, Bool.true_and], x0⟩
  | true =>
    cases c2 : wi p.lanes 1 3 with
    | false => exact ⟨H0, by simp -implicitDefEqProofs only [r_opt, r_ret, ob_some, ifB_true, iteV_true, iteV_false, r_gdt, r_gdt2, r_gdtf, r_gdtf2, r_gdff, r_gdff2, r_gdft, r_gdft2, r_gdu, r_gdu2, pick_t, pick_f, ext_0, ext_1, x_newB, r_nil, r_fAddr, Nat.zero_add, b_lss, b_leq, b_gtr, b_geq, b_eql, b_neq, u_not, Bool.not_true, Bool.not_false, oneOf_one, oneOf_two, again_normal, again_exit, again_ret, Bool.and_true, plV_cells, ← hH0, w, q0, q2, c1, c2, hz, hz1, Bool.false_and, Bool.true_and], x0⟩
    | true =>
      cases c3 : wi p.room 1 8 with
      | false => exact ⟨H0, by simp -implicitDefEqProofs only [r_opt, r_ret, ob_some, ifB_true, iteV_true, iteV_false, r_gdt, r_gdt2, r_gdtf, r_gdtf2, r_gdff, r_gdff2, r_gdft, r_gdft2, r_gdu, r_gdu2, pick_t, pick_f, ext_0, ext_1, x_newB, r_nil, r_fAddr, Nat.zero_add, b_lss, b_leq, b_gtr, b_geq, b_eql, b_neq, u_not, Bool.not_true, Bool.not_false, oneOf_one, oneOf_two, again_normal, again_exit, again_ret, Bool.and_true, plV_cells, ← hH0, w, q0, q2, q3, c1, c2, c3, hz, hz1, Bool.false_and, Bool.true_and], x0⟩
      | true =>
        cases c4 : wi p.queue 1 8 with
        | false => exact ⟨H0, by simp -implicitDefEqProofs only [r_opt, r_ret, ob_some, ifB_true, iteV_true, iteV_false, r_gdt, r_gdt2, r_gdtf, r_gdtf2, r_gdff, r_gdff2, r_gdft, r_gdft2, r_gdu, r_gdu2, pick_t, pick_f, ext_0, ext_1, x_newB, r_nil, r_fAddr, Nat.zero_add, b_lss, b_leq, b_gtr, b_geq, b_eql, b_neq, u_not, Bool.not_true, Bool.not_false, oneOf_one, oneOf_two, again_normal, again_exit, again_ret, Bool.and_true, plV_cells, ← hH0, w, q0, q2, q3, q4, c1, c2, c3, c4, hz, hz1, Bool.false_and, Bool.true_and], x0⟩
        | true =>
          cases c5 : wi p.rounds 1 4 with
          | false => exact ⟨H0, by simp -implicitDefEqProofs only [r_opt, r_ret, ob_some, ifB_true, iteV_true, iteV_false, r_gdt, r_gdt2, r_gdtf, r_gdtf2, r_gdff, r_gdff2, r_gdft, r_gdft2, r_gdu, r_gdu2, pick_t, pick_f, ext_0, ext_1, x_newB, r_nil, r_fAddr, Nat.zero_add, b_lss, b_leq, b_gtr, b_geq, b_eql, b_neq, u_not, Bool.not_true, Bool.not_false, oneOf_one, oneOf_two, again_normal, again_exit, again_ret, Bool.and_true, plV_cells, ← hH0, w, q0, q2, q3, q4, q5, c1, c2, c3, c4, c5, hz, hz1, Bool.false_and, Bool.true_and], x0⟩
          | true =>
            cases c6 : wi p.every 1 8 with
            | false => exact ⟨H0, by simp -implicitDefEqProofs only [r_opt, r_ret, ob_some, ifB_true, iteV_true, iteV_false, r_gdt, r_gdt2, r_gdtf, r_gdtf2, r_gdff, r_gdff2, r_gdft, r_gdft2, r_gdu, r_gdu2, pick_t, pick_f, ext_0, ext_1, x_newB, r_nil, r_fAddr, Nat.zero_add, b_lss, b_leq, b_gtr, b_geq, b_eql, b_neq, u_not, Bool.not_true, Bool.not_false, oneOf_one, oneOf_two, again_normal, again_exit, again_ret, Bool.and_true, plV_cells, ← hH0, w, q0, q2, q3, q4, q5, q6, c1, c2, c3, c4, c5, c6, hz, hz1, Bool.false_and, Bool.true_and], x0⟩
            | true =>
              cases c7 : wi p.bag 1 64 with
              | false => exact ⟨H0, by simp -implicitDefEqProofs only [r_opt, r_ret, ob_some, ifB_true, iteV_true, iteV_false, r_gdt, r_gdt2, r_gdtf, r_gdtf2, r_gdff, r_gdff2, r_gdft, r_gdft2, r_gdu, r_gdu2, pick_t, pick_f, ext_0, ext_1, x_newB, r_nil, r_fAddr, Nat.zero_add, b_lss, b_leq, b_gtr, b_geq, b_eql, b_neq, u_not, Bool.not_true, Bool.not_false, oneOf_one, oneOf_two, again_normal, again_exit, again_ret, Bool.and_true, plV_cells, ← hH0, w, q0, q2, q3, q4, q5, q6, q7, c1, c2, c3, c4, c5, c6, c7, hz, hz1, Bool.false_and, Bool.true_and], x0⟩
              | true =>
                cases c8 : edgesOk p with
                | false => exact ⟨H2, by simp -implicitDefEqProofs only [r_opt, r_ret, ob_some, ifB_true, iteV_true, iteV_false, r_gdt, r_gdt2, r_gdtf, r_gdtf2, r_gdff, r_gdff2, r_gdft, r_gdft2, r_gdu, r_gdu2, pick_t, pick_f, ext_0, ext_1, x_newB, r_nil, r_fAddr, Nat.zero_add, b_lss, b_leq, b_gtr, b_geq, b_eql, b_neq, u_not, Bool.not_true, Bool.not_false, oneOf_one, oneOf_two, again_normal, again_exit, again_ret, Bool.and_true, plV_cells, ← hH0, w, q0, q2, q3, q4, q5, q6, q7, l11, g2, c1, c2, c3, c4, c5, c6, c7, c8, hz, hz1, Bool.false_and, Bool.true_and], x0.tr x2⟩
                | true =>
                  cases c9 : decide ((p.weights.length : Int) = p.lanes) with
                  | false => exact ⟨H2, by simp -implicitDefEqProofs only [r_opt, r_ret, ob_some, ifB_true, iteV_true, iteV_false, r_gdt, r_gdt2, r_gdtf, r_gdtf2, r_gdff, r_gdff2, r_gdft, r_gdft2, r_gdu, r_gdu2, pick_t, pick_f, ext_0, ext_1, x_newB, r_nil, r_fAddr, Nat.zero_add, b_lss, b_leq, b_gtr, b_geq, b_eql, b_neq, u_not, Bool.not_true, Bool.not_false, oneOf_one, oneOf_two, again_normal, again_exit, again_ret, Bool.and_true, plV_cells, ← hH0, w, q0, q2, q3, q4, q5, q6, q7, l11, g2, w2, wl, la2, hn1, c1, c2, c3, c4, c5, c6, c7, c8, c9, hz, hz1, Bool.false_and, Bool.true_and], x0.tr x2⟩
                  | true =>
                    cases c10 : wOk p.weights with
                    | false => exact ⟨H3, by simp -implicitDefEqProofs only [r_opt, r_ret, ob_some, ifB_true, iteV_true, iteV_false, r_gdt, r_gdt2, r_gdtf, r_gdtf2, r_gdff, r_gdff2, r_gdft, r_gdft2, r_gdu, r_gdu2, pick_t, pick_f, ext_0, ext_1, x_newB, r_nil, r_fAddr, Nat.zero_add, b_lss, b_leq, b_gtr, b_geq, b_eql, b_neq, u_not, Bool.not_true, Bool.not_false, oneOf_one, oneOf_two, again_normal, again_exit, again_ret, Bool.and_true, plV_cells, ← hH0, w, q0, q2, q3, q4, q5, q6, q7, l11, g2, w2, wl, la2, hn1, g3, g4, c1, c2, c3, c4, c5, c6, c7, c8, c9, c10, hz, hz1, Bool.false_and, Bool.true_and], (x0.tr x2).tr x3⟩
                    | true =>
                      cases c11 : decide ((p.next.length : Int) = p.nodes) with
                      | false => exact ⟨H3, by simp -implicitDefEqProofs only [r_opt, r_ret, ob_some, ifB_true, iteV_true, iteV_false, r_gdt, r_gdt2, r_gdtf, r_gdtf2, r_gdff, r_gdff2, r_gdft, r_gdft2, r_gdu, r_gdu2, pick_t, pick_f, ext_0, ext_1, x_newB, r_nil, r_fAddr, Nat.zero_add, b_lss, b_leq, b_gtr, b_geq, b_eql, b_neq, u_not, Bool.not_true, Bool.not_false, oneOf_one, oneOf_two, again_normal, again_exit, again_ret, Bool.and_true, plV_cells, ← hH0, w, q0, q2, q3, q4, q5, q6, q7, l11, g2, w2, wl, la2, hn1, g3, g4, n3, nl, no3, hn2, c1, c2, c3, c4, c5, c6, c7, c8, c9, c10, c11, hz, hz1, Bool.false_and, Bool.true_and], (x0.tr x2).tr x3⟩
                      | true =>
                        refine ⟨H3, ?_, (x0.tr x2).tr x3⟩
                        simp -implicitDefEqProofs only [r_opt, r_ret, ob_some, ifB_true, iteV_true, iteV_false, r_gdt, r_gdt2, r_gdtf, r_gdtf2, r_gdff, r_gdff2, r_gdft, r_gdft2, r_gdu, r_gdu2, pick_t, pick_f, ext_0, ext_1, x_newB, r_nil, r_fAddr, Nat.zero_add, b_lss, b_leq, b_gtr, b_geq, b_eql, b_neq, u_not, Bool.not_true, Bool.not_false, oneOf_one, oneOf_two, again_normal, again_exit, again_ret, Bool.and_true, plV_cells, ← hH0, w, q0, q2, q3, q4, q5, q6, q7, l11, g2, w2, wl, la2, hn1, g3, g4, n3, nl, no3, hn2, c1, c2, c3, c4, c5, c6, c7, c8, c9, c10, c11, Bool.true_and]
                        unfold rowsOk
                        exact rcheck_loop p3.n b3 (by omega) p.next.length 0 (m - 1) (by omega) (by omega) (by omega) ..
theorem rhops_loop1 {H0 : Heap} {a : Nat} {v : Nat} {ws : List Int} {hs : List Ed} {Q : Heap → Value → Prop} {K : Ex → K (Value × Heap)} {u : Value} (hs1 : hs.length + (ws.filter fun w => wi w 0 5).length ≤ 1000) (hws : ws.length ≤ 72057594037927936) (hm : 0 < m)
    (hK : ∀ (H' : Heap) (acc : Value), Ext H0 H' → Hw H' acc (hs ++ (ws.filter fun w => wi w 0 5).map fun w => ((v : Int), w)) → New H0 acc → ∀ (x0 x2 x5 x6 x7 x8 x9 x10 x11 x12 x13 x14 x15 x16 x17 x18 x19 x20 x21 x22 x23 x24 x25 x26 x27 x28 x29 x30 x31 x32 x33 x34 x35 x36 x37 x38 x39 x40 x41 x42 x43 x44 x45 x46 x47 : Value), ∃ H2 u2, K .normal [x0, (.pointer (some ⟨a, 0, none⟩)), x2, acc, (.int .i64 (IntKind.i64.wrap ((v : Int) + 1))), x5, x6, x7, x8, x9, x10, x11, x12, x13, x14, x15, x16, x17, x18, x19, x20, x21, x22, x23, x24, x25, x26, x27, x28, x29, x30, x31, x32, x33, x34, x35, x36, x37, x38, x39, x40, x41, x42, x43, x44, x45, x46, x47] H' = some (u2, H2) ∧ Q H2 u2) : ∀ (q i k : Nat) (H1 : Heap) (acc : Value), ws.length - i = q → i ≤ ws.length → q < k → Ext H0 H1 → Is H1 u ws → Apart H1 u acc → Hw H1 acc (hs ++ ((ws.take i).filter fun w => wi w 0 5).map fun w => ((v : Int), w)) → New H0 acc → ∀ (x0 x2 x7 x8 x9 x10 x11 x12 x13 x14 x15 x16 x17 x18 x19 x20 x21 x22 x23 x24 x25 x26 x27 x28 x29 x30 x31 x32 x33 x34 x35 x36 x37 x38 x39 x40 x41 x42 x43 x44 x45 x46 x47 : Value),
    ∃ H' u2, loopN k (runCode Try.prog (lvl Try.prog pk12 m) (loopN m) f39_c1) (f39_k1 (lvl Try.prog pk12 m) (loopN m) K) [x0, (.pointer (some ⟨a, 0, none⟩)), x2, acc, (.int .i64 (v : Nat)), u, (.int .i64 (i : Nat)), x7, x8, x9, x10, x11, x12, x13, x14, x15, x16, x17, x18, x19, x20, x21, x22, x23, x24, x25, x26, x27, x28, x29, x30, x31, x32, x33, x34, x35, x36, x37, x38, x39, x40, x41, x42, x43, x44, x45, x46, x47] H1 = some (u2, H') ∧ Q H' u2 := by
  intro q

  induction q with
  | zero =>
    intro i k H1 acc hr hi hk he hu hap ha hnew
    intros
    obtain ⟨k, rfl⟩ : ∃ n, k = n + 1 := ⟨k - 1, by omega⟩
    obtain rfl : ws.length = i := by omega
    have e : decide (((ws.length : Nat) : Int) < (ws.length : Nat)) = false := by simp
    have hlen := hu.len
    rw [List.take_of_length_le (Nat.le_refl _)] at ha
    rw [loop_succ, f39_b1_eq]
    unfold f39_b1
    simp -implicitDefEqProofs only [r_opt, r_ret, ob_some, ifB_true, iteV_true, iteV_false, r_gdt, r_gdt2, r_gdtf, r_gdtf2, r_gdff, r_gdff2, r_gdft, r_gdft2, r_gdu, r_gdu2, pick_t, pick_f, ext_0, ext_1, x_newB, r_nil, r_fAddr, Nat.zero_add, b_lss, b_leq, b_gtr, b_geq, b_eql, b_neq, u_not, Bool.not_true, Bool.not_false, oneOf_one, oneOf_two, again_normal, again_exit, again_ret, Bool.and_true, hlen, e]
    rw [f39_e1_2_eq]
    unfold f39_e1_2
    simp -implicitDefEqProofs only [r_opt, r_ret, ob_some, ifB_true, iteV_true, iteV_false, r_gdt, r_gdt2, r_gdtf, r_gdtf2, r_gdff, r_gdff2, r_gdft, r_gdft2, r_gdu, r_gdu2, pick_t, pick_f, ext_0, ext_1, x_newB, r_nil, r_fAddr, Nat.zero_add, b_lss, b_leq, b_gtr, b_geq, b_eql, b_neq, u_not, Bool.not_true, Bool.not_false, oneOf_one, oneOf_two, again_normal, again_exit, again_ret, Bool.and_true, b_add]
    exact hK H1 acc he ha hnew ..
  | succ q ih =>
    intro i k H1 acc hr hi hk he hu hap ha hnew
    intros
    obtain ⟨k, rfl⟩ : ∃ n, k = n + 1 := ⟨k - 1, by omega⟩
    have e : decide ((i : Int) < (ws.length : Nat)) = true := decide_eq_true (by omega)
    have e3 : IntKind.i64.wrap ((i : Int) + 1) = ((i + 1 : Nat) : Int) := by rw [wrap_i64 (by omega) (by omega)]; omega
    have hlen := hu.len
    have hxi : ws[i]? = some ws[i] := List.getElem?_eq_getElem (by omega)
    obtain ⟨b, o, g1, g2, g3⟩ := hu.at_ inC_len hxi .i64
    have l1 : ld1 (.pointer (some ⟨b, o, none⟩)) H1 = some (.int .i64 ws[i], H1) := (g3 H1 rfl).2.1 0 _ rfl
    have htake : ws.take (i + 1) = ws.take i ++ [ws[i]] := by rw [List.take_add_one, hxi]; rfl
    have hfl : ((ws.take i).filter fun w => wi w 0 5).length ≤ (ws.filter fun w => wi w 0 5).length := (List.Sublist.filter _ (List.take_sublist i ws)).length_le
    rw [loop_succ, f39_b1_eq]
    unfold f39_b1
    by_cases c0 : 0 ≤ ws[i]
    · by_cases c1 : ws[i] < 6
      · have c : wi ws[i] 0 5 = true := by unfold wi; rw [decide_eq_true c0, decide_eq_true (by omega)]; rfl
        obtain ⟨acc2, H2, t1, t2, t3, t4, t5, t6⟩ := ha.push2 (by' := 16) edC_len edC_all (by decide) ((v : Int), ws[i]) hnew he (roomy_mono (n := 1000000) (by decide) (by simp only [List.length_append, List.length_map]; omega))
        simp -implicitDefEqProofs only [r_opt, r_ret, ob_some, ifB_true, iteV_true, iteV_false, r_gdt, r_gdt2, r_gdtf, r_gdtf2, r_gdff, r_gdff2, r_gdft, r_gdft2, r_gdu, r_gdu2, pick_t, pick_f, ext_0, ext_1, x_newB, r_nil, r_fAddr, Nat.zero_add, b_lss, b_leq, b_gtr, b_geq, b_eql, b_neq, u_not, Bool.not_true, Bool.not_false, oneOf_one, oneOf_two, again_normal, again_exit, again_ret, Bool.and_true, hlen, e, g1, l1, c0, c1, decide_true, bHop, bldHop, t1, b_add, e3]
        refine ih (i + 1) k H2 acc2 (by omega) (by omega) (by omega) t4 (hu.apart hap t5) (hap.up t5 t6) ?_ t3 ..
        have : ([ws[i]].filter fun w => wi w 0 5) = [ws[i]] := by rw [List.filter_cons, if_pos c]; rfl
        rw [htake, List.filter_append, List.map_append, ← List.append_assoc, this]
        exact t2
      · have c : ¬ wi ws[i] 0 5 = true := by unfold wi; rw [decide_eq_false (show ¬ ws[i] ≤ 5 by omega)]; simp
        simp -implicitDefEqProofs only [r_opt, r_ret, ob_some, ifB_true, iteV_true, iteV_false, r_gdt, r_gdt2, r_gdtf, r_gdtf2, r_gdff, r_gdff2, r_gdft, r_gdft2, r_gdu, r_gdu2, pick_t, pick_f, ext_0, ext_1, x_newB, r_nil, r_fAddr, Nat.zero_add, b_lss, b_leq, b_gtr, b_geq, b_eql, b_neq, u_not, Bool.not_true, Bool.not_false, oneOf_one, oneOf_two, again_normal, again_exit, again_ret, Bool.and_true, hlen, e, g1, l1, c0, c1, decide_true, decide_false, b_add, e3]
        refine ih (i + 1) k H1 acc (by omega) (by omega) (by omega) he hu hap ?_ hnew ..
        have : ([ws[i]].filter fun w => wi w 0 5) = [] := by rw [List.filter_cons, if_neg c]; rfl
        rw [htake, List.filter_append, this, List.append_nil]
        exact ha
    · have c : ¬ wi ws[i] 0 5 = true := by unfold wi; rw [decide_eq_false c0]; simp
      simp -implicitDefEqProofs only [r_opt, r_ret, ob_some, ifB_true, iteV_true, iteV_false, r_gdt, r_gdt2, r_gdtf, r_gdtf2, r_gdff, r_gdff2, r_gdft, r_gdft2, r_gdu, r_gdu2, pick_t, pick_f, ext_0, ext_1, x_newB, r_nil, r_fAddr, Nat.zero_add, b_lss, b_leq, b_gtr, b_geq, b_eql, b_neq, u_not, Bool.not_true, Bool.not_false, oneOf_one, oneOf_two, again_normal, again_exit, again_ret, Bool.and_true, hlen, e, g1, l1, c0, decide_false, b_add, e3]
      refine ih (i + 1) k H1 acc (by omega) (by omega) (by omega) he hu hap ?_ hnew ..
      have : ([ws[i]].filter fun w => wi w 0 5) = [] := by rw [List.filter_cons, if_neg c]; rfl
      rw [htake, List.filter_append, this, List.append_nil]
      exact ha
theorem rhops_loop0 {H0 : Heap} {a : Nat} (hp : PV H0 p ev wv nv) (hn : p.edges.length + 70 < m) (hm : m ≤ 72057594037927936) : ∀ (q i k : Nat) (H1 : Heap) (acc : Value), (hopN p) - i = q → i ≤ (hopN p) → q < k → Ext H0 H1 → H0[a]? = some (plB p ev wv nv) → Hw H1 acc ((List.range i).flatMap (hopAt p.edges)) → New H0 acc → ∀ (x0 x2 x5 x6 x7 x8 x9 x10 x11 x12 x13 x14 x15 x16 x17 x18 x19 x20 x21 x22 x23 x24 x25 x26 x27 x28 x29 x30 x31 x32 x33 x34 x35 x36 x37 x38 x39 x40 x41 x42 x43 x44 x45 x46 x47 : Value),
    ∃ H' u2, loopN k (runCode Try.prog (lvl Try.prog pk12 m) (loopN m) f39_c0) (f39_k0 (lvl Try.prog pk12 m) (loopN m)) [x0, (.pointer (some ⟨a, 0, none⟩)), x2, acc, (.int .i64 (i : Nat)), x5, x6, x7, x8, x9, x10, x11, x12, x13, x14, x15, x16, x17, x18, x19, x20, x21, x22, x23, x24, x25, x26, x27, x28, x29, x30, x31, x32, x33, x34, x35, x36, x37, x38, x39, x40, x41, x42, x43, x44, x45, x46, x47] H1 = some (u2, H') ∧ Ext H0 H' ∧ Hw H' u2 (hopsOf p) ∧ New H0 u2 := by
  intro q
  have h6 : hopN p ≤ 6 := by unfold hopN; omega
  induction q with
  | zero =>
    intro i k H1 acc hr hi hk he hb0 ha hnew
    intros
    obtain ⟨k, rfl⟩ : ∃ n, k = n + 1 := ⟨k - 1, by omega⟩
    obtain rfl : (hopN p) = i := by omega
    have e : decide ((((hopN p) : Nat) : Int) < ((hopN p) : Nat)) = false := by simp
    have hb := ld_of hb0 he
    have l0 := ld_pl hb 0 _ rfl
    refine ⟨H1, acc, ?_, he, ha, hnew⟩
    rw [loop_succ, f39_b0_eq]
    unfold f39_b0
    by_cases c : (hopN p : Int) < p.nodes
    · have c2 : decide ((hopN p : Int) < 6) = false := decide_eq_false (by unfold hopN at *; omega)
      simp -implicitDefEqProofs only [r_opt, r_ret, ob_some, ifB_true, iteV_true, iteV_false, r_gdt, r_gdt2, r_gdtf, r_gdtf2, r_gdff, r_gdff2, r_gdft, r_gdft2, r_gdu, r_gdu2, pick_t, pick_f, ext_0, ext_1, x_newB, r_nil, r_fAddr, Nat.zero_add, b_lss, b_leq, b_gtr, b_geq, b_eql, b_neq, u_not, Bool.not_true, Bool.not_false, oneOf_one, oneOf_two, again_normal, again_exit, again_ret, Bool.and_true, l0, c, decide_true, c2]
      rw [f39_e0_0_eq]
      rfl
    · simp -implicitDefEqProofs only [r_opt, r_ret, ob_some, ifB_true, iteV_true, iteV_false, r_gdt, r_gdt2, r_gdtf, r_gdtf2, r_gdff, r_gdff2, r_gdft, r_gdft2, r_gdu, r_gdu2, pick_t, pick_f, ext_0, ext_1, x_newB, r_nil, r_fAddr, Nat.zero_add, b_lss, b_leq, b_gtr, b_geq, b_eql, b_neq, u_not, Bool.not_true, Bool.not_false, oneOf_one, oneOf_two, again_normal, again_exit, again_ret, Bool.and_true, l0, c, decide_false]
      rw [f39_e0_0_eq]
      rfl
  | succ q ih =>
    intro i k H1 acc hr hi hk he hb0 ha hnew
    intros
    obtain ⟨k, rfl⟩ : ∃ n, k = n + 1 := ⟨k - 1, by omega⟩
    have e : decide ((i : Int) < ((hopN p) : Nat)) = true := decide_eq_true (by omega)
    have e3 : IntKind.i64.wrap ((i : Int) + 1) = ((i + 1 : Nat) : Int) := by rw [wrap_i64 (by omega) (by omega)]; omega
    have hb := ld_of hb0 he
    have l0 := ld_pl hb 0 _ rfl
    have l11 := ld_pl11 hb
    obtain ⟨H2, u, g1, g2, g3, g4⟩ := rbes_is (hp.ext he) (m := m) (by omega) (by omega) (i : Int)
    have hble := bes_le p.edges (i : Int)
    have hol := flat_bound p.edges i
    have hff := filt_few _ (bes_pw p.edges (i : Int))
    have hL := hp.be
    have hap : Apart H2 u acc := fun b hb => ⟨g3.lt hb, fun hc => by have := g4 b hb; have := ha.lt hc; omega⟩
    have ha2 : Hw H2 acc ((List.range i).flatMap (hopAt p.edges)) := ha.keep fun b hb => g2.2 b (ha.lt hb) id
    have c1 : decide ((i : Int) < p.nodes) = true := decide_eq_true (by unfold hopN at hr; omega)
    have c2 : decide ((i : Int) < 6) = true := decide_eq_true (by omega)
    rw [loop_succ, f39_b0_eq]
    unfold f39_b0
    simp -implicitDefEqProofs only [r_opt, r_ret, ob_some, ifB_true, iteV_true, iteV_false, r_gdt, r_gdt2, r_gdtf, r_gdtf2, r_gdff, r_gdff2, r_gdft, r_gdft2, r_gdu, r_gdu2, pick_t, pick_f, ext_0, ext_1, x_newB, r_nil, r_fAddr, Nat.zero_add, b_lss, b_leq, b_gtr, b_geq, b_eql, b_neq, u_not, Bool.not_true, Bool.not_false, oneOf_one, oneOf_two, again_normal, again_exit, again_ret, Bool.and_true, l0, c1, c2, l11, g1]
    refine rhops_loop1 (H0 := H0) (a := a) (v := i) (ws := bes p.edges (i : Int)) (hs := (List.range i).flatMap (hopAt p.edges)) (Q := fun H' u2 => Ext H0 H' ∧ Hw H' u2 (hopsOf p) ∧ New H0 u2) (by omega) (by omega) (by omega) ?_ (bes p.edges (i : Int)).length 0 m H2 acc (by omega) (by omega) (by omega) (he.tr g2) g3.rs hap (by simpa using ha2) hnew ..
    intro H3 acc3 k1 k2 k3
    intros
    rw [again_normal, e3]
    refine ih (i + 1) k H3 acc3 (by omega) (by omega) (by omega) k1 hb0 ?_ k3 ..
    rw [List.range_succ, List.flatMap_append]
    simpa [hopAt] using k2
theorem rhops_is (hp : PV H p ev wv nv) (hn : p.edges.length + 80 < m) (hm : m ≤ 72057594037927936) : ∃ H' u, lvl Try.prog pk12 m (.func 39) [plV p ev wv nv] H = some (u, H') ∧ Ext H H' ∧ Hw H' u (hopsOf p) ∧ New H u := by
  have h1 := hp.be
  have h2 := hp.bw
  have h3 := hp.bn
  obtain ⟨H0, hH0⟩ : ∃ H0, H0 = H ++ [plB p ev wv nv] := ⟨_, rfl⟩
  have x0 : Ext H H0 := by rw [hH0]; exact Fr.app _ _ _
  have b0 : H0[H.length]? = some (plB p ev wv nv) := by rw [hH0]; exact at_last _ _
  have h6 : hopN p ≤ 6 := by unfold hopN; omega
  obtain ⟨H', u, g1, g2, g3, g4⟩ : ∃ H' u, lvl Try.prog pk12 m (.func 39) [plV p ev wv nv] H = some (u, H') ∧ Ext H0 H' ∧ Hw H' u (hopsOf p) ∧ New H0 u := by
    refine lvl_ex (pk_no rfl rfl) (by omega) ?_
    rw [f39_eq]
    unfold f39
    simp -implicitDefEqProofs only [r_opt, r_ret, ob_some, ifB_true, iteV_true, iteV_false, r_gdt, r_gdt2, r_gdtf, r_gdtf2, r_gdff, r_gdff2, r_gdft, r_gdft2, r_gdu, r_gdu2, pick_t, pick_f, ext_0, ext_1, x_newB, r_nil, r_fAddr, Nat.zero_add, b_lss, b_leq, b_gtr, b_geq, b_eql, b_neq, u_not, Bool.not_true, Bool.not_false, oneOf_one, oneOf_two, again_normal, again_exit, again_ret, Bool.and_true, plV_cells, ← hH0]
    exact rhops_loop0 (hp.ext x0) (m := m - 1) (by omega) (by omega) (hopN p) 0 (m - 1) H0 _ (by omega) (by omega) (by omega) (Fr.refl _ _) b0 (Rw.nil (el := edC)) (New.nil _) ..
  exact ⟨H', u, g1, x0.tr g2, g3, fun b hb => Nat.le_trans x0.1 (g4 b hb)⟩
end
end Go.Proofs.Ytdobnaldfmpimaa

set_option linter.unusedSectionVars false
set_option linter.unusedSimpArgs false
set_option linter.unusedVariables false
set_option maxRecDepth 100000
namespace Go.Proofs.Ytdobnaldfmpimaa
open Go.Abs
def mkN (nodes : Nat) : Nat := 2 + nodes % 5
def mkW (more : Nat) (i : Nat) : Int := ((1 + (i + more) % 5 : Nat) : Int)
def prs (n : Nat) : List (Nat × Nat) := (List.range n).flatMap fun b => (List.range b).map fun a => (a, b)
def selE : Nat → List (Nat × Nat) → List Ed
  | _, [] => []
  | bit, (a, b) :: r => if bit % 2 = 1 then ((a : Int), (b : Int)) :: selE (bit / 2) r else selE (bit / 2) r
def nxt (n : Nat) (next : List Nat) (k w : Nat) : Nat := match next[k]? with
  | some x => if x % 4 = 0 then (x / 4) % n else w
  | none => w
def mkRow (n : Nat) (next : List Nat) (v : Nat) : List Int := (List.range n).map fun w => ((nxt n next (v * n + w) w : Nat) : Int)
def mkP (nodes room more joined : Nat) (next : List Nat) : PlanD where
  nodes := mkN nodes
  edges := selE joined (prs (mkN nodes))
  lanes := ((1 + more % 3 : Nat) : Int)
  room := ((1 + room % 8 : Nat) : Int)
  queue := ((1 + room / 8 % 8 : Nat) : Int)
  rounds := ((1 + more / 3 % 4 : Nat) : Int)
  every := ((1 + more / 12 % 8 : Nat) : Int)
  bag := 64
  weights := (List.range (1 + more % 3)).map (mkW more)
  start := joined
  next := (List.range (mkN nodes)).map (mkRow (mkN nodes) next)
def u8C (n : Nat) : List Value := [.int .u8 n]
theorem u8C_len (n : Nat) : (u8C n).length = 1 := rfl
abbrev Us (H : Heap) (v : Value) (xs : List Nat) := Rs u8C 5 H v xs
theorem cvU (H : Heap) (n : Nat) (h : n < 256) : conv Try.prog 5 3 (.int .u8 n) H = some (.int .i64 n, H) := by
  have h1 : Try.prog.underlying 5 = some (.int .u8) := by kernel_rfl
  have h2 : Try.prog.underlying 3 = some (.int .i64) := by kernel_rfl
  rw [c_int _ _ h1 h2, wrap_i64 (by omega) (by omega)]
theorem remU (a b : Nat) (c : Int) (hc : c = b) (hb : 0 < b) : bin Try.prog .rem 5 (.int .u8 a) (.int .u8 c) = some (.int .u8 (a % b : Nat)) := by rw [hc, b_rem _ _ _ _ (by omega), Int.tmod_eq_emod_of_nonneg (by omega)]; congr 2
theorem remI (a b : Nat) (c : Int) (hc : c = b) (hb : 0 < b) : bin Try.prog .rem 3 (.int .i64 a) (.int .i64 c) = some (.int .i64 (a % b : Nat)) := by rw [hc, b_rem _ _ _ _ (by omega), Int.tmod_eq_emod_of_nonneg (by omega)]; congr 2
theorem rem16 (a b : Nat) (c : Int) (hc : c = b) (hb : 0 < b) : bin Try.prog .rem 22 (.int .u16 a) (.int .u16 c) = some (.int .u16 (a % b : Nat)) := by rw [hc, b_rem _ _ _ _ (by omega), Int.tmod_eq_emod_of_nonneg (by omega)]; congr 2
theorem wrap_u8 {n : Nat} (h : n < 256) : IntKind.u8.wrap (n : Int) = n := by simp [IntKind.wrap, IntKind.bits, IntKind.signed]; omega
theorem wrap_u16 {n : Nat} (h : n < 65536) : IntKind.u16.wrap (n : Int) = n := by simp [IntKind.wrap, IntKind.bits, IntKind.signed]; omega
theorem quoU (a b : Nat) (c : Int) (hc : c = b) (hb : 0 < b) (ha : a < 256) : bin Try.prog .quo 5 (.int .u8 a) (.int .u8 c) = some (.int .u8 (a / b : Nat)) := by
  rw [hc, b_quo _ _ _ _ (by omega), Int.tdiv_eq_ediv_of_nonneg (by omega)]
  have h2 : ((a : Int) / (b : Int)) = ((a / b : Nat) : Int) := by simp
  rw [h2, wrap_u8 (Nat.lt_of_le_of_lt (Nat.div_le_self a b) ha)]
theorem quo16 (a b : Nat) (c : Int) (hc : c = b) (hb : 0 < b) (ha : a < 65536) : bin Try.prog .quo 22 (.int .u16 a) (.int .u16 c) = some (.int .u16 (a / b : Nat)) := by
  rw [hc, b_quo _ _ _ _ (by omega), Int.tdiv_eq_ediv_of_nonneg (by omega)]
  have h2 : ((a : Int) / (b : Int)) = ((a / b : Nat) : Int) := by simp
  rw [h2, wrap_u16 (Nat.lt_of_le_of_lt (Nat.div_le_self a b) ha)]
def KeepX (b : Nat) (e : TypeId) (H H' : Heap) : Prop := ∀ (c : Nat) (y : Blk), c ≠ b → (∀ cs, y ≠ .cells cs e .row) → H[c]? = some y → H'[c]? = some y
section
variable {H : Heap} {m : Nat} {p : PlanD} {ev wv nv : Value}
theorem push_field {α : Type} {el : α → List Value} {e : TypeId} {sz by' : Nat} (hsz : ∀ x, (el x).length = sz) (hall : ∀ x, allCells (el x) = true) (h0 : 0 < sz) {H0 : Heap} {v : Value} {xs : List α} {b j : Nat} {cs : List Value} (x : α)
    (hb : H[b]? = some (.cells cs 27 .fix)) (hj : j < cs.length) (hv : Rw el e sz H v xs) (hn : New H0 v) (hbn : H0.length ≤ b) (he : Ext H0 H) (hr : roomy (xs.length + 1) by' = true) :
    ∃ v' H1 H', app e sz by' v (.slice (some ⟨H.length, 0, none⟩) 1 1) (H ++ [.cells (el x) e .row]) = some (v', H1) ∧ stN 1 (.pointer (some ⟨b, j, none⟩)) v' H1 = some (undef, H') ∧
      Rw el e sz H' v' (xs ++ [x]) ∧ New H0 v' ∧ Ext H0 H' ∧ H'[b]? = some (.cells (cs.set j v') 27 .fix) ∧ KeepX b e H H' := by
  obtain ⟨v', H1, g1, g2, g3, g4, g5, g6⟩ := hv.push2 hsz hall h0 (by' := by') x hn he hr
  have hbl := (List.getElem?_eq_some_iff.mp hb).1
  have hnh : ¬ home v b := fun hh => by
    obtain ⟨c', hc'⟩ := hv.blk hh
    rw [hb] at hc'
    simp at hc'
  have hb1 : H1[b]? = some (.cells cs 27 .fix) := by rw [g5.2 b hbl hnh, hb]
  obtain ⟨s1, s2⟩ := g2.shape
  have hb1l := (List.getElem?_eq_some_iff.mp hb1).1
  refine ⟨v', H1, H1.set b (.cells (cs.set j v') 27 .fix), g1, ?_, g2.keep fun c hc => ?_, g3, ⟨by rw [List.length_set]; exact g4.1, fun c hc _ => ?_⟩, List.getElem?_set_self hb1l, fun c y hcb hA hy => ?_⟩
  · rw [x_stN 1 _ _ _ (by rw [s1]; rfl), hb1, s1, x_stC _ _ _ _ _ _ (by decide) (by simp; omega) s2]
    rfl
  · refine List.getElem?_set_ne fun hh => ?_
    subst hh
    obtain ⟨c', hc'⟩ := g2.blk hc
    rw [hb1] at hc'
    simp at hc'
  · rw [List.getElem?_set_ne (by omega), g4.2 c hc id]
  · have hch : ¬ home v c := fun hh => by
      obtain ⟨c', hc'⟩ := hv.blk hh
      rw [hy] at hc'
      cases hc'
      exact hA _ rfl
    rw [List.getElem?_set_ne (Ne.symm hcb), g5.2 c (List.getElem?_eq_some_iff.mp hy).1 hch, hy]
theorem Rw.keepX {α : Type} {el : α → List Value} {e e' : TypeId} {sz b : Nat} {H' : Heap} {v : Value} {xs : List α} {cs : List Value} (h : Rw el e' sz H v xs) (hk : KeepX b e H H') (hb : H[b]? = some (.cells cs 27 .fix)) (hne : e' ≠ e) : Rw el e' sz H' v xs := h.keep fun c hc => by
  obtain ⟨cs', hx⟩ := h.blk hc
  have hcb : c ≠ b := fun hh => by
    subst hh
    rw [hb] at hx
    simp at hx
  rw [hx]
  exact hk c _ hcb (fun cs'' hh => by cases hh; exact hne rfl) hx
theorem bEd (a b : Int) : bld Try.prog 33 [(0, .int .i64 a), (1, .int .i64 b)] = some (edV (a, b)) := rfl
theorem bldEd (H : Heap) (y : Ed) : bldSlice 33 2 1 [.int .i64 0, .int .i64 0] [(0, edV y)] H = some (.slice (some ⟨H.length, 0, none⟩) 1 1, H ++ [.cells (edC y) 33 .row]) := rfl
theorem make_row {H0 : Heap} {b rb n v joined : Nat} {a4 : Value} {next : List Nat} {zs : List Value} {Q : Heap → Value → Prop} {K : Ex → K (Value × Heap)} (hn6 : n ≤ 6) (hv6 : v < n) (hnx : Us H0 a4 next) (hu8 : ∀ x ∈ next, x < 256) (hnl : next.length ≤ 72057594037927936) (hpn : p.nodes = (n : Int)) (hbr : H0[rb]? = some (.cells zs 27 .fix)) (hb : H0[b]? = some (plB p ev wv nv))
    (hK : ∀ (H' : Heap) (u : Value), Ext H0 H' → Iw H' u (mkRow n next v) → New H0 u → ∀ (x0 x1 x2 x5 x6 x7 x8 x9 x12 x13 x14 x15 x19 x20 x21 x22 x23 x24 x25 x26 x27 x28 x29 x30 x31 x32 x33 x34 x35 x36 x37 x38 x39 x40 x41 x42 x43 x44 x45 x46 x47 x48 x49 x50 x51 x52 x53 x54 x55 x56 x57 x58 x59 x60 x61 x62 x63 x64 x65 x66 x67 x68 x69 x70 x71 x72 x73 x74 x75 x76 x77 x78 x79 x80 x81 x82 x83 x84 x85 x86 x87 x88 x89 x90 x91 x92 x93 x94 x95 x96 x97 x98 x99 x100 x101 x102 x103 x104 x105 x106 x107 x108 x109 x110 x111 x112 x113 x114 x115 x116 x117 x118 x119 x120 x121 x122 x123 x124 x125 x126 x127 x128 x129 x130 x131 x132 x133 x134 x135 x136 x137 x138 : Value), ∃ H2 u2, f15_e4_8 (lvl Try.prog pk12 m) (loopN m) K x0 x1 x2 (.int .u16 joined) a4 x5 x6 x7 x8 x9 (.pointer (some ⟨rb, 0, none⟩)) (.pointer (some ⟨b, 0, none⟩)) x12 x13 x14 x15 (.int .i64 ((v + 1) * n : Nat)) (.int .i64 (v : Nat)) u x19 x20 x21 x22 x23 x24 x25 x26 x27 x28 x29 x30 x31 x32 x33 x34 x35 x36 x37 x38 x39 x40 x41 x42 x43 x44 x45 x46 x47 x48 x49 x50 x51 x52 x53 x54 x55 x56 x57 x58 x59 x60 x61 x62 x63 x64 x65 x66 x67 x68 x69 x70 x71 x72 x73 x74 x75 x76 x77 x78 x79 x80 x81 x82 x83 x84 x85 x86 x87 x88 x89 x90 x91 x92 x93 x94 x95 x96 x97 x98 x99 x100 x101 x102 x103 x104 x105 x106 x107 x108 x109 x110 x111 x112 x113 x114 x115 x116 x117 x118 x119 x120 x121 x122 x123 x124 x125 x126 x127 x128 x129 x130 x131 x132 x133 x134 x135 x136 x137 x138 H' = some (u2, H2) ∧ Q H2 u2) : ∀ (q i k : Nat) (H1 : Heap) (acc : Value), n - i = q → i ≤ n → q < k → Ext H0 H1 → Iw H1 acc ((List.range i).map fun w => ((nxt n next (v * n + w) w : Nat) : Int)) → New H0 acc → ∀ (x0 x1 x2 x5 x6 x7 x8 x9 x12 x13 x14 x15 x20 x21 x22 x23 x24 x25 x26 x27 x28 x29 x30 x31 x32 x33 x34 x35 x36 x37 x38 x39 x40 x41 x42 x43 x44 x45 x46 x47 x48 x49 x50 x51 x52 x53 x54 x55 x56 x57 x58 x59 x60 x61 x62 x63 x64 x65 x66 x67 x68 x69 x70 x71 x72 x73 x74 x75 x76 x77 x78 x79 x80 x81 x82 x83 x84 x85 x86 x87 x88 x89 x90 x91 x92 x93 x94 x95 x96 x97 x98 x99 x100 x101 x102 x103 x104 x105 x106 x107 x108 x109 x110 x111 x112 x113 x114 x115 x116 x117 x118 x119 x120 x121 x122 x123 x124 x125 x126 x127 x128 x129 x130 x131 x132 x133 x134 x135 x136 x137 x138 : Value),
    ∃ H2 u2, loopN k (runCode Try.prog (lvl Try.prog pk12 m) (loopN m) f15_c4) (f15_k4 (lvl Try.prog pk12 m) (loopN m) K) [x0, x1, x2, (.int .u16 joined), a4, x5, x6, x7, x8, x9, (.pointer (some ⟨rb, 0, none⟩)), (.pointer (some ⟨b, 0, none⟩)), x12, x13, x14, x15, (.int .i64 (v * n + i : Nat)), (.int .i64 (v : Nat)), acc, (.int .i64 (i : Nat)), x20, x21, x22, x23, x24, x25, x26, x27, x28, x29, x30, x31, x32, x33, x34, x35, x36, x37, x38, x39, x40, x41, x42, x43, x44, x45, x46, x47, x48, x49, x50, x51, x52, x53, x54, x55, x56, x57, x58, x59, x60, x61, x62, x63, x64, x65, x66, x67, x68, x69, x70, x71, x72, x73, x74, x75, x76, x77, x78, x79, x80, x81, x82, x83, x84, x85, x86, x87, x88, x89, x90, x91, x92, x93, x94, x95, x96, x97, x98, x99, x100, x101, x102, x103, x104, x105, x106, x107, x108, x109, x110, x111, x112, x113, x114, x115, x116, x117, x118, x119, x120, x121, x122, x123, x124, x125, x126, x127, x128, x129, x130, x131, x132, x133, x134, x135, x136, x137, x138] H1 = some (u2, H2) ∧ Q H2 u2 := by
  intro q

  induction q with
  | zero =>
    intro i k H1 acc hr hi hk he ha hnew
    intros
    obtain ⟨k, rfl⟩ : ∃ n, k = n + 1 := ⟨k - 1, by omega⟩
    obtain rfl : n = i := by omega
    have e : decide (((n : Nat) : Int) < (n : Nat)) = false := by simp
    have l0 := ld_pl (ld_of hb he) 0 _ rfl
    rw [hpn] at l0
    rw [loop_succ, f15_b4_eq]
    unfold f15_b4
    simp -implicitDefEqProofs only [r_opt, r_ret, ob_some, ifB_true, iteV_true, iteV_false, r_gdt, r_gdt2, r_gdtf, r_gdtf2, r_gdff, r_gdff2, r_gdft, r_gdft2, r_gdu, r_gdu2, pick_t, pick_f, ext_0, ext_1, x_newB, r_nil, r_fAddr, Nat.zero_add, b_lss, b_leq, b_gtr, b_geq, b_eql, b_neq, u_not, Bool.not_true, Bool.not_false, oneOf_one, oneOf_two, again_normal, again_exit, again_ret, Bool.and_true, l0, e]
    rw [f15_e4_8_eq]
    have hk : v * n + n = (v + 1) * n := by rw [Nat.succ_mul]
    rw [hk]
    exact hK H1 acc he ha hnew ..
  | succ q ih =>
    intro i k H1 acc hr hi hk he ha hnew
    intros
    obtain ⟨k, rfl⟩ : ∃ n, k = n + 1 := ⟨k - 1, by omega⟩
    have e : decide ((i : Int) < (n : Nat)) = true := decide_eq_true (by omega)
    have e3 : IntKind.i64.wrap ((i : Int) + 1) = ((i + 1 : Nat) : Int) := by rw [wrap_i64 (by omega) (by omega)]; omega
    have l0 := ld_pl (ld_of hb he) 0 _ rfl
    rw [hpn] at l0
    have hlen := (hnx.ext he).len
    have hvn : v * n + i < 42 := by
      have : v * n ≤ 5 * n := Nat.mul_le_mul_right _ (by omega)
      omega
    have e4 : IntKind.i64.wrap (((v * n + i : Nat) : Int) + 1) = ((v * n + (i + 1) : Nat) : Int) := by rw [wrap_i64 (by omega) (by omega)]; omega
    have hrange : (List.range (i + 1)).map (fun w => ((nxt n next (v * n + w) w : Nat) : Int)) = (List.range i).map (fun w => ((nxt n next (v * n + w) w : Nat) : Int)) ++ [((nxt n next (v * n + i) i : Nat) : Int)] := by rw [List.range_succ, List.map_append]; rfl
    obtain ⟨acc2, H2, t1, t2, t3, t4⟩ := ha.push1 (by' := 8) inC_len inC_all (by decide) ((nxt n next (v * n + i) i : Nat) : Int) hnew he (roomy_mono (n := 1000) (by decide) (by simp; omega))
    rw [← hrange] at t2
    rw [loop_succ, f15_b4_eq]
    unfold f15_b4
    by_cases c : v * n + i < next.length
    · have d : decide (((v * n + i : Nat) : Int) < next.length) = true := decide_eq_true (by omega)
      have hx : next[v * n + i]? = some next[v * n + i] := List.getElem?_eq_getElem c
      obtain ⟨bb, oo, g1, g2, g3⟩ := (hnx.ext he).at_ u8C_len hx .i64
      have l1 : ld1 (.pointer (some ⟨bb, oo, none⟩)) H1 = some (.int .u8 (next[v * n + i] : Nat), H1) := (g3 H1 rfl).2.1 0 _ rfl
      have hx8 := hu8 _ (List.getElem_mem c)
      have r4 := remU next[v * n + i] 4 4 rfl (by omega)
      by_cases c4 : next[v * n + i] % 4 = 0
      · have d4 : (((next[v * n + i] % 4 : Nat) : Int) == 0) = true := by rw [c4]; rfl
        have q4 := quoU next[v * n + i] 4 4 rfl (by omega) hx8
        have hcv := fun H => cvU H (next[v * n + i] / 4) (by omega)
        have rn := remI (next[v * n + i] / 4) n n rfl (by omega)
        have hval : nxt n next (v * n + i) i = next[v * n + i] / 4 % n := by unfold nxt; rw [hx]; simp only; rw [if_pos c4]
        rw [hval] at t1
        simp -implicitDefEqProofs only [r_opt, r_ret, ob_some, ifB_true, iteV_true, iteV_false, r_gdt, r_gdt2, r_gdtf, r_gdtf2, r_gdff, r_gdff2, r_gdft, r_gdft2, r_gdu, r_gdu2, pick_t, pick_f, ext_0, ext_1, x_newB, r_nil, r_fAddr, Nat.zero_add, b_lss, b_leq, b_gtr, b_geq, b_eql, b_neq, u_not, Bool.not_true, Bool.not_false, oneOf_one, oneOf_two, again_normal, again_exit, again_ret, Bool.and_true, l0, e, hlen, d, g1, l1, r4, d4, q4, hcv, rn, bldI, t1, b_add, e4, e3]
        exact ih (i + 1) k H2 acc2 (by omega) (by omega) (by omega) t4 t2 t3 ..
      · have d4 : (((next[v * n + i] % 4 : Nat) : Int) == 0) = false := by simpa using fun h => c4 (by omega)
        have hval : nxt n next (v * n + i) i = i := by unfold nxt; rw [hx]; simp only; rw [if_neg c4]
        rw [hval] at t1
        simp -implicitDefEqProofs only [r_opt, r_ret, ob_some, ifB_true, iteV_true, iteV_false, r_gdt, r_gdt2, r_gdtf, r_gdtf2, r_gdff, r_gdff2, r_gdft, r_gdft2, r_gdu, r_gdu2, pick_t, pick_f, ext_0, ext_1, x_newB, r_nil, r_fAddr, Nat.zero_add, b_lss, b_leq, b_gtr, b_geq, b_eql, b_neq, u_not, Bool.not_true, Bool.not_false, oneOf_one, oneOf_two, again_normal, again_exit, again_ret, Bool.and_true, l0, e, hlen, d, g1, l1, r4, d4, bldI, t1, b_add, e4, e3]
        exact ih (i + 1) k H2 acc2 (by omega) (by omega) (by omega) t4 t2 t3 ..
    · have d : decide (((v * n + i : Nat) : Int) < next.length) = false := decide_eq_false (by omega)
      have hval : nxt n next (v * n + i) i = i := by unfold nxt; rw [List.getElem?_eq_none (by omega)]
      rw [hval] at t1
      simp -implicitDefEqProofs only [r_opt, r_ret, ob_some, ifB_true, iteV_true, iteV_false, r_gdt, r_gdt2, r_gdtf, r_gdtf2, r_gdff, r_gdff2, r_gdft, r_gdft2, r_gdu, r_gdu2, pick_t, pick_f, ext_0, ext_1, x_newB, r_nil, r_fAddr, Nat.zero_add, b_lss, b_leq, b_gtr, b_geq, b_eql, b_neq, u_not, Bool.not_true, Bool.not_false, oneOf_one, oneOf_two, again_normal, again_exit, again_ret, Bool.and_true, l0, e, hlen, d, bldI, t1, b_add, e4, e3]
      exact ih (i + 1) k H2 acc2 (by omega) (by omega) (by omega) t4 t2 t3 ..
def SV := {u : Value // allCells [u] = true ∧ u.cells = #[u]}
def sC (u : SV) : List Value := [u.1]
theorem sC_len (u : SV) : (sC u).length = 1 := rfl
theorem sC_all (u : SV) : allCells (sC u) = true := u.2.1
theorem sC_map : ∀ us : List SV, (us.map sC) = (us.map (·.1)).map vC
  | [] => rfl
  | u :: us => by rw [List.map_cons, List.map_cons, List.map_cons, sC_map us]; rfl
structure RowsI (H : Heap) (v : Value) (xss : List (List Int)) (us : List SV) : Prop where
  row : Rw sC 24 1 H v us
  len : us.length = xss.length
  el : ∀ (j : Nat) (u : SV) (xs : List Int), us[j]? = some u → xss[j]? = some xs → Iw H u.1 xs
  ap : ∀ (j j' : Nat) (u u' : SV), j < j' → us[j]? = some u → us[j']? = some u' → ∀ b, home u.1 b → home u'.1 b → False
def RowsW (H : Heap) (v : Value) (xss : List (List Int)) : Prop := ∃ us, RowsI H v xss us
theorem RowsI.keep {H' : Heap} {v : Value} {xss : List (List Int)} {us : List SV} (h : RowsI H v xss us) (h1 : ∀ b, home v b → H'[b]? = H[b]?) (h2 : ∀ u ∈ us, ∀ b, home u.1 b → H'[b]? = H[b]?) : RowsI H' v xss us :=
  ⟨h.row.keep h1, h.len, fun j u xs hu hx => (h.el j u xs hu hx).keep fun b hb => h2 u (List.mem_of_getElem? hu) b hb, h.ap⟩
theorem RowsI.lt {v : Value} {xss : List (List Int)} {us : List SV} (h : RowsI H v xss us) {u : SV} (hu : u ∈ us) {b : Nat} (hb : home u.1 b) : b < H.length := by
  obtain ⟨j, hj⟩ := List.getElem?_of_mem hu
  have := (List.getElem?_eq_some_iff.mp hj).1
  exact (h.el j u _ hj (List.getElem?_eq_getElem (by rw [← h.len]; exact this))).lt hb
theorem RowsI.blk {v : Value} {xss : List (List Int)} {us : List SV} (h : RowsI H v xss us) {u : SV} (hu : u ∈ us) {b : Nat} (hb : home u.1 b) : ∃ cs, H[b]? = some (.cells cs 3 .row) := by
  obtain ⟨j, hj⟩ := List.getElem?_of_mem hu
  have := (List.getElem?_eq_some_iff.mp hj).1
  exact (h.el j u _ hj (List.getElem?_eq_getElem (by rw [← h.len]; exact this))).blk hb
theorem RowsW.ext {H' : Heap} {v : Value} {xss : List (List Int)} (h : RowsW H v xss) (he : Ext H H') : RowsW H' v xss := by
  obtain ⟨us, hi⟩ := h
  exact ⟨us, hi.keep (fun b hb => he.2 b (hi.row.lt hb) id) fun u hu b hb => he.2 b (hi.lt hu hb) id⟩
theorem RowsW.rows {v : Value} {xss : List (List Int)} (h : RowsW H v xss) : Rows H v xss := by
  obtain ⟨us, hi⟩ := h
  refine ⟨us.map (·.1), ?_, by rw [List.length_map, hi.len], fun j u xs hu hx => ?_⟩
  · have := hi.row.rs
    unfold Rs at this ⊢
    rw [List.length_map, ← sC_map]
    rcases this with ⟨h1, h2⟩ | ⟨b, o, cap, h1, h2, h3⟩
    · exact .inl ⟨h1, by rw [h2]; rfl⟩
    · exact .inr ⟨b, o, cap, h1, h2, fun hne => h3 fun hh => hne (by rw [hh]; rfl)⟩
  · rw [List.getElem?_map] at hu
    cases hj : us[j]? with
    | none => rw [hj] at hu; cases hu
    | some u' =>
      rw [hj] at hu
      cases hu
      exact (hi.el j u' xs hj hx).rs
def RowsA (H0 H : Heap) (v : Value) (xss : List (List Int)) (wv : Value) : Prop := ∃ us, RowsI H v xss us ∧ ∀ u ∈ us, ∀ b, home u.1 b → ¬ home wv b ∧ H0.length ≤ b
theorem RowsA.rw {H0 : Heap} {v wv : Value} {xss : List (List Int)} (h : RowsA H0 H v xss wv) : RowsW H v xss := let ⟨us, hi, _⟩ := h; ⟨us, hi⟩
theorem RowsA.ext {H0 H' : Heap} {v wv : Value} {xss : List (List Int)} (h : RowsA H0 H v xss wv) (he : Ext H H') : RowsA H0 H' v xss wv := by
  obtain ⟨us, hi, ha⟩ := h
  exact ⟨us, hi.keep (fun b hb => he.2 b (hi.row.lt hb) id) (fun u hu b hb => he.2 b (hi.lt hu hb) id), ha⟩
structure MS (H0 H1 : Heap) (pb rb : Nat) (zs : List Value) (p : PlanD) (ev wv nv : Value) (E : List Ed) (W : List Int) : Prop where
  ext : Ext H0 H1
  hb : H1[pb]? = some (plB p ev wv nv)
  hr : H1[rb]? = some (.cells zs 27 .fix)
  e : Ew H1 ev E
  en : New H0 ev
  w : Iw H1 wv W
  wn : New H0 wv
  ne : rb ≠ pb
  lp : H0.length ≤ pb
  lr : H0.length ≤ rb
  zl : zs.length = 11
theorem MS.on {H0 H1 H2 : Heap} {pb rb : Nat} {zs : List Value} {E : List Ed} {W : List Int} (h : MS H0 H1 pb rb zs p ev wv nv E W) (he : Ext H1 H2) : MS H0 H2 pb rb zs p ev wv nv E W :=
  ⟨h.ext.tr he, ld_of h.hb he, ld_of h.hr he, h.e.keep fun b hb => he.2 b (h.e.lt hb) id, h.en, h.w.keep fun b hb => he.2 b (h.w.lt hb) id, h.wn, h.ne, h.lp, h.lr, h.zl⟩
theorem make_out {H0 H1 : Heap} {pb rb : Nat} {zs : List Value} {E : List Ed} {W : List Int} {N : List (List Int)} (h : MS H0 H1 pb rb zs p ev wv nv E W) (hn : RowsA H0 H1 nv N wv) {Q : Heap → Value → Prop} (hQ : ∀ H2, Ext H0 H2 → Ew H2 ev E → Iw H2 wv W → RowsA H0 H2 nv N wv → Q H2 (plV p ev wv nv)) (x0 x1 x2 x3 x4 x5 x6 x7 x8 x9 x12 x13 x14 x15 x16 x17 x18 x19 x20 x21 x22 x23 x24 x25 x26 x27 x28 x29 x30 x31 x32 x33 x34 x35 x36 x37 x38 x39 x40 x41 x42 x43 x44 x45 x46 x47 x48 x49 x50 x51 x52 x53 x54 x55 x56 x57 x58 x59 x60 x61 x62 x63 x64 x65 x66 x67 x68 x69 x70 x71 x72 x73 x74 x75 x76 x77 x78 x79 x80 x81 x82 x83 x84 x85 x86 x87 x88 x89 x90 x91 x92 x93 x94 x95 x96 x97 x98 x99 x100 x101 x102 x103 x104 x105 x106 x107 x108 x109 x110 x111 x112 x113 x114 x115 x116 x117 x118 x119 x120 x121 x122 x123 x124 x125 x126 x127 x128 x129 x130 x131 x132 x133 x134 x135 x136 x137 x138 : Value) :
    ∃ H2 u2, f15_e3_6 (lvl Try.prog pk12 m) (loopN m) x0 x1 x2 x3 x4 x5 x6 x7 x8 x9 (.pointer (some ⟨rb, 0, none⟩)) (.pointer (some ⟨pb, 0, none⟩)) x12 x13 x14 x15 x16 x17 x18 x19 x20 x21 x22 x23 x24 x25 x26 x27 x28 x29 x30 x31 x32 x33 x34 x35 x36 x37 x38 x39 x40 x41 x42 x43 x44 x45 x46 x47 x48 x49 x50 x51 x52 x53 x54 x55 x56 x57 x58 x59 x60 x61 x62 x63 x64 x65 x66 x67 x68 x69 x70 x71 x72 x73 x74 x75 x76 x77 x78 x79 x80 x81 x82 x83 x84 x85 x86 x87 x88 x89 x90 x91 x92 x93 x94 x95 x96 x97 x98 x99 x100 x101 x102 x103 x104 x105 x106 x107 x108 x109 x110 x111 x112 x113 x114 x115 x116 x117 x118 x119 x120 x121 x122 x123 x124 x125 x126 x127 x128 x129 x130 x131 x132 x133 x134 x135 x136 x137 x138 H1 = some (u2, H2) ∧ Q H2 u2 := by
  have l11 := ld_pl11 h.hb
  have hrl := (List.getElem?_eq_some_iff.mp h.hr).1
  obtain ⟨a1, a2⟩ := Rw.shape h.e
  obtain ⟨b1, b2⟩ := Rw.shape h.w
  obtain ⟨us, hi, hap⟩ := hn
  obtain ⟨c1, c2⟩ := Rw.shape hi.row
  have hall : allCells (plC p ev wv nv) = true := by
    have e1 : ∀ (v : Value) (vs : List Value), allCells [v] = true → allCells (v :: vs) = allCells vs := fun v vs h => by
      simp only [allCells, List.all_cons, List.all_nil, Bool.and_true] at h ⊢
      rw [h, Bool.true_and]
    simp only [plC, all_int, e1 _ _ a2, e1 _ _ b2, e1 _ _ c2, all_nil]
  have st : stN 11 (.pointer (some ⟨rb, 0, none⟩)) (plV p ev wv nv) H1 = some (undef, H1.set rb (plB p ev wv nv)) := by
    have e1 : (plV p ev wv nv).cells.toList = plC p ev wv nv := rfl
    rw [x_stN 11 _ _ _ rfl, h.hr, e1, x_stC _ _ _ _ _ _ (by decide) (by rw [h.zl]; simp [plC]) hall]
    have hs : setCells zs 0 (plC p ev wv nv) = plC p ev wv nv := by
      match zs, h.zl with
      | [z1, z2, z3, z4, z5, z6, z7, z8, z9, z10, z11], _ => rfl
    rw [hs]
    rfl
  have hb2 : (H1.set rb (plB p ev wv nv))[rb]? = some (plB p ev wv nv) := List.getElem?_set_self hrl
  have l2 := ld_pl11 hb2
  have kp : ∀ (b : Nat) (cs : List Value) (e : TypeId), H1[b]? = some (.cells cs e .row) → (H1.set rb (plB p ev wv nv))[b]? = H1[b]? := fun b cs e hb => by
    refine List.getElem?_set_ne fun hh => ?_
    subst hh
    rw [h.hr] at hb
    simp at hb
  refine ⟨H1.set rb (plB p ev wv nv), plV p ev wv nv, ?_, hQ _ ⟨by rw [List.length_set]; exact h.ext.1, fun b hb _ => ?_⟩ (h.e.keep fun b hb => ?_) (h.w.keep fun b hb => ?_) ⟨us, hi.keep (fun b hb => ?_) (fun u hu b hb => ?_), hap⟩⟩
  · unfold f15_e3_6
    simp -implicitDefEqProofs only [r_opt, r_ret, ob_some, ifB_true, iteV_true, iteV_false, r_gdt, r_gdt2, r_gdtf, r_gdtf2, r_gdff, r_gdff2, r_gdft, r_gdft2, r_gdu, r_gdu2, pick_t, pick_f, ext_0, ext_1, x_newB, r_nil, r_fAddr, Nat.zero_add, b_lss, b_leq, b_gtr, b_geq, b_eql, b_neq, u_not, Bool.not_true, Bool.not_false, oneOf_one, oneOf_two, again_normal, again_exit, again_ret, Bool.and_true, l11, st, l2]
  · rw [List.getElem?_set_ne (by have := h.lr; omega), h.ext.2 b hb id]
  · obtain ⟨cs, hc⟩ := h.e.blk hb
    exact kp b cs _ hc
  · obtain ⟨cs, hc⟩ := h.w.blk hb
    exact kp b cs _ hc
  · obtain ⟨cs, hc⟩ := hi.row.blk hb
    exact kp b cs _ hc
  · obtain ⟨cs, hc⟩ := hi.blk hu hb
    exact kp b cs _ hc
def Made (H0 : Heap) (p : PlanD) (H2 : Heap) (u : Value) : Prop := ∃ ev wv nv, u = plV p ev wv nv ∧ Ext H0 H2 ∧ Ew H2 ev p.edges ∧ Iw H2 wv p.weights ∧ RowsA H0 H2 nv p.next wv
theorem make_rows {H0 : Heap} {pb rb n joined : Nat} {a4 : Value} {next : List Nat} {zs : List Value} (hn6 : n ≤ 6) (hnx : Us H0 a4 next) (hu8 : ∀ x ∈ next, x < 256) (hnl : next.length ≤ 72057594037927936) (hpn : p.nodes = (n : Int)) (hm : 50 < m) (hpx : p.next = (List.range n).map (mkRow n next)) : ∀ (q i k : Nat) (H1 : Heap) (nv1 : Value), n - i = q → i ≤ n → q < k → MS H0 H1 pb rb zs p ev wv nv1 p.edges p.weights → RowsA H0 H1 nv1 ((List.range i).map (mkRow n next)) wv → New H0 nv1 → ∀ (x0 x1 x2 x5 x6 x7 x8 x9 x12 x13 x14 x15 x18 x19 x20 x21 x22 x23 x24 x25 x26 x27 x28 x29 x30 x31 x32 x33 x34 x35 x36 x37 x38 x39 x40 x41 x42 x43 x44 x45 x46 x47 x48 x49 x50 x51 x52 x53 x54 x55 x56 x57 x58 x59 x60 x61 x62 x63 x64 x65 x66 x67 x68 x69 x70 x71 x72 x73 x74 x75 x76 x77 x78 x79 x80 x81 x82 x83 x84 x85 x86 x87 x88 x89 x90 x91 x92 x93 x94 x95 x96 x97 x98 x99 x100 x101 x102 x103 x104 x105 x106 x107 x108 x109 x110 x111 x112 x113 x114 x115 x116 x117 x118 x119 x120 x121 x122 x123 x124 x125 x126 x127 x128 x129 x130 x131 x132 x133 x134 x135 x136 x137 x138 : Value),
    ∃ H2 u2, loopN k (runCode Try.prog (lvl Try.prog pk12 m) (loopN m) f15_c3) (f15_k3 (lvl Try.prog pk12 m) (loopN m)) [x0, x1, x2, (.int .u16 joined), a4, x5, x6, x7, x8, x9, (.pointer (some ⟨rb, 0, none⟩)), (.pointer (some ⟨pb, 0, none⟩)), x12, x13, x14, x15, (.int .i64 (i * n : Nat)), (.int .i64 (i : Nat)), x18, x19, x20, x21, x22, x23, x24, x25, x26, x27, x28, x29, x30, x31, x32, x33, x34, x35, x36, x37, x38, x39, x40, x41, x42, x43, x44, x45, x46, x47, x48, x49, x50, x51, x52, x53, x54, x55, x56, x57, x58, x59, x60, x61, x62, x63, x64, x65, x66, x67, x68, x69, x70, x71, x72, x73, x74, x75, x76, x77, x78, x79, x80, x81, x82, x83, x84, x85, x86, x87, x88, x89, x90, x91, x92, x93, x94, x95, x96, x97, x98, x99, x100, x101, x102, x103, x104, x105, x106, x107, x108, x109, x110, x111, x112, x113, x114, x115, x116, x117, x118, x119, x120, x121, x122, x123, x124, x125, x126, x127, x128, x129, x130, x131, x132, x133, x134, x135, x136, x137, x138] H1 = some (u2, H2) ∧ Made H0 p H2 u2 := by
  intro q

  induction q with
  | zero =>
    intro i k H1 nv1 hr hi hk hM hR hnew
    intros
    obtain ⟨k, rfl⟩ : ∃ n, k = n + 1 := ⟨k - 1, by omega⟩
    obtain rfl : n = i := by omega
    have e : decide (((n : Nat) : Int) < (n : Nat)) = false := by simp
    have l0 := ld_pl hM.hb 0 _ rfl
    rw [hpn] at l0
    rw [loop_succ, f15_b3_eq]
    unfold f15_b3
    simp -implicitDefEqProofs only [r_opt, r_ret, ob_some, ifB_true, iteV_true, iteV_false, r_gdt, r_gdt2, r_gdtf, r_gdtf2, r_gdff, r_gdff2, r_gdft, r_gdft2, r_gdu, r_gdu2, pick_t, pick_f, ext_0, ext_1, x_newB, r_nil, r_fAddr, Nat.zero_add, b_lss, b_leq, b_gtr, b_geq, b_eql, b_neq, u_not, Bool.not_true, Bool.not_false, oneOf_one, oneOf_two, again_normal, again_exit, again_ret, Bool.and_true, l0, e]
    rw [f15_e3_6_eq]
    exact make_out hM hR (fun H2 g2 g3 g4 g5 => ⟨ev, wv, nv1, rfl, g2, g3, g4, by rw [hpx]; exact g5⟩) ..
  | succ q ih =>
    intro i k H1 nv1 hr hi hk hM hR hnew
    intros
    obtain ⟨k, rfl⟩ : ∃ n, k = n + 1 := ⟨k - 1, by omega⟩
    have e : decide ((i : Int) < (n : Nat)) = true := decide_eq_true (by omega)
    have e3 : IntKind.i64.wrap ((i : Int) + 1) = ((i + 1 : Nat) : Int) := by rw [wrap_i64 (by omega) (by omega)]; omega
    have l0 := ld_pl hM.hb 0 _ rfl
    rw [hpn] at l0
    rw [loop_succ, f15_b3_eq]
    unfold f15_b3
    simp -implicitDefEqProofs only [r_opt, r_ret, ob_some, ifB_true, iteV_true, iteV_false, r_gdt, r_gdt2, r_gdtf, r_gdtf2, r_gdff, r_gdff2, r_gdft, r_gdft2, r_gdu, r_gdu2, pick_t, pick_f, ext_0, ext_1, x_newB, r_nil, r_fAddr, Nat.zero_add, b_lss, b_leq, b_gtr, b_geq, b_eql, b_neq, u_not, Bool.not_true, Bool.not_false, oneOf_one, oneOf_two, again_normal, again_exit, again_ret, Bool.and_true, l0, e]
    have hz0 : i * n = i * n + 0 := rfl
    rw [hz0]
    refine make_row (H0 := H1) (b := pb) (rb := rb) (v := i) (zs := zs) (next := next) (Q := Made H0 p) hn6 (by omega) (hnx.ext hM.ext) hu8 hnl hpn hM.hr hM.hb ?_ n 0 m H1 (.slice none 0 0) (by omega) (by omega) (by omega) (Fr.refl _ _) (Rw.nil (el := inC)) (New.nil _) ..
    intro H2 u x2 hu hun
    intros
    have hM2 := hM.on x2
    obtain ⟨us, hi1, hap⟩ := hR
    have hi : RowsI H2 nv1 ((List.range i).map (mkRow n next)) us := hi1.keep (fun b hb => x2.2 b (hi1.row.lt hb) id) fun u hu b hb => x2.2 b (hi1.lt hu hb) id
    have l10 := ld_pl hM2.hb 10 _ rfl
    obtain ⟨s1, s2⟩ := Rw.shape hu
    have s3 : u.cells = #[u] := Array.toList_inj.mp s1
    obtain ⟨su, rfl⟩ : ∃ su : SV, su.1 = u := ⟨⟨u, s2, s3⟩, rfl⟩
    have hb1 := bld_one 24 (.slice none 0 0) su.1 s2 s3 H2
    obtain ⟨nv2, H3, H4, g1, g2, g3, g4, g5, g6, g7⟩ := push_field (by' := 24) sC_len sC_all (by decide) (j := 10) (H0 := H0) su hM2.hb (by simp [plC]) hi.row hnew hM.lp hM2.ext (roomy_mono (n := 1000) (by decide) (by have := hi.len; rw [List.length_map, List.length_range] at this; omega))
    have g1' : app 24 1 24 nv1 (.slice (some ⟨H2.length, 0, none⟩) 1 1) (H2 ++ [.cells [su.1] 24 .row]) = some (nv2, H3) := g1
    have hb4 : H4[pb]? = some (plB p ev wv nv2) := g6
    have e5 : IntKind.i64.wrap ((i : Int) + 1) = ((i + 1 : Nat) : Int) := e3
    unfold f15_e4_8
    simp -implicitDefEqProofs only [r_opt, r_ret, ob_some, ifB_true, iteV_true, iteV_false, r_gdt, r_gdt2, r_gdtf, r_gdtf2, r_gdff, r_gdff2, r_gdft, r_gdft2, r_gdu, r_gdu2, pick_t, pick_f, ext_0, ext_1, x_newB, r_nil, r_fAddr, Nat.zero_add, b_lss, b_leq, b_gtr, b_geq, b_eql, b_neq, u_not, Bool.not_true, Bool.not_false, oneOf_one, oneOf_two, again_normal, again_exit, again_ret, Bool.and_true, l10, hb1, g1', g2, b_add, e5]
    have kI : ∀ (w : Value) (xs : List Int), Iw H2 w xs → Iw H4 w xs := fun w xs hw => Rw.keepX hw g7 hM2.hb (by decide)
    refine ih (i + 1) k H4 nv2 (by omega) (by omega) (by omega) ⟨g5, hb4, g7 _ _ hM.ne (fun cs hh => by cases hh) hM2.hr, Rw.keepX hM2.e g7 hM2.hb (by decide), hM.en, kI _ _ hM2.w, hM.wn, hM.ne, hM.lp, hM.lr, hM.zl⟩ ⟨us ++ [su], ⟨g3, ?_, ?_, ?_⟩, ?_⟩ g4 ..
    · rw [List.length_append, hi.len]
      simp
    · intro j w xs hw hxs
      rw [List.range_succ, List.map_append] at hxs
      by_cases hj : j < us.length
      · rw [List.getElem?_append_left hj] at hw
        rw [List.getElem?_append_left (by rw [← hi.len]; exact hj)] at hxs
        exact kI _ _ (hi.el j w xs hw hxs)
      · rw [List.getElem?_append_right (by omega)] at hw
        rw [List.getElem?_append_right (by rw [← hi.len]; omega), ← hi.len] at hxs
        by_cases h0 : j - us.length = 0
        · rw [h0] at hw hxs
          cases hw
          cases hxs
          exact kI _ _ hu
        · rw [List.getElem?_eq_none (by simp; omega)] at hw
          cases hw
    · intro j j' w w' hjj hw hw' bb hb1' hb2'
      by_cases hj' : j' < us.length
      · rw [List.getElem?_append_left hj'] at hw'
        rw [List.getElem?_append_left (by omega)] at hw
        exact hi.ap j j' w w' hjj hw hw' bb hb1' hb2'
      · rw [List.getElem?_append_right (by omega)] at hw'
        by_cases h0 : j' - us.length = 0
        · rw [h0] at hw'
          cases hw'
          rw [List.getElem?_append_left (by omega)] at hw
          have h1 := hi1.lt (List.mem_of_getElem? hw) hb1'
          have h2 := hun bb hb2'
          omega
        · rw [List.getElem?_eq_none (by simp; omega)] at hw'
          cases hw'
    · intro w hw bb hb1'
      rcases List.mem_append.mp hw with hw | hw
      · exact hap w hw bb hb1'
      · have : w = su := by simpa using hw
        subst this
        have h1 := hun bb hb1'
        have h3 := hM.ext.1
        exact ⟨fun hb2' => by have h2 := hM.w.lt hb2'; omega, by omega⟩
theorem selE_snoc (a b : Nat) : ∀ (L : List (Nat × Nat)) (bit : Nat), selE bit (L ++ [(a, b)]) = selE bit L ++ (if bit / 2 ^ L.length % 2 = 1 then [((a : Int), (b : Int))] else [])
  | [], bit => by
    simp only [List.nil_append, selE, List.length_nil, Nat.pow_zero, Nat.div_one]
  | (c, d) :: L, bit => by
    have ih := selE_snoc a b L (bit / 2)
    have hp : bit / 2 / 2 ^ L.length = bit / 2 ^ (L.length + 1) := by rw [Nat.div_div_eq_div_mul, Nat.pow_succ, Nat.mul_comm]
    rw [hp] at ih
    simp only [List.cons_append, selE, List.length_cons, ih]
    by_cases h : bit % 2 = 1
    · rw [if_pos h, if_pos h]; rfl
    · rw [if_neg h, if_neg h]
theorem selE_len : ∀ (L : List (Nat × Nat)) (bit : Nat), (selE bit L).length ≤ L.length
  | [], _ => Nat.le_refl _
  | (c, d) :: L, bit => by
    have ih := selE_len L (bit / 2)
    unfold selE
    split
    · simp only [List.length_cons]; omega
    · simp only [List.length_cons]; omega
theorem prs_succ (n : Nat) : prs (n + 1) = prs n ++ (List.range n).map fun a => (a, n) := by
  unfold prs
  rw [List.range_succ, List.flatMap_append]
  simp
theorem prs_len : ∀ n, (prs n).length ≤ n * n
  | 0 => by simp [prs]
  | n + 1 => by
    have := prs_len n
    rw [prs_succ, List.length_append, List.length_map, List.length_range]
    have e : (n + 1) * (n + 1) = n * n + n + n + 1 := by rw [Nat.succ_mul, Nat.mul_succ]; omega
    omega
theorem halve (bit k : Nat) : bit / 2 ^ k / 2 = bit / 2 ^ (k + 1) := by rw [Nat.div_div_eq_div_mul, Nat.pow_succ]
theorem make_a {H0 : Heap} {pb rb B joined : Nat} {a4 : Value} {zs : List Value} {Wt : List Int} (hB : B ≤ 6) (hj : joined < 65536) {Q : Heap → Value → Prop} {K : Ex → K (Value × Heap)}
    (hK : ∀ (H' : Heap) (ev' : Value), MS H0 H' pb rb zs p ev' wv nv (selE joined (prs (B + 1))) Wt → ∀ (x0 x1 x2 x5 x6 x7 x8 x9 x12 x15 x16 x17 x18 x19 x20 x21 x22 x23 x24 x25 x26 x27 x28 x29 x30 x31 x32 x33 x34 x35 x36 x37 x38 x39 x40 x41 x42 x43 x44 x45 x46 x47 x48 x49 x50 x51 x52 x53 x54 x55 x56 x57 x58 x59 x60 x61 x62 x63 x64 x65 x66 x67 x68 x69 x70 x71 x72 x73 x74 x75 x76 x77 x78 x79 x80 x81 x82 x83 x84 x85 x86 x87 x88 x89 x90 x91 x92 x93 x94 x95 x96 x97 x98 x99 x100 x101 x102 x103 x104 x105 x106 x107 x108 x109 x110 x111 x112 x113 x114 x115 x116 x117 x118 x119 x120 x121 x122 x123 x124 x125 x126 x127 x128 x129 x130 x131 x132 x133 x134 x135 x136 x137 x138 : Value), ∃ H2 u2, K .normal [x0, x1, x2, (.int .u16 joined), a4, x5, x6, x7, x8, x9, (.pointer (some ⟨rb, 0, none⟩)), (.pointer (some ⟨pb, 0, none⟩)), x12, (.int .u16 (joined / 2 ^ (prs (B + 1)).length : Nat)), (.int .i64 (IntKind.i64.wrap ((B : Int) + 1))), x15, x16, x17, x18, x19, x20, x21, x22, x23, x24, x25, x26, x27, x28, x29, x30, x31, x32, x33, x34, x35, x36, x37, x38, x39, x40, x41, x42, x43, x44, x45, x46, x47, x48, x49, x50, x51, x52, x53, x54, x55, x56, x57, x58, x59, x60, x61, x62, x63, x64, x65, x66, x67, x68, x69, x70, x71, x72, x73, x74, x75, x76, x77, x78, x79, x80, x81, x82, x83, x84, x85, x86, x87, x88, x89, x90, x91, x92, x93, x94, x95, x96, x97, x98, x99, x100, x101, x102, x103, x104, x105, x106, x107, x108, x109, x110, x111, x112, x113, x114, x115, x116, x117, x118, x119, x120, x121, x122, x123, x124, x125, x126, x127, x128, x129, x130, x131, x132, x133, x134, x135, x136, x137, x138] H' = some (u2, H2) ∧ Q H2 u2) : ∀ (q i k : Nat) (H1 : Heap) (ev1 : Value), B - i = q → i ≤ B → q < k → MS H0 H1 pb rb zs p ev1 wv nv (selE joined (prs B ++ (List.range i).map fun a => (a, B))) Wt → ∀ (x0 x1 x2 x5 x6 x7 x8 x9 x12 x16 x17 x18 x19 x20 x21 x22 x23 x24 x25 x26 x27 x28 x29 x30 x31 x32 x33 x34 x35 x36 x37 x38 x39 x40 x41 x42 x43 x44 x45 x46 x47 x48 x49 x50 x51 x52 x53 x54 x55 x56 x57 x58 x59 x60 x61 x62 x63 x64 x65 x66 x67 x68 x69 x70 x71 x72 x73 x74 x75 x76 x77 x78 x79 x80 x81 x82 x83 x84 x85 x86 x87 x88 x89 x90 x91 x92 x93 x94 x95 x96 x97 x98 x99 x100 x101 x102 x103 x104 x105 x106 x107 x108 x109 x110 x111 x112 x113 x114 x115 x116 x117 x118 x119 x120 x121 x122 x123 x124 x125 x126 x127 x128 x129 x130 x131 x132 x133 x134 x135 x136 x137 x138 : Value),
    ∃ H2 u2, loopN k (runCode Try.prog (lvl Try.prog pk12 m) (loopN m) f15_c2) (f15_k2 (lvl Try.prog pk12 m) (loopN m) K) [x0, x1, x2, (.int .u16 joined), a4, x5, x6, x7, x8, x9, (.pointer (some ⟨rb, 0, none⟩)), (.pointer (some ⟨pb, 0, none⟩)), x12, (.int .u16 (joined / 2 ^ ((prs B).length + i) : Nat)), (.int .i64 (B : Nat)), (.int .i64 (i : Nat)), x16, x17, x18, x19, x20, x21, x22, x23, x24, x25, x26, x27, x28, x29, x30, x31, x32, x33, x34, x35, x36, x37, x38, x39, x40, x41, x42, x43, x44, x45, x46, x47, x48, x49, x50, x51, x52, x53, x54, x55, x56, x57, x58, x59, x60, x61, x62, x63, x64, x65, x66, x67, x68, x69, x70, x71, x72, x73, x74, x75, x76, x77, x78, x79, x80, x81, x82, x83, x84, x85, x86, x87, x88, x89, x90, x91, x92, x93, x94, x95, x96, x97, x98, x99, x100, x101, x102, x103, x104, x105, x106, x107, x108, x109, x110, x111, x112, x113, x114, x115, x116, x117, x118, x119, x120, x121, x122, x123, x124, x125, x126, x127, x128, x129, x130, x131, x132, x133, x134, x135, x136, x137, x138] H1 = some (u2, H2) ∧ Q H2 u2 := by
  intro q

  induction q with
  | zero =>
    intro i k H1 ev1 hr hi hk hM
    intros
    obtain ⟨k, rfl⟩ : ∃ n, k = n + 1 := ⟨k - 1, by omega⟩
    obtain rfl : B = i := by omega
    have e : decide (((B : Nat) : Int) < (B : Nat)) = false := by simp
    rw [← prs_succ] at hM
    have hl : (prs B).length + B = (prs (B + 1)).length := by rw [prs_succ, List.length_append, List.length_map, List.length_range]
    rw [hl]
    rw [loop_succ, f15_b2_eq]
    unfold f15_b2
    simp -implicitDefEqProofs only [r_opt, r_ret, ob_some, ifB_true, iteV_true, iteV_false, r_gdt, r_gdt2, r_gdtf, r_gdtf2, r_gdff, r_gdff2, r_gdft, r_gdft2, r_gdu, r_gdu2, pick_t, pick_f, ext_0, ext_1, x_newB, r_nil, r_fAddr, Nat.zero_add, b_lss, b_leq, b_gtr, b_geq, b_eql, b_neq, u_not, Bool.not_true, Bool.not_false, oneOf_one, oneOf_two, again_normal, again_exit, again_ret, Bool.and_true, e]
    rw [f15_e2_4_eq]
    unfold f15_e2_4
    simp -implicitDefEqProofs only [r_opt, r_ret, ob_some, ifB_true, iteV_true, iteV_false, r_gdt, r_gdt2, r_gdtf, r_gdtf2, r_gdff, r_gdff2, r_gdft, r_gdft2, r_gdu, r_gdu2, pick_t, pick_f, ext_0, ext_1, x_newB, r_nil, r_fAddr, Nat.zero_add, b_lss, b_leq, b_gtr, b_geq, b_eql, b_neq, u_not, Bool.not_true, Bool.not_false, oneOf_one, oneOf_two, again_normal, again_exit, again_ret, Bool.and_true, b_add]
    exact hK H1 ev1 hM ..
  | succ q ih =>
    intro i k H1 ev1 hr hi hk hM
    intros
    obtain ⟨k, rfl⟩ : ∃ n, k = n + 1 := ⟨k - 1, by omega⟩
    have e : decide ((i : Int) < (B : Nat)) = true := decide_eq_true (by omega)
    have e3 : IntKind.i64.wrap ((i : Int) + 1) = ((i + 1 : Nat) : Int) := by rw [wrap_i64 (by omega) (by omega)]; omega
    have hpl := prs_len B
    have hpl2 : B * B ≤ 36 := Nat.mul_le_mul hB hB
    have hbit : joined / 2 ^ ((prs B).length + i) < 65536 := Nat.lt_of_le_of_lt (Nat.div_le_self _ _) hj
    have r2 := rem16 (joined / 2 ^ ((prs B).length + i)) 2 2 rfl (by omega)
    have q2 := quo16 (joined / 2 ^ ((prs B).length + i)) 2 2 rfl (by omega) hbit
    rw [halve, Nat.add_assoc] at q2
    have l1 := ld_pl hM.hb 1 _ rfl
    have hlen : (prs B ++ (List.range i).map fun a => (a, B)).length = (prs B).length + i := by rw [List.length_append, List.length_map, List.length_range]
    have hsn := selE_snoc i B (prs B ++ (List.range i).map fun a => (a, B)) joined
    rw [hlen] at hsn
    have hap : prs B ++ (List.range (i + 1)).map (fun a => (a, B)) = (prs B ++ (List.range i).map fun a => (a, B)) ++ [(i, B)] := by rw [List.range_succ, List.map_append, List.append_assoc]; rfl
    have hsl := selE_len (prs B ++ (List.range i).map fun a => (a, B)) joined
    rw [hlen] at hsl
    rw [loop_succ, f15_b2_eq]
    unfold f15_b2
    by_cases c : joined / 2 ^ ((prs B).length + i) % 2 = 1
    · have d : (((joined / 2 ^ ((prs B).length + i) % 2 : Nat) : Int) == 1) = true := by rw [c]; rfl
      rw [if_pos c] at hsn
      obtain ⟨ev2, H3, H4, g1, g2, g3, g4, g5, g6, g7⟩ := push_field (by' := 16) edC_len edC_all (by decide) (j := 1) (H0 := H0) ((i : Int), (B : Int)) hM.hb (by simp [plC]) hM.e hM.en hM.lp hM.ext (roomy_mono (n := 1000) (by decide) (by omega))
      have hb4 : H4[pb]? = some (plB p ev2 wv nv) := g6
      simp -implicitDefEqProofs only [r_opt, r_ret, ob_some, ifB_true, iteV_true, iteV_false, r_gdt, r_gdt2, r_gdtf, r_gdtf2, r_gdff, r_gdff2, r_gdft, r_gdft2, r_gdu, r_gdu2, pick_t, pick_f, ext_0, ext_1, x_newB, r_nil, r_fAddr, Nat.zero_add, b_lss, b_leq, b_gtr, b_geq, b_eql, b_neq, u_not, Bool.not_true, Bool.not_false, oneOf_one, oneOf_two, again_normal, again_exit, again_ret, Bool.and_true, e, r2, d, l1, bEd, bldEd, g1, g2, q2, b_add, e3]
      exact ih (i + 1) k H4 ev2 (by omega) (by omega) (by omega) ⟨g5, hb4, g7 _ _ hM.ne (fun cs hh => by cases hh) hM.hr, by rw [hap, hsn]; exact g3, g4, Rw.keepX hM.w g7 hM.hb (by decide), hM.wn, hM.ne, hM.lp, hM.lr, hM.zl⟩ ..
    · have d : (((joined / 2 ^ ((prs B).length + i) % 2 : Nat) : Int) == 1) = false := beq_eq_false_iff_ne.mpr (fun h => c (Int.ofNat.inj h))
      rw [if_neg c, List.append_nil] at hsn
      simp -implicitDefEqProofs only [r_opt, r_ret, ob_some, ifB_true, iteV_true, iteV_false, r_gdt, r_gdt2, r_gdtf, r_gdtf2, r_gdff, r_gdff2, r_gdft, r_gdft2, r_gdu, r_gdu2, pick_t, pick_f, ext_0, ext_1, x_newB, r_nil, r_fAddr, Nat.zero_add, b_lss, b_leq, b_gtr, b_geq, b_eql, b_neq, u_not, Bool.not_true, Bool.not_false, oneOf_one, oneOf_two, again_normal, again_exit, again_ret, Bool.and_true, e, r2, d, q2, b_add, e3]
      exact ih (i + 1) k H1 ev1 (by omega) (by omega) (by omega) (by rw [hap, hsn]; exact hM) ..
theorem make_b {H0 : Heap} {pb rb n joined : Nat} {a4 : Value} {next : List Nat} {zs : List Value} (hn6 : n ≤ 6) (hnx : Us H0 a4 next) (hu8 : ∀ x ∈ next, x < 256) (hnl : next.length ≤ 72057594037927936) (hpn : p.nodes = (n : Int)) (hm : 50 < m) (hj : joined < 65536) (hpx : p.next = (List.range n).map (mkRow n next)) (hpe : p.edges = selE joined (prs n)) (hn1 : 1 ≤ n) : ∀ (q i k : Nat) (H1 : Heap) (ev1 : Value), n - i = q → i ≤ n → q < k → 1 ≤ i → MS H0 H1 pb rb zs p ev1 wv (.slice none 0 0) (selE joined (prs i)) p.weights → ∀ (x0 x1 x2 x5 x6 x7 x8 x9 x12 x15 x16 x17 x18 x19 x20 x21 x22 x23 x24 x25 x26 x27 x28 x29 x30 x31 x32 x33 x34 x35 x36 x37 x38 x39 x40 x41 x42 x43 x44 x45 x46 x47 x48 x49 x50 x51 x52 x53 x54 x55 x56 x57 x58 x59 x60 x61 x62 x63 x64 x65 x66 x67 x68 x69 x70 x71 x72 x73 x74 x75 x76 x77 x78 x79 x80 x81 x82 x83 x84 x85 x86 x87 x88 x89 x90 x91 x92 x93 x94 x95 x96 x97 x98 x99 x100 x101 x102 x103 x104 x105 x106 x107 x108 x109 x110 x111 x112 x113 x114 x115 x116 x117 x118 x119 x120 x121 x122 x123 x124 x125 x126 x127 x128 x129 x130 x131 x132 x133 x134 x135 x136 x137 x138 : Value),
    ∃ H2 u2, loopN k (runCode Try.prog (lvl Try.prog pk12 m) (loopN m) f15_c1) (f15_k1 (lvl Try.prog pk12 m) (loopN m)) [x0, x1, x2, (.int .u16 joined), a4, x5, x6, x7, x8, x9, (.pointer (some ⟨rb, 0, none⟩)), (.pointer (some ⟨pb, 0, none⟩)), x12, (.int .u16 (joined / 2 ^ (prs i).length : Nat)), (.int .i64 (i : Nat)), x15, x16, x17, x18, x19, x20, x21, x22, x23, x24, x25, x26, x27, x28, x29, x30, x31, x32, x33, x34, x35, x36, x37, x38, x39, x40, x41, x42, x43, x44, x45, x46, x47, x48, x49, x50, x51, x52, x53, x54, x55, x56, x57, x58, x59, x60, x61, x62, x63, x64, x65, x66, x67, x68, x69, x70, x71, x72, x73, x74, x75, x76, x77, x78, x79, x80, x81, x82, x83, x84, x85, x86, x87, x88, x89, x90, x91, x92, x93, x94, x95, x96, x97, x98, x99, x100, x101, x102, x103, x104, x105, x106, x107, x108, x109, x110, x111, x112, x113, x114, x115, x116, x117, x118, x119, x120, x121, x122, x123, x124, x125, x126, x127, x128, x129, x130, x131, x132, x133, x134, x135, x136, x137, x138] H1 = some (u2, H2) ∧ Made H0 p H2 u2 := by
  intro q

  induction q with
  | zero =>
    intro i k H1 ev1 hr hi hk h1i hM
    intros
    obtain ⟨k, rfl⟩ : ∃ n, k = n + 1 := ⟨k - 1, by omega⟩
    obtain rfl : n = i := by omega
    have e : decide (((n : Nat) : Int) < (n : Nat)) = false := by simp
    have l0 := ld_pl hM.hb 0 _ rfl
    rw [hpn] at l0
    rw [← hpe] at hM
    rw [loop_succ, f15_b1_eq]
    unfold f15_b1
    simp -implicitDefEqProofs only [r_opt, r_ret, ob_some, ifB_true, iteV_true, iteV_false, r_gdt, r_gdt2, r_gdtf, r_gdtf2, r_gdff, r_gdff2, r_gdft, r_gdft2, r_gdu, r_gdu2, pick_t, pick_f, ext_0, ext_1, x_newB, r_nil, r_fAddr, Nat.zero_add, b_lss, b_leq, b_gtr, b_geq, b_eql, b_neq, u_not, Bool.not_true, Bool.not_false, oneOf_one, oneOf_two, again_normal, again_exit, again_ret, Bool.and_true, l0, e]
    rw [f15_e1_2_eq]
    unfold f15_e1_2
    have := make_rows (m := m) (pb := pb) (rb := rb) (zs := zs) (wv := wv) (ev := ev1) (joined := joined) hn6 hnx hu8 hnl hpn hm hpx n 0 m H1 (.slice none 0 0) (by omega) (by omega) (by omega) hM ⟨[], ⟨Rw.nil, rfl, fun j u xs h => by simp at h, fun j j' u u' _ h => by simp at h⟩, fun u hu => by cases hu⟩ (New.nil _)
    rw [Nat.zero_mul] at this
    exact this ..
  | succ q ih =>
    intro i k H1 ev1 hr hi hk h1i hM
    intros
    obtain ⟨k, rfl⟩ : ∃ n, k = n + 1 := ⟨k - 1, by omega⟩
    have e : decide ((i : Int) < (n : Nat)) = true := decide_eq_true (by omega)
    have e3 : IntKind.i64.wrap ((i : Int) + 1) = ((i + 1 : Nat) : Int) := by rw [wrap_i64 (by omega) (by omega)]; omega
    have l0 := ld_pl hM.hb 0 _ rfl
    rw [hpn] at l0
    rw [loop_succ, f15_b1_eq]
    unfold f15_b1
    simp -implicitDefEqProofs only [r_opt, r_ret, ob_some, ifB_true, iteV_true, iteV_false, r_gdt, r_gdt2, r_gdtf, r_gdtf2, r_gdff, r_gdff2, r_gdft, r_gdft2, r_gdu, r_gdu2, pick_t, pick_f, ext_0, ext_1, x_newB, r_nil, r_fAddr, Nat.zero_add, b_lss, b_leq, b_gtr, b_geq, b_eql, b_neq, u_not, Bool.not_true, Bool.not_false, oneOf_one, oneOf_two, again_normal, again_exit, again_ret, Bool.and_true, l0, e]
    refine make_a (H0 := H0) (pb := pb) (rb := rb) (B := i) (joined := joined) (zs := zs) (wv := wv) (Wt := p.weights) (Q := Made H0 p) (by omega) hj ?_ i 0 m H1 ev1 (by omega) (by omega) (by omega) (by simpa using hM) ..
    intro H2 ev2 hM2
    intros
    rw [again_normal, e3]
    exact ih (i + 1) k H2 ev2 (by omega) (by omega) (by omega) (by omega) hM2 ..
theorem make_w {H0 : Heap} {pb rb n joined : Nat} {a4 : Value} {next : List Nat} {zs : List Value} (hn6 : n ≤ 6) (hnx : Us H0 a4 next) (hu8 : ∀ x ∈ next, x < 256) (hnl : next.length ≤ 72057594037927936) (hpn : p.nodes = (n : Int)) (hm : 50 < m) {more : Nat} (hmore : more < 256) (hj : joined < 65536) (hpx : p.next = (List.range n).map (mkRow n next)) (hpe : p.edges = selE joined (prs n)) (hpw : p.weights = (List.range (1 + more % 3)).map (mkW more)) (hpl : p.lanes = ((1 + more % 3 : Nat) : Int)) (hn1 : 1 ≤ n) : ∀ (q i k : Nat) (H1 : Heap) (wv1 : Value), (1 + more % 3) - i = q → i ≤ (1 + more % 3) → q < k → MS H0 H1 pb rb zs p (.slice none 0 0) wv1 (.slice none 0 0) [] ((List.range i).map (mkW more)) → ∀ (x0 x1 x5 x6 x7 x8 x9 x13 x14 x15 x16 x17 x18 x19 x20 x21 x22 x23 x24 x25 x26 x27 x28 x29 x30 x31 x32 x33 x34 x35 x36 x37 x38 x39 x40 x41 x42 x43 x44 x45 x46 x47 x48 x49 x50 x51 x52 x53 x54 x55 x56 x57 x58 x59 x60 x61 x62 x63 x64 x65 x66 x67 x68 x69 x70 x71 x72 x73 x74 x75 x76 x77 x78 x79 x80 x81 x82 x83 x84 x85 x86 x87 x88 x89 x90 x91 x92 x93 x94 x95 x96 x97 x98 x99 x100 x101 x102 x103 x104 x105 x106 x107 x108 x109 x110 x111 x112 x113 x114 x115 x116 x117 x118 x119 x120 x121 x122 x123 x124 x125 x126 x127 x128 x129 x130 x131 x132 x133 x134 x135 x136 x137 x138 : Value),
    ∃ H2 u2, loopN k (runCode Try.prog (lvl Try.prog pk12 m) (loopN m) f15_c0) (f15_k0 (lvl Try.prog pk12 m) (loopN m)) [x0, x1, (.int .u8 more), (.int .u16 joined), a4, x5, x6, x7, x8, x9, (.pointer (some ⟨rb, 0, none⟩)), (.pointer (some ⟨pb, 0, none⟩)), (.int .i64 (i : Nat)), x13, x14, x15, x16, x17, x18, x19, x20, x21, x22, x23, x24, x25, x26, x27, x28, x29, x30, x31, x32, x33, x34, x35, x36, x37, x38, x39, x40, x41, x42, x43, x44, x45, x46, x47, x48, x49, x50, x51, x52, x53, x54, x55, x56, x57, x58, x59, x60, x61, x62, x63, x64, x65, x66, x67, x68, x69, x70, x71, x72, x73, x74, x75, x76, x77, x78, x79, x80, x81, x82, x83, x84, x85, x86, x87, x88, x89, x90, x91, x92, x93, x94, x95, x96, x97, x98, x99, x100, x101, x102, x103, x104, x105, x106, x107, x108, x109, x110, x111, x112, x113, x114, x115, x116, x117, x118, x119, x120, x121, x122, x123, x124, x125, x126, x127, x128, x129, x130, x131, x132, x133, x134, x135, x136, x137, x138] H1 = some (u2, H2) ∧ Made H0 p H2 u2 := by
  intro q

  induction q with
  | zero =>
    intro i k H1 wv1 hr hi hk hM
    intros
    obtain ⟨k, rfl⟩ : ∃ n, k = n + 1 := ⟨k - 1, by omega⟩
    obtain rfl : (1 + more % 3) = i := by omega
    have e : decide ((((1 + more % 3) : Nat) : Int) < ((1 + more % 3) : Nat)) = false := by simp
    have l2 := ld_pl hM.hb 2 _ rfl
    rw [hpl] at l2
    rw [← hpw] at hM
    rw [loop_succ, f15_b0_eq]
    unfold f15_b0
    simp -implicitDefEqProofs only [r_opt, r_ret, ob_some, ifB_true, iteV_true, iteV_false, r_gdt, r_gdt2, r_gdtf, r_gdtf2, r_gdff, r_gdff2, r_gdft, r_gdft2, r_gdu, r_gdu2, pick_t, pick_f, ext_0, ext_1, x_newB, r_nil, r_fAddr, Nat.zero_add, b_lss, b_leq, b_gtr, b_geq, b_eql, b_neq, u_not, Bool.not_true, Bool.not_false, oneOf_one, oneOf_two, again_normal, again_exit, again_ret, Bool.and_true, l2, e]
    rw [f15_e0_0_eq]
    unfold f15_e0_0
    have := make_b (m := m) (pb := pb) (rb := rb) (zs := zs) (wv := wv1) (joined := joined) hn6 hnx hu8 hnl hpn hm hj hpx hpe hn1 (n - 1) 1 m H1 (.slice none 0 0) rfl hn1 (by omega) (Nat.le_refl _) hM
    have hp1 : joined / 2 ^ (prs 1).length = joined := by
      have : (prs 1).length = 0 := rfl
      rw [this, Nat.pow_zero, Nat.div_one]
    rw [hp1] at this
    exact this ..
  | succ q ih =>
    intro i k H1 wv1 hr hi hk hM
    intros
    obtain ⟨k, rfl⟩ : ∃ n, k = n + 1 := ⟨k - 1, by omega⟩
    have e : decide ((i : Int) < ((1 + more % 3) : Nat)) = true := decide_eq_true (by omega)
    have e3 : IntKind.i64.wrap ((i : Int) + 1) = ((i + 1 : Nat) : Int) := by rw [wrap_i64 (by omega) (by omega)]; omega
    have l2 := ld_pl hM.hb 2 _ rfl
    rw [hpl] at l2
    have l8 := ld_pl hM.hb 8 _ rfl
    have hcv := fun H => cvU H more hmore
    have a1 : IntKind.i64.wrap ((i : Int) + (more : Int)) = ((i + more : Nat) : Int) := by rw [wrap_i64 (by omega) (by omega)]; omega
    have a2 := remI (i + more) 5 5 rfl (by omega)
    have a3 : IntKind.i64.wrap (1 + ((((i + more) % 5 : Nat)) : Int)) = mkW more i := by unfold mkW; rw [wrap_i64 (by omega) (by omega)]; omega
    obtain ⟨wv2, H2, H3, g1, g2, g3, g4, g5, g6, g7⟩ := push_field (by' := 8) inC_len inC_all (by decide) (j := 8) (H0 := H0) (mkW more i) hM.hb (by simp [plC]) hM.w hM.wn hM.lp hM.ext (roomy_mono (n := 1000) (by decide) (by simp; omega))
    have hb3 : H3[pb]? = some (plB p (.slice none 0 0) wv2 (.slice none 0 0)) := g6
    rw [loop_succ, f15_b0_eq]
    unfold f15_b0
    simp -implicitDefEqProofs only [r_opt, r_ret, ob_some, ifB_true, iteV_true, iteV_false, r_gdt, r_gdt2, r_gdtf, r_gdtf2, r_gdff, r_gdff2, r_gdft, r_gdft2, r_gdu, r_gdu2, pick_t, pick_f, ext_0, ext_1, x_newB, r_nil, r_fAddr, Nat.zero_add, b_lss, b_leq, b_gtr, b_geq, b_eql, b_neq, u_not, Bool.not_true, Bool.not_false, oneOf_one, oneOf_two, again_normal, again_exit, again_ret, Bool.and_true, l2, e, l8, hcv, b_add, a1, a2, a3, bldI, g1, g2, e3]
    exact ih (i + 1) k H3 wv2 (by omega) (by omega) (by omega) ⟨g5, hb3, g7 _ _ hM.ne (fun cs hh => by cases hh) hM.hr, Rw.nil, New.nil _, by rw [List.range_succ, List.map_append]; exact g3, g4, hM.ne, hM.lp, hM.lr, hM.zl⟩ ..
theorem bPl (a b c d e f g h : Int) : bld Try.prog 27 [(0, .int .i64 a), (2, .int .i64 b), (3, .int .i64 c), (4, .int .i64 d), (5, .int .i64 e), (6, .int .i64 f), (7, .int .i64 g), (9, .int .u16 h)] = some (.agg #[.int .i64 a, .slice none 0 0, .int .i64 b, .int .i64 c, .int .i64 d, .int .i64 e, .int .i64 f, .int .i64 g, .slice none 0 0, .int .u16 h, .slice none 0 0]) := by kernel_rfl
theorem make_is (nodes room more joined : Nat) (h1 : nodes < 256) (h2 : room < 256) (h3 : more < 256) (h4 : joined < 65536) {a4 : Value} {next : List Nat} (hnx : Us H a4 next) (hu8 : ∀ x ∈ next, x < 256) (hnl : next.length ≤ 72057594037927936) (hm : 60 < m) :
    ∃ H2 u, lvl Try.prog pk12 m (.func 15) [.int .u8 nodes, .int .u8 room, .int .u8 more, .int .u16 joined, a4] H = some (u, H2) ∧ Made H (mkP nodes room more joined next) H2 u := by
  obtain ⟨p, hp⟩ : ∃ p, p = mkP nodes room more joined next := ⟨_, rfl⟩
  rw [← hp]
  obtain ⟨zs, hzs⟩ : ∃ zs, zs = [Value.int .i64 0, .slice none 0 0, .int .i64 0, .int .i64 0, .int .i64 0, .int .i64 0, .int .i64 0, .int .i64 0, .slice none 0 0, .int .u16 0, .slice none 0 0] := ⟨_, rfl⟩
  obtain ⟨H1, hH1⟩ : ∃ H1, H1 = H ++ [Blk.cells zs 27 .fix] := ⟨_, rfl⟩
  have x1 : Ext H H1 := by rw [hH1]; exact Fr.app _ _ _
  have n1 := remU nodes 5 5 rfl (by omega)
  have n2 := fun H => cvU H (nodes % 5) (by omega)
  have n3 : IntKind.i64.wrap (2 + ((nodes % 5 : Nat) : Int)) = p.nodes := by rw [wrap_i64 (by omega) (by omega), hp]; simp [mkP, mkN]
  have n4 := remU more 3 3 rfl (by omega)
  have n5 := fun H => cvU H (more % 3) (by omega)
  have n6 : IntKind.i64.wrap (1 + ((more % 3 : Nat) : Int)) = p.lanes := by rw [wrap_i64 (by omega) (by omega), hp]; simp [mkP]
  have r1 := remU room 8 8 rfl (by omega)
  have r2 := fun H => cvU H (room % 8) (by omega)
  have r3 : IntKind.i64.wrap (1 + ((room % 8 : Nat) : Int)) = p.room := by rw [wrap_i64 (by omega) (by omega), hp]; simp [mkP]
  have r4 := quoU room 8 8 rfl (by omega) h2
  have r5 := remU (room / 8) 8 8 rfl (by omega)
  have r6 := fun H => cvU H (room / 8 % 8) (by omega)
  have r7 : IntKind.i64.wrap (1 + ((room / 8 % 8 : Nat) : Int)) = p.queue := by rw [wrap_i64 (by omega) (by omega), hp]; simp [mkP]
  have m1 := quoU more 3 3 rfl (by omega) h3
  have m2 := remU (more / 3) 4 4 rfl (by omega)
  have m3 := fun H => cvU H (more / 3 % 4) (by omega)
  have m4 : IntKind.i64.wrap (1 + ((more / 3 % 4 : Nat) : Int)) = p.rounds := by rw [wrap_i64 (by omega) (by omega), hp]; simp [mkP]
  have m5 := quoU more 12 12 rfl (by omega) h3
  have m6 := remU (more / 12) 8 8 rfl (by omega)
  have m7 := fun H => cvU H (more / 12 % 8) (by omega)
  have m8 : IntKind.i64.wrap (1 + ((more / 12 % 8 : Nat) : Int)) = p.every := by rw [wrap_i64 (by omega) (by omega), hp]; simp [mkP]
  have b64 : p.bag = 64 := by rw [hp]; rfl
  have bst : p.start = joined := by rw [hp]; rfl
  obtain ⟨H2, hH2⟩ : ∃ H2, H2 = H1 ++ [plB p (.slice none 0 0) (.slice none 0 0) (.slice none 0 0)] := ⟨_, rfl⟩
  have x2 : Ext H1 H2 := by rw [hH2]; exact Fr.app _ _ _
  have st : stN 11 (.pointer (some ⟨H1.length, 0, none⟩)) (.agg #[.int .i64 p.nodes, .slice none 0 0, .int .i64 p.lanes, .int .i64 p.room, .int .i64 p.queue, .int .i64 p.rounds, .int .i64 p.every, .int .i64 64, .slice none 0 0, .int .u16 joined, .slice none 0 0]) (H1 ++ [.cells zs 27 .fix]) = some (undef, H2) := by
    rw [x_stN 11 _ _ _ rfl, at_last, x_stC _ _ _ _ _ _ (by decide) (by rw [hzs]; simp [Value.cells]) rfl, hH2, hzs]
    simp [setCells, Value.cells, plB, plC, b64, bst]
  have hr1 : H1[H.length]? = some (.cells zs 27 .fix) := by rw [hH1]; exact at_last _ _
  have hM : MS H H2 H1.length H.length zs p (.slice none 0 0) (.slice none 0 0) (.slice none 0 0) [] ((List.range 0).map (mkW more)) :=
    ⟨x1.tr x2, by rw [hH2]; exact at_last _ _, ld_of hr1 x2, Rw.nil, New.nil _, Rw.nil, New.nil _, by rw [hH1, List.length_append]; simp, x1.1, Nat.le_refl _, by rw [hzs]; rfl⟩
  refine lvl_ex (pk_no rfl rfl) (by omega) ?_
  rw [f15_eq]
  unfold f15
  simp -implicitDefEqProofs only [r_opt, r_ret, ob_some, ifB_true, iteV_true, iteV_false, r_gdt, r_gdt2, r_gdtf, r_gdtf2, r_gdff, r_gdff2, r_gdft, r_gdft2, r_gdu, r_gdu2, pick_t, pick_f, ext_0, ext_1, x_newB, r_nil, r_fAddr, Nat.zero_add, b_lss, b_leq, b_gtr, b_geq, b_eql, b_neq, u_not, Bool.not_true, Bool.not_false, oneOf_one, oneOf_two, again_normal, again_exit, again_ret, Bool.and_true, ← hzs, ← hH1, n1, n2, b_add, n3, n4, n5, n6, r1, r2, r3, r4, r5, r6, r7, m1, m2, m3, m4, m5, m6, m7, m8, bPl, st]
  exact make_w (m := m - 1) (n := mkN nodes) (p := p) (pb := H1.length) (rb := H.length) (zs := zs) (by unfold mkN; omega) hnx hu8 hnl (by rw [hp]; rfl) (by omega) h3 h4 (by rw [hp]; rfl) (by rw [hp]; rfl) (by rw [hp]; rfl) (by rw [hp]; rfl) (by unfold mkN; omega) (1 + more % 3) 0 (m - 1) H2 (.slice none 0 0) (by omega) (by omega) (by omega) hM ..
end
end Go.Proofs.Ytdobnaldfmpimaa

set_option linter.unusedSectionVars false
set_option linter.unusedSimpArgs false
set_option linter.unusedVariables false
set_option maxRecDepth 100000
namespace Go.Proofs.Ytdobnaldfmpimaa
open Go.Abs
def okE (n : Int) (e : Ed) : Prop := 0 ≤ e.1 ∧ e.1 < e.2 ∧ e.2 < n
structure VE (n : Int) (E : List Ed) : Prop where
  ok : ∀ e ∈ E, okE n e
  nd : E.Nodup
theorem edOk_iff (n : Int) : ∀ (E old : List Ed), edOk n old E = true ↔ ((∀ e ∈ E, okE n e) ∧ E.Nodup ∧ ∀ e ∈ E, e ∉ old)
  | [], old => by simp [edOk]
  | e :: E, old => by
    have ih := edOk_iff n E (old ++ [e])
    have hany : (old.any fun x => x == e) = true ↔ e ∈ old := by
      rw [List.any_eq_true]
      constructor
      · rintro ⟨x, h1, h2⟩
        have : x = e := by simpa using h2
        exact this ▸ h1
      · intro h
        exact ⟨e, h, by simp⟩
    unfold edOk
    rw [Bool.and_eq_true, ih, Bool.not_eq_true', Bool.or_eq_false_iff, Bool.or_eq_false_iff, Bool.or_eq_false_iff]
    simp only [decide_eq_false_iff_not, List.nodup_cons, List.mem_cons, List.mem_append, List.not_mem_nil, or_false]
    have hany' : (old.any fun x => x == e) = false ↔ e ∉ old := by rw [← Bool.not_eq_true, hany]
    rw [hany']
    constructor
    · rintro ⟨⟨h1, h2, h3, h4⟩, h5, h6, h7⟩
      refine ⟨?_, ⟨fun hh => (h7 e hh) (.inr rfl), h6⟩, ?_⟩
      · rintro x (rfl | hx)
        · exact ⟨by omega, by omega, by omega⟩
        · exact h5 x hx
      · rintro x (rfl | hx)
        · exact h4
        · exact fun hh => h7 x hx (.inl hh)
    · rintro ⟨h1, ⟨h2, h3⟩, h4⟩
      obtain ⟨a1, a2, a3⟩ := h1 e (.inl rfl)
      refine ⟨⟨by omega, by omega, by omega, h4 e (.inl rfl)⟩, fun x hx => h1 x (.inr hx), h3, fun x hx => ?_⟩
      rintro (hh | rfl)
      · exact h4 x (.inr hx) hh
      · exact h2 hx
theorem edOk_ve (n : Int) (E : List Ed) : edOk n [] E = true ↔ VE n E := by
  rw [edOk_iff]
  exact ⟨fun h => ⟨h.1, h.2.1⟩, fun h => ⟨h.ok, h.nd, fun _ _ => List.not_mem_nil⟩⟩
theorem prs_15 {n : Nat} (h : n ≤ 6) : (prs n).length ≤ 15 := by
  have : n = 0 ∨ n = 1 ∨ n = 2 ∨ n = 3 ∨ n = 4 ∨ n = 5 ∨ n = 6 := by omega
  rcases this with rfl | rfl | rfl | rfl | rfl | rfl | rfl <;> decide
theorem candE_mem {v w : Int} {e : Ed} : w ∈ candE v e ↔ v ≠ w ∧ (e = (v, w) ∨ e = (w, v)) := by
  obtain ⟨a, b⟩ := e
  unfold candE
  simp only [Prod.mk.injEq]
  by_cases h1 : a = b
  · rw [if_pos h1]
    constructor
    · intro h; cases h
    · rintro ⟨h, ⟨h2, h3⟩ | ⟨h2, h3⟩⟩
      · exact absurd (h2.symm.trans (h1.trans h3)) h
      · exact absurd (h3.symm.trans (h1.symm.trans h2)) h
  · rw [if_neg h1]
    by_cases h2 : a = v
    · rw [if_pos h2, List.mem_singleton]
      constructor
      · rintro rfl
        exact ⟨fun hh => h1 (h2.trans hh), .inl ⟨h2, rfl⟩⟩
      · rintro ⟨h, ⟨_, h3⟩ | ⟨h3, h4⟩⟩
        · exact h3.symm
        · exact absurd (h2.symm.trans h3) h
    · rw [if_neg h2]
      by_cases h3 : b = v
      · rw [if_pos h3, List.mem_singleton]
        constructor
        · rintro rfl
          exact ⟨fun hh => h2 hh.symm, .inr ⟨rfl, h3⟩⟩
        · rintro ⟨h, ⟨h4, _⟩ | ⟨h4, _⟩⟩
          · exact absurd h4 h2
          · exact h4.symm
      · rw [if_neg h3]
        constructor
        · intro h; cases h
        · rintro ⟨h, ⟨h4, _⟩ | ⟨_, h4⟩⟩
          · exact absurd h4 h2
          · exact absurd h4 h3
theorem cand_mem {E : List Ed} {v w : Int} : w ∈ cand E v ↔ v ≠ w ∧ ((v, w) ∈ E ∨ (w, v) ∈ E) := by
  unfold cand
  rw [List.mem_flatMap]
  constructor
  · rintro ⟨e, h1, h2⟩
    obtain ⟨h3, h4⟩ := candE_mem.mp h2
    rcases h4 with rfl | rfl
    · exact ⟨h3, .inl h1⟩
    · exact ⟨h3, .inr h1⟩
  · rintro ⟨h3, h4 | h4⟩
    · exact ⟨_, h4, candE_mem.mpr ⟨h3, .inl rfl⟩⟩
    · exact ⟨_, h4, candE_mem.mpr ⟨h3, .inr rfl⟩⟩
theorem beside_mem {E : List Ed} {v w : Int} : w ∈ bes E v ↔ v ≠ w ∧ ((v, w) ∈ E ∨ (w, v) ∈ E) := by rw [bes_mem, cand_mem]
theorem beside_in {n : Int} {E : List Ed} (hE : VE n E) {v w : Int} (h : w ∈ bes E v) : 0 ≤ w ∧ w < n ∧ 0 ≤ v ∧ v < n := by
  obtain ⟨_, h | h⟩ := beside_mem.mp h
  · have := hE.ok _ h
    simp only [okE] at this
    omega
  · have := hE.ok _ h
    simp only [okE] at this
    omega
def under (x : Int) (n : Nat) : Nat := if x < n then 1 else 0
theorem mkN_is (nodes : Nat) : 2 ≤ mkN nodes ∧ mkN nodes ≤ 6 := by unfold mkN; omega
theorem mk_e15 (nodes room more joined : Nat) (next : List Nat) : (mkP nodes room more joined next).edges.length ≤ 15 :=
  Nat.le_trans (selE_len _ _) (prs_15 (mkN_is nodes).2)
theorem Made.pv {H0 H2 : Heap} {nodes room more joined : Nat} {next : List Nat} {u : Value} (h : Made H0 (mkP nodes room more joined next) H2 u) : ∃ ev wv nv, u = plV (mkP nodes room more joined next) ev wv nv ∧ Ext H0 H2 ∧ PV H2 (mkP nodes room more joined next) ev wv nv := by
  obtain ⟨ev, wv, nv, h1, h2, h3, h4, h5⟩ := h
  have := mk_e15 nodes room more joined next
  have hn := mkN_is nodes
  exact ⟨ev, wv, nv, h1, h2, h3.rs, h4.rs, h5.rw.rows, by omega, by simp [mkP]; omega, by simp [mkP]; omega⟩
theorem Made.pa {H0 H2 : Heap} {nodes room more joined : Nat} {next : List Nat} {u : Value} (h : Made H0 (mkP nodes room more joined next) H2 u) : ∃ ev wv nv, u = plV (mkP nodes room more joined next) ev wv nv ∧ Ext H0 H2 ∧ PV H2 (mkP nodes room more joined next) ev wv nv ∧ Ew H2 ev (mkP nodes room more joined next).edges ∧ Iw H2 wv (mkP nodes room more joined next).weights ∧ RowsA H0 H2 nv (mkP nodes room more joined next).next wv := by
  obtain ⟨ev, wv, nv, h1, h2, h3, h4, h5⟩ := h
  have := mk_e15 nodes room more joined next
  have hn := mkN_is nodes
  exact ⟨ev, wv, nv, h1, h2, ⟨h3.rs, h4.rs, h5.rw.rows, by omega, by simp [mkP]; omega, by simp [mkP]; omega⟩, h3, h4, h5⟩
end Go.Proofs.Ytdobnaldfmpimaa

set_option linter.unusedSectionVars false
set_option linter.unusedSimpArgs false
set_option linter.unusedVariables false
set_option maxRecDepth 100000
namespace Go.Proofs.Ytdobnaldfmpimaa
open Go.Abs
def plZ : Blk := .cells [Value.int .i64 0, .slice none 0 0, .int .i64 0, .int .i64 0, .int .i64 0, .int .i64 0, .int .i64 0, .int .i64 0, .slice none 0 0, .int .u16 0, .slice none 0 0] 27 .fix
theorem plZ_is : Blk.cells [Value.int .i64 0, .slice none 0 0, .int .i64 0, .int .i64 0, .int .i64 0, .int .i64 0, .int .i64 0, .int .i64 0, .slice none 0 0, .int .u16 0, .slice none 0 0] 27 .fix = plZ := rfl
section
variable {H : Heap} {m : Nat} {p : PlanD} {ev wv nv : Value}
theorem Rs.shape {α : Type} {el : α → List Value} {e : TypeId} {v : Value} {xs : List α} (h : Rs el e H v xs) : v.cells.toList = [v] ∧ allCells [v] = true ∧ veq 3 v v = true := by
  rcases h with ⟨rfl, _⟩ | ⟨b, o, cap, rfl, _⟩
  · exact ⟨rfl, rfl, rfl⟩
  · exact ⟨rfl, rfl, by simp [veq]⟩
theorem Rows.shape {v : Value} {xss : List (List Int)} (h : Rows H v xss) : v.cells.toList = [v] ∧ allCells [v] = true ∧ veq 3 v v = true := by
  obtain ⟨us, h1, _⟩ := h
  exact Rs.shape h1
theorem PV.all (h : PV H p ev wv nv) : allCells (plC p ev wv nv) = true := by
  have e1 : ∀ (v : Value) (vs : List Value), allCells [v] = true → allCells (v :: vs) = allCells vs := fun v vs h => by
    simp only [allCells, List.all_cons, List.all_nil, Bool.and_true] at h ⊢
    rw [h, Bool.true_and]
  simp only [plC, all_int, e1 _ _ (Rs.shape h.e).2.1, e1 _ _ (Rs.shape h.w).2.1, e1 _ _ (Rows.shape h.n).2.1, all_nil]
theorem PV.chk (h : PV H p ev wv nv) (H' : Heap) : Go.Abs.chk (some (plV p ev wv nv, H')) (plV p ev wv nv) = true := by
  have h1 := (Rs.shape h.e).2.2
  have h2 := (Rs.shape h.w).2.2
  have h3 := (Rows.shape h.n).2.2
  have hi : ∀ (k : IntKind) (a : Int), veq 3 (.int k a) (.int k a) = true := fun k a => by simp [veq]
  show veq 4 (plV p ev wv nv) (plV p ev wv nv) = true
  unfold plV plC
  rw [veq]
  simp only [veqL, hi, h1, h2, h3, Bool.and_self]
theorem pl_copy (h : PV H p ev wv nv) (H' : Heap) : stN 11 (.pointer (some ⟨H'.length, 0, none⟩)) (plV p ev wv nv) (H' ++ [plZ]) = some (undef, H' ++ [plB p ev wv nv]) := by
  have e1 : (plV p ev wv nv).cells.toList = plC p ev wv nv := rfl
  rw [x_stN 11 _ _ _ rfl, at_last, e1]
  unfold plZ
  rw [x_stC _ _ _ _ _ _ (by decide) (by simp [plC]) h.all]
  simp [setCells, plC, plB]
theorem set_ext {H0 H1 : Heap} {b : Nat} {x : Blk} (he : Ext H0 H1) (hb : H0.length ≤ b) : Ext H0 (H1.set b x) := ⟨by rw [List.length_set]; exact he.1, fun c hc _ => by rw [List.getElem?_set_ne (by omega), he.2 c hc id]⟩
end
end Go.Proofs.Ytdobnaldfmpimaa

set_option linter.unusedSectionVars false
set_option linter.unusedSimpArgs false
set_option linter.unusedVariables false
set_option maxRecDepth 100000
namespace Go.Proofs.Ytdobnaldfmpimaa
open Go.Abs
section
variable {H : Heap} {m : Nat} {p : PlanD} {ev wv nv : Value}
theorem us_nil (H : Heap) : Us H (.slice none 0 0) [] := .inl ⟨rfl, rfl⟩
end
end Go.Proofs.Ytdobnaldfmpimaa

set_option linter.unusedSectionVars false
set_option linter.unusedSimpArgs false
set_option linter.unusedVariables false
set_option maxRecDepth 100000
namespace Go.Proofs.Ytdobnaldfmpimaa
open Go.Abs
section
variable {H : Heap} {m : Nat} {p : PlanD} {ev wv nv : Value}
theorem hopAt_mem {n : Nat} {E : List Ed} (hE : VE n E) (hn : n ≤ 6) {v : Nat} {x : Ed} : x ∈ hopAt E v ↔ x.1 = v ∧ x.2 ∈ bes E v := by
  unfold hopAt
  simp only [List.mem_map, List.mem_filter]
  constructor
  · rintro ⟨w, ⟨h1, _⟩, rfl⟩
    exact ⟨rfl, h1⟩
  · rintro ⟨h1, h2⟩
    obtain ⟨a, b⟩ := x
    simp only at h1 h2
    refine ⟨b, ⟨h2, ?_⟩, by rw [h1]⟩
    have := beside_in hE h2
    unfold wi
    simp
    omega
theorem hops_mem {n : Nat} {E : List Ed} (hE : VE n E) (hn : n ≤ 6) {x : Ed} : x ∈ (List.range n).flatMap (hopAt E) ↔ x.2 ∈ bes E x.1 := by
  rw [List.mem_flatMap]
  constructor
  · rintro ⟨v, _, h2⟩
    obtain ⟨h3, h4⟩ := (hopAt_mem hE hn).mp h2
    rw [h3]; exact h4
  · intro h
    have := beside_in hE h
    have e : ((x.1.toNat : Nat) : Int) = x.1 := by omega
    refine ⟨x.1.toNat, List.mem_range.mpr (by omega), (hopAt_mem hE hn).mpr ⟨e.symm, ?_⟩⟩
    rw [e]; exact h
theorem hops_pw {n : Nat} {E : List Ed} (hE : VE n E) (hn : n ≤ 6) : ((List.range n).flatMap (hopAt E)).Pairwise (fun a b => a.1 < b.1 ∨ (a.1 = b.1 ∧ a.2 < b.2)) := by
  rw [List.pairwise_flatMap]
  constructor
  · intro v _
    unfold hopAt
    rw [List.pairwise_map]
    exact (List.Pairwise.filter _ (bes_pw E v)).imp fun h => .inr ⟨rfl, h⟩
  · refine List.pairwise_lt_range.imp fun {a b} hab x hx y hy => ?_
    have h1 := ((hopAt_mem hE hn).mp hx).1
    have h2 := ((hopAt_mem hE hn).mp hy).1
    left; omega
end
end Go.Proofs.Ytdobnaldfmpimaa

set_option linter.unusedSectionVars false
set_option linter.unusedSimpArgs false
set_option linter.unusedVariables false
set_option maxRecDepth 100000
namespace Go.Proofs.Ytdobnaldfmpimaa
open Go.Abs
section
variable {H : Heap} {m : Nat} {p : PlanD} {ev wv nv : Value}
theorem PV.edges {q : PlanD} {E : List Ed} {xv : Value} (h : PV H q ev wv nv) (hx : Es H xv E) (hl : E.length ≤ 1000) : PV H { q with edges := E } xv wv nv := ⟨hx, h.w, h.n, by simp only; omega, h.bw, h.bn⟩
end
end Go.Proofs.Ytdobnaldfmpimaa

set_option linter.unusedSectionVars false
set_option linter.unusedSimpArgs false
set_option linter.unusedVariables false
set_option maxRecDepth 100000
namespace Go.Proofs.Ytdobnaldfmpimaa
open Go.Abs
section
variable {H : Heap} {m : Nat} {p : PlanD} {ev wv nv : Value}
theorem szIs : Try.prog.cellsOf 24 = 1 := by kernel_rfl
theorem Rows.sub {v : Value} {xss : List (List Int)} (h : Rows H v xss) (hne : xss ≠ []) {r : Nat} {hi : Option Value} (h2 : bnd xss.length hi = some r) (hr : r ≤ xss.length) : ∃ v', slc Try.prog 1 v none hi none H = some (v', H) ∧ Rows H v' (xss.take r) := by
  obtain ⟨us, h1, h3, h4⟩ := h
  have hne' : us ≠ [] := fun hh => hne (by rw [hh] at h3; exact List.length_eq_zero_iff.mp h3.symm)
  obtain ⟨v', t1, t2, _⟩ := h1.sub (P := Try.prog) vC_len szIs hne' (lo := none) (hi := hi) rfl (by rw [h3]; exact h2) (Nat.zero_le _) (by rw [h3]; exact hr)
  rw [List.drop_zero] at t2
  refine ⟨v', t1, us.take r, t2, by simp [h3], fun i u xs hu hx => h4 i u xs ?_ ?_⟩
  · rw [List.getElem?_take] at hu
    split at hu
    · exact hu
    · cases hu
  · rw [List.getElem?_take] at hx
    split at hx
    · exact hx
    · cases hx
theorem Rs.sv {α : Type} {el : α → List Value} {e : TypeId} {v : Value} {xs : List α} (h : Rs el e H v xs) : allCells [v] = true ∧ v.cells = #[v] := by
  rcases h with ⟨rfl, _⟩ | ⟨b, o, cap, rfl, _⟩ <;> exact ⟨rfl, rfl⟩
theorem PV.next {q : PlanD} {N : List (List Int)} {xv : Value} (h : PV H q ev wv nv) (hx : Rows H xv N) (hl : N.length ≤ 1000) : PV H { q with next := N } ev wv xv := ⟨h.e, h.w, hx, h.be, h.bw, by simp only; omega⟩
theorem ld1_ext {H0 H1 : Heap} {a u : Value} (he : Ext H0 H1) (h : ld1 a H0 = some (u, H0)) : ld1 a H1 = some (u, H1) := by
  unfold ld1 at *
  cases a with
  | pointer x =>
    cases x with
    | none => simp at h
    | some ad =>
      obtain ⟨b, o, s⟩ := ad
      cases s with
      | some s => simp at h
      | none =>
        simp only at h ⊢
        cases hb : H0[b]? with
        | none => rw [hb] at h; simp at h
        | some y =>
          rw [ld_of hb he]
          rw [hb] at h
          cases y with
          | cells cs e k =>
            simp only at h ⊢
            cases hc : cs[o]? with
            | none => rw [hc] at h; simp at h
            | some z =>
              rw [hc] at h
              simp at h
              subst h
              rfl
          | map => simp at h
          | dead => simp at h
  | _ => simp at h
end
end Go.Proofs.Ytdobnaldfmpimaa
