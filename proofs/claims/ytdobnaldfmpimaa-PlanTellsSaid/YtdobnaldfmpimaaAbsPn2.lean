/-
  PLAN: Check.
-/
import Derived.Test.YtdobnaldfmpimaaAbsPn1
set_option linter.unusedSectionVars false
set_option linter.unusedSimpArgs false
set_option linter.unusedVariables false
set_option maxRecDepth 100000
namespace Go.Proofs.Ytdobnaldfmpimaa
open Go.Abs

def wBad (n : Int) : Bool := decide (n < 1) || decide (5 < n)
def wOk (ws : List Int) : Bool := !(decide ((ws.length : Int) = 0) || (decide ((3 : Int) < ws.length) || ws.any wBad))
def rowsOk (p : PlanD) : Bool := !(p.next.any fun r => decide ((r.length : Int) ≠ p.nodes))
def checkOk (p : PlanD) : Bool := numOk p && (edgesOk p && (decide ((p.weights.length : Int) = p.lanes) && (wOk p.weights && (decide ((p.next.length : Int) = p.nodes) && rowsOk p))))
def errno (b : Bool) : Int := if b = true then 0 else 120

section
variable {H : Heap} {m : Nat} {p : PlanD} {ev wv nv : Value}

theorem wOdd_is (hm : 0 < m) (n : Int) (H : Heap) : lvl Try.prog pk12 m (.func 56) [.int .i64 n] H = some (.bool (wBad n), H) := by
  refine lvl_at (pk_no rfl rfl) hm ?_
  rw [f56_eq]
  unfold f56 wBad
  by_cases h : n < 1
  · simp -implicitDefEqProofs only [r_opt, r_ret, ob_some, ifB_true, iteV_true, iteV_false, r_gdt, r_gdt2, r_gdtf, r_gdtf2, r_gdff, r_gdff2, r_gdft, r_gdft2, r_gdu, r_gdu2, pick_t, pick_f, ext_0, ext_1, x_newB, r_nil, r_fAddr, Nat.zero_add, b_lss, b_leq, b_gtr, b_geq, b_eql, b_neq, u_not, Bool.not_true, Bool.not_false, oneOf_one, oneOf_two, again_normal, again_exit, again_ret, Bool.and_true, h, decide_true, Bool.true_or]
  · simp -implicitDefEqProofs only [r_opt, r_ret, ob_some, ifB_true, iteV_true, iteV_false, r_gdt, r_gdt2, r_gdtf, r_gdtf2, r_gdff, r_gdff2, r_gdft, r_gdft2, r_gdu, r_gdu2, pick_t, pick_f, ext_0, ext_1, x_newB, r_nil, r_fAddr, Nat.zero_add, b_lss, b_leq, b_gtr, b_geq, b_eql, b_neq, u_not, Bool.not_true, Bool.not_false, oneOf_one, oneOf_two, again_normal, again_exit, again_ret, Bool.and_true, h, decide_false, Bool.false_or]

theorem slNe (b o n c : Nat) : bin Try.prog .eql 24 (.slice (some ⟨b, o, none⟩) n c) (.slice none 0 0) = some (.bool false) := by
  have h1 : Try.prog.underlying 24 = some (.slice 3) := by kernel_rfl
  simp [bin, flat, eqAny, nilKind, eqV, h1]

theorem clone_is {v : Value} {xs : List Int} (hx : Is H v xs) (hne : xs ≠ []) (hl : xs.length ≤ 1000) (hm : 0 < m) : ∃ H' u, lvl Try.prog pk12 m (.func 58) [v] H = some (u, H') ∧ Ext H H' ∧ Iw H' u xs ∧ New H u := by
  have hv : ∃ b o c, v = .slice (some ⟨b, o, none⟩) xs.length c := by
    rcases hx with ⟨_, h⟩ | ⟨b, o, cap, h, _⟩
    · exact absurd h hne
    · exact ⟨b, o, cap, h⟩
  have b0 : bldSlice 3 1 0 [.int .i64 0] [] H = some (.slice (some ⟨H.length, 0, none⟩) 0 0, H ++ [.cells [] 3 .row]) := rfl
  have h0 : Iw (H ++ [.cells [] 3 .row]) (.slice (some ⟨H.length, 0, none⟩) 0 0) [] := ⟨rfl, .inr ⟨H.length, 0, [], rfl, Nat.le_refl _, rfl, by simp⟩⟩
  obtain ⟨u, H', g1, g2, g3, g4⟩ := h0.more inC_len inC_all (by decide) (by' := 8) (H0 := H) (hx.ext (Fr.app _ _ _)) (fun b ⟨_, _, _, h⟩ => by cases h; exact Nat.le_refl _) (Fr.app _ _ _) (roomy_mono (n := 1000) (by decide) (by simp; omega))
  refine lvl_ex (pk_no rfl rfl) (by omega) ⟨H', u, ?_, g4, g2, g3⟩
  obtain ⟨b, o, c, rfl⟩ := hv
  rw [f58_eq]
  unfold f58
  simp -implicitDefEqProofs only [r_opt, r_ret, ob_some, ifB_true, iteV_true, iteV_false, r_gdt, r_gdt2, r_gdtf, r_gdtf2, r_gdff, r_gdff2, r_gdft, r_gdft2, r_gdu, r_gdu2, pick_t, pick_f, ext_0, ext_1, x_newB, r_nil, r_fAddr, Nat.zero_add, b_lss, b_leq, b_gtr, b_geq, b_eql, b_neq, u_not, Bool.not_true, Bool.not_false, oneOf_one, oneOf_two, again_normal, again_exit, again_ret, Bool.and_true, slNe, b0, g1]

theorem ePW (a : Addr) : bin Try.prog .eql 60 (.pointer (some a)) (.pointer none) = some (.bool false) := x_eqNil 60 79 (by kernel_rfl) a
theorem ePW0 : bin Try.prog .eql 60 (.pointer none) (.pointer none) = some (.bool true) := x_eqNil0 60 79 (by kernel_rfl)

theorem wNew_is {v : Value} {ws : List Int} (hw : Is H v ws) (hl : ws.length ≤ 17592186044500) (hm : ws.length + 100 < m) (hm2 : m ≤ 72057594037927936) : ∃ H' u, lvl Try.prog pk12 m (.func 35) [v] H = some (u, H') ∧ Ext H H' ∧ bin Try.prog .eql 60 u (.pointer none) = some (.bool (!wOk ws)) := by
  have hlen := hw.len
  have hcf : lvl Try.prog pk12 (m - 1) (.func 57) [v, .func (.func 56) #[] #[]] H = some (.bool (ws.any wBad), H) := by
    have := cfI_is (H := H) (m := m - 1) (v := v) (fv := .func (.func 56) #[] #[]) (n := ws.length) (fun i => (ws[i]?.map wBad).getD false) hlen (by omega) (by omega) (fun i hi => by
      have hx : ws[i]? = some ws[i] := List.getElem?_eq_getElem hi
      obtain ⟨b, o, g1, g2, g3⟩ := hw.at_ inC_len hx .i64
      have l1 := (g3 H rfl).2.1 0 _ rfl
      refine ⟨_, _, g1, l1, ?_⟩
      have := wOdd_is (m := m - 1 - 1 - 1) (by omega) ws[i] H
      rw [hx]
      exact this)
    rw [this, any_range ws wBad _ fun i x h => by rw [h]; rfl]
  by_cases c1 : (ws.length : Int) = 0
  · have e1 : ((ws.length : Int) == 0) = true := by simpa using c1
    have hno : wOk ws = false := by unfold wOk; simp only [c1, decide_true, Bool.true_or, Bool.not_true]
    refine lvl_ex (pk_no rfl rfl) (by omega) ⟨H, .pointer none, ?_, Fr.refl _ _, by rw [hno]; exact ePW0⟩
    rw [f35_eq]
    unfold f35
    simp -implicitDefEqProofs only [r_opt, r_ret, ob_some, ifB_true, iteV_true, iteV_false, r_gdt, r_gdt2, r_gdtf, r_gdtf2, r_gdff, r_gdff2, r_gdft, r_gdft2, r_gdu, r_gdu2, pick_t, pick_f, ext_0, ext_1, x_newB, r_nil, r_fAddr, Nat.zero_add, b_lss, b_leq, b_gtr, b_geq, b_eql, b_neq, u_not, Bool.not_true, Bool.not_false, oneOf_one, oneOf_two, again_normal, again_exit, again_ret, Bool.and_true, hlen, e1]
  · have e1 : ((ws.length : Int) == 0) = false := by simpa using c1
    by_cases c2 : (3 : Int) < ws.length
    · have hno : wOk ws = false := by unfold wOk; simp only [c2, decide_true, Bool.true_or, Bool.or_true, Bool.not_true]
      refine lvl_ex (pk_no rfl rfl) (by omega) ⟨H, .pointer none, ?_, Fr.refl _ _, by rw [hno]; exact ePW0⟩
      rw [f35_eq]
      unfold f35
      simp -implicitDefEqProofs only [r_opt, r_ret, ob_some, ifB_true, iteV_true, iteV_false, r_gdt, r_gdt2, r_gdtf, r_gdtf2, r_gdff, r_gdff2, r_gdft, r_gdft2, r_gdu, r_gdu2, pick_t, pick_f, ext_0, ext_1, x_newB, r_nil, r_fAddr, Nat.zero_add, b_lss, b_leq, b_gtr, b_geq, b_eql, b_neq, u_not, Bool.not_true, Bool.not_false, oneOf_one, oneOf_two, again_normal, again_exit, again_ret, Bool.and_true, hlen, e1, c2, decide_true]
    · cases c3 : ws.any wBad with
      | true =>
        have hno : wOk ws = false := by unfold wOk; simp only [c3, Bool.or_true, Bool.not_true]
        rw [c3] at hcf
        refine lvl_ex (pk_no rfl rfl) (by omega) ⟨H, .pointer none, ?_, Fr.refl _ _, by rw [hno]; exact ePW0⟩
        rw [f35_eq]
        unfold f35
        simp -implicitDefEqProofs only [r_opt, r_ret, ob_some, ifB_true, iteV_true, iteV_false, r_gdt, r_gdt2, r_gdtf, r_gdtf2, r_gdff, r_gdff2, r_gdft, r_gdft2, r_gdu, r_gdu2, pick_t, pick_f, ext_0, ext_1, x_newB, r_nil, r_fAddr, Nat.zero_add, b_lss, b_leq, b_gtr, b_geq, b_eql, b_neq, u_not, Bool.not_true, Bool.not_false, oneOf_one, oneOf_two, again_normal, again_exit, again_ret, Bool.and_true, hlen, e1, c2, decide_false, hcf]
      | false =>
        have hyes : wOk ws = true := by unfold wOk; simp only [c1, c2, c3, decide_false, Bool.or_false, Bool.not_false]
        rw [c3] at hcf
        obtain ⟨H1, u1, g1, g2, g3, g4⟩ := clone_is (m := m - 1) hw (fun h => c1 (by rw [h]; rfl)) (by omega) (by omega)
        obtain ⟨H2, u2, q1, q2, q3, q4⟩ := clone_is (m := m - 1) (hw.ext g2) (fun h => c1 (by rw [h]; rfl)) (by omega) (by omega)
        have hb : bld Try.prog 79 [(0, u1), (1, u2)] = some (.agg #[u1, u2, .int .i64 0]) := by
          rcases g3 with ⟨_, ⟨rfl, _⟩ | ⟨_, _, _, rfl, _⟩⟩ <;> rcases q3 with ⟨_, ⟨rfl, _⟩ | ⟨_, _, _, rfl, _⟩⟩ <;> rfl
        refine lvl_ex (pk_no rfl rfl) (by omega) ⟨H2 ++ [.cells (Value.agg #[u1, u2, .int .i64 0]).cells.toList 79 .fix], .pointer (some ⟨H2.length, 0, none⟩), ?_, (g2.tr q2).tr (Fr.app _ _ _), by rw [hyes]; exact ePW _⟩
        rw [f35_eq]
        unfold f35
        simp -implicitDefEqProofs only [r_opt, r_ret, ob_some, ifB_true, iteV_true, iteV_false, r_gdt, r_gdt2, r_gdtf, r_gdtf2, r_gdff, r_gdff2, r_gdft, r_gdft2, r_gdu, r_gdu2, pick_t, pick_f, ext_0, ext_1, x_newB, r_nil, r_fAddr, Nat.zero_add, b_lss, b_leq, b_gtr, b_geq, b_eql, b_neq, u_not, Bool.not_true, Bool.not_false, oneOf_one, oneOf_two, again_normal, again_exit, again_ret, Bool.and_true, hlen, e1, c2, decide_false, hcf, g1, q1, hb]

theorem check_is (hp : PV H p ev wv nv) (hm : 17592186045000 < m) (hm2 : m ≤ 72057594037927936) : ∃ H', lvl Try.prog pk12 m (.func 17) [plV p ev wv nv] H = some (.int .u16 (errno (checkOk p)), H') ∧ Ext H H' := by
  have h1 := hp.be
  have h2 := hp.bw
  have h3 := hp.bn
  obtain ⟨H0, hH0⟩ : ∃ H0, H0 = H ++ [plB p ev wv nv] := ⟨_, rfl⟩
  have x0 : Ext H H0 := by rw [hH0]; exact Fr.app _ _ _
  have b0 : H0[H.length]? = some (plB p ev wv nv) := by rw [hH0]; exact at_last _ _
  have l11 := ld_pl11 b0
  have g1 := numbers_is (H := H0) (m := m - 1) (by omega) p ev wv nv
  obtain ⟨H1, hH1⟩ : ∃ H1, H1 = H0 ++ [plB p ev wv nv] := ⟨_, rfl⟩
  have x1 : Ext H0 H1 := by rw [hH1]; exact Fr.app _ _ _
  rw [← hH1] at g1
  have b1 := ld_of b0 x1
  have l11' := ld_pl11 b1
  obtain ⟨H2, g2, x2⟩ := edges_is (m := m - 1) (hp.ext (x0.tr x1)) (by omega) (by omega)
  have b2 := ld_of b1 x2
  have w2 := ld_pl b2 8 _ rfl
  have la2 := ld_pl b2 2 _ rfl
  have p2 := hp.ext ((x0.tr x1).tr x2)
  have wl := p2.w.len
  obtain ⟨H3, u3, g3, x3, g4⟩ := wNew_is p2.w (m := m - 1) (by omega) (by omega) (by omega)
  have b3 := ld_of b2 x3
  have n3 := ld_pl b3 10 _ rfl
  have no3 := ld_pl b3 0 _ rfl
  have p3 := p2.ext x3
  have nl := p3.n.len
  have hcf : lvl Try.prog pk12 (m - 1) (.func 36) [nv, .func (.func 32) #[] #[.pointer (some ⟨H.length, 0, none⟩)]] H3 = some (.bool (p.next.any fun r => decide ((r.length : Int) ≠ p.nodes)), H3) := by
    have := cfR_is (H := H3) (m := m - 1) (v := nv) (fv := .func (.func 32) #[] #[.pointer (some ⟨H.length, 0, none⟩)]) (n := p.next.length) (fun i => (p.next[i]?.map fun r => decide ((r.length : Int) ≠ p.nodes)).getD false) nl (by omega) (by omega) (fun i hi => by
      have hx : p.next[i]? = some p.next[i] := List.getElem?_eq_getElem hi
      obtain ⟨a, u, q1, q2, q3⟩ := p3.n.at_ hx .i64
      refine ⟨a, u, q1, q2, ?_⟩
      have hlen := q3.len
      have : lvl Try.prog pk12 (m - 1 - 1 - 1 + 0) (.func 32) [u, .pointer (some ⟨H.length, 0, none⟩)] H3 = some (.bool (decide ((p.next[i].length : Int) ≠ p.nodes)), H3) := by
        refine lvl_at (pk_no rfl rfl) (by omega) ?_
        rw [f32_eq]
        unfold f32
        have e : (((p.next[i].length : Nat) : Int) != p.nodes) = decide ((p.next[i].length : Int) ≠ p.nodes) := by
          rw [Bool.eq_iff_iff]
          simp
        simp -implicitDefEqProofs only [r_opt, r_ret, ob_some, ifB_true, iteV_true, iteV_false, r_gdt, r_gdt2, r_gdtf, r_gdtf2, r_gdff, r_gdff2, r_gdft, r_gdft2, r_gdu, r_gdu2, pick_t, pick_f, ext_0, ext_1, x_newB, r_nil, r_fAddr, Nat.zero_add, b_lss, b_leq, b_gtr, b_geq, b_eql, b_neq, u_not, Bool.not_true, Bool.not_false, oneOf_one, oneOf_two, again_normal, again_exit, again_ret, Bool.and_true, hlen, no3, e]
      rw [hx]
      exact this)
    rw [this, any_range p.next (fun r => decide ((r.length : Int) ≠ p.nodes)) _ fun i x h => by rw [h]; rfl]
  have hn1 : ((p.weights.length : Int) != p.lanes) = !decide ((p.weights.length : Int) = p.lanes) := by rw [Bool.eq_iff_iff]; simp
  have hn2 : ((p.next.length : Int) != p.nodes) = !decide ((p.next.length : Int) = p.nodes) := by rw [Bool.eq_iff_iff]; simp
  have hr : (p.next.any fun r => decide ((r.length : Int) ≠ p.nodes)) = !rowsOk p := by unfold rowsOk; rw [Bool.not_not]
  rw [hr] at hcf
  have hz : errno false = 120 := rfl
  have hz1 : errno true = 0 := rfl
  refine lvl_ex1 (pk_no rfl rfl) (by omega) ?_
  rw [f17_eq]
  unfold f17 checkOk
  cases c1 : numOk p with
  | false => exact ⟨H1, by simp -implicitDefEqProofs only [r_opt, r_ret, ob_some, ifB_true, iteV_true, iteV_false, r_gdt, r_gdt2, r_gdtf, r_gdtf2, r_gdff, r_gdff2, r_gdft, r_gdft2, r_gdu, r_gdu2, pick_t, pick_f, ext_0, ext_1, x_newB, r_nil, r_fAddr, Nat.zero_add, b_lss, b_leq, b_gtr, b_geq, b_eql, b_neq, u_not, Bool.not_true, Bool.not_false, oneOf_one, oneOf_two, again_normal, again_exit, again_ret, Bool.and_true, plV_cells, ← hH0, l11, g1, c1, hz, hz1, Bool.false_and, Bool.true_and], x0.tr x1⟩
  | true =>
      cases c2 : edgesOk p with
      | false => exact ⟨H2, by simp -implicitDefEqProofs only [r_opt, r_ret, ob_some, ifB_true, iteV_true, iteV_false, r_gdt, r_gdt2, r_gdtf, r_gdtf2, r_gdff, r_gdff2, r_gdft, r_gdft2, r_gdu, r_gdu2, pick_t, pick_f, ext_0, ext_1, x_newB, r_nil, r_fAddr, Nat.zero_add, b_lss, b_leq, b_gtr, b_geq, b_eql, b_neq, u_not, Bool.not_true, Bool.not_false, oneOf_one, oneOf_two, again_normal, again_exit, again_ret, Bool.and_true, plV_cells, ← hH0, l11, g1, l11', g2, c1, c2, hz, hz1, Bool.false_and, Bool.true_and], (x0.tr x1).tr x2⟩
      | true =>
          cases c3 : decide ((p.weights.length : Int) = p.lanes) with
          | false => exact ⟨H2, by simp -implicitDefEqProofs only [r_opt, r_ret, ob_some, ifB_true, iteV_true, iteV_false, r_gdt, r_gdt2, r_gdtf, r_gdtf2, r_gdff, r_gdff2, r_gdft, r_gdft2, r_gdu, r_gdu2, pick_t, pick_f, ext_0, ext_1, x_newB, r_nil, r_fAddr, Nat.zero_add, b_lss, b_leq, b_gtr, b_geq, b_eql, b_neq, u_not, Bool.not_true, Bool.not_false, oneOf_one, oneOf_two, again_normal, again_exit, again_ret, Bool.and_true, plV_cells, ← hH0, l11, g1, l11', g2, w2, wl, la2, hn1, c1, c2, c3, hz, hz1, Bool.false_and, Bool.true_and], (x0.tr x1).tr x2⟩
          | true =>
              cases c4 : wOk p.weights with
              | false => exact ⟨H3, by simp -implicitDefEqProofs only [r_opt, r_ret, ob_some, ifB_true, iteV_true, iteV_false, r_gdt, r_gdt2, r_gdtf, r_gdtf2, r_gdff, r_gdff2, r_gdft, r_gdft2, r_gdu, r_gdu2, pick_t, pick_f, ext_0, ext_1, x_newB, r_nil, r_fAddr, Nat.zero_add, b_lss, b_leq, b_gtr, b_geq, b_eql, b_neq, u_not, Bool.not_true, Bool.not_false, oneOf_one, oneOf_two, again_normal, again_exit, again_ret, Bool.and_true, plV_cells, ← hH0, l11, g1, l11', g2, w2, wl, la2, hn1, g3, g4, c1, c2, c3, c4, hz, hz1, Bool.false_and, Bool.true_and], ((x0.tr x1).tr x2).tr x3⟩
              | true =>
                  cases c5 : decide ((p.next.length : Int) = p.nodes) with
                  | false => exact ⟨H3, by simp -implicitDefEqProofs only [r_opt, r_ret, ob_some, ifB_true, iteV_true, iteV_false, r_gdt, r_gdt2, r_gdtf, r_gdtf2, r_gdff, r_gdff2, r_gdft, r_gdft2, r_gdu, r_gdu2, pick_t, pick_f, ext_0, ext_1, x_newB, r_nil, r_fAddr, Nat.zero_add, b_lss, b_leq, b_gtr, b_geq, b_eql, b_neq, u_not, Bool.not_true, Bool.not_false, oneOf_one, oneOf_two, again_normal, again_exit, again_ret, Bool.and_true, plV_cells, ← hH0, l11, g1, l11', g2, w2, wl, la2, hn1, g3, g4, n3, nl, no3, hn2, c1, c2, c3, c4, c5, hz, hz1, Bool.false_and, Bool.true_and], ((x0.tr x1).tr x2).tr x3⟩
                  | true =>
                      cases c6 : rowsOk p with
                      | false => exact ⟨H3, by simp -implicitDefEqProofs only [r_opt, r_ret, ob_some, ifB_true, iteV_true, iteV_false, r_gdt, r_gdt2, r_gdtf, r_gdtf2, r_gdff, r_gdff2, r_gdft, r_gdft2, r_gdu, r_gdu2, pick_t, pick_f, ext_0, ext_1, x_newB, r_nil, r_fAddr, Nat.zero_add, b_lss, b_leq, b_gtr, b_geq, b_eql, b_neq, u_not, Bool.not_true, Bool.not_false, oneOf_one, oneOf_two, again_normal, again_exit, again_ret, Bool.and_true, plV_cells, ← hH0, l11, g1, l11', g2, w2, wl, la2, hn1, g3, g4, n3, nl, no3, hn2, hcf, c1, c2, c3, c4, c5, c6, hz, hz1, Bool.false_and, Bool.true_and], ((x0.tr x1).tr x2).tr x3⟩
                      | true =>
                          exact ⟨H3, by simp -implicitDefEqProofs only [r_opt, r_ret, ob_some, ifB_true, iteV_true, iteV_false, r_gdt, r_gdt2, r_gdtf, r_gdtf2, r_gdff, r_gdff2, r_gdft, r_gdft2, r_gdu, r_gdu2, pick_t, pick_f, ext_0, ext_1, x_newB, r_nil, r_fAddr, Nat.zero_add, b_lss, b_leq, b_gtr, b_geq, b_eql, b_neq, u_not, Bool.not_true, Bool.not_false, oneOf_one, oneOf_two, again_normal, again_exit, again_ret, Bool.and_true, plV_cells, ← hH0, l11, g1, l11', g2, w2, wl, la2, hn1, g3, g4, n3, nl, no3, hn2, hcf, c1, c2, c3, c4, c5, c6, hz, hz1, Bool.false_and, Bool.true_and], ((x0.tr x1).tr x2).tr x3⟩
end

end Go.Proofs.Ytdobnaldfmpimaa
