/-
  PLAN: the reference's Check and Hops.
-/
import Derived.Test.YtdobnaldfmpimaaAbsPn5
set_option linter.unusedSectionVars false
set_option linter.unusedSimpArgs false
set_option linter.unusedVariables false
set_option maxRecDepth 100000
namespace Go.Proofs.Ytdobnaldfmpimaa
open Go.Abs

section
variable {H : Heap} {m : Nat} {p : PlanD} {ev wv nv : Value}

theorem rwi_is (hm : 0 < m) (x lo hi : Int) (H : Heap) : lvl Try.prog pk12 m (.func 60) [.int .i64 x, .int .i64 lo, .int .i64 hi] H = some (.bool (wi x lo hi), H) := by
  refine lvl_at (pk_no rfl rfl) hm ?_
  rw [f60_eq]
  unfold f60 wi
  by_cases h : lo ≤ x
  · simp -implicitDefEqProofs only [r_opt, r_ret, ob_some, ifB_true, iteV_true, iteV_false, r_gdt, r_gdt2, r_gdtf, r_gdtf2, r_gdff, r_gdff2, r_gdft, r_gdft2, r_gdu, r_gdu2, pick_t, pick_f, ext_0, ext_1, x_newB, r_nil, r_fAddr, Nat.zero_add, b_lss, b_leq, b_gtr, b_geq, b_eql, b_neq, u_not, Bool.not_true, Bool.not_false, oneOf_one, oneOf_two, again_normal, again_exit, again_ret, Bool.and_true, h, decide_true, Bool.true_and]
  · simp -implicitDefEqProofs only [r_opt, r_ret, ob_some, ifB_true, iteV_true, iteV_false, r_gdt, r_gdt2, r_gdtf, r_gdtf2, r_gdff, r_gdff2, r_gdft, r_gdft2, r_gdu, r_gdu2, pick_t, pick_f, ext_0, ext_1, x_newB, r_nil, r_fAddr, Nat.zero_add, b_lss, b_leq, b_gtr, b_geq, b_eql, b_neq, u_not, Bool.not_true, Bool.not_false, oneOf_one, oneOf_two, again_normal, again_exit, again_ret, Bool.and_true, h, decide_false, Bool.false_and]

theorem ld_ed2 {H : Heap} {b : Nat} {y : Ed} (h : H[b]? = some (edB y)) : ldN 2 (.pointer (some ⟨b, 0, none⟩)) H = some (edV y, H) := by
  rw [x_ldN, h]
  unfold edB
  rw [x_ldNC _ _ _ _ _ (by simp [edC])]
  rfl

theorem redges_loop1 {H0 : Heap} {a eb i0 kk : Nat} {y : Ed} {R : Bool} (hp : Es H ev p.edges) (hb : H[a]? = some (plB p ev wv nv)) (he0 : H[eb]? = some (edB y)) (hi0 : i0 ≤ p.edges.length) (hn : p.edges.length ≤ 72057594037927936) (hx : Ext H0 H)
    (hK : ∀ (x0 x4 x5 x6 x7 x8 x9 x10 x11 x12 x13 x14 x15 x16 x17 x18 x19 x20 x21 x22 x23 x24 x25 x26 x27 x28 x29 x30 x31 x32 x33 x34 x35 x36 x37 x38 x39 x40 x41 x42 x43 x44 x45 x46 x47 x48 x49 x50 : Value), ∃ H2, loopN kk (runCode Try.prog (lvl Try.prog pk12 m) (loopN m) f61_c0) (f61_k0 (lvl Try.prog pk12 m) (loopN m)) [x0, (.pointer (some ⟨a, 0, none⟩)), (.bool false), (.int .i64 (IntKind.i64.wrap ((i0 : Int) + 1))), x4, x5, x6, x7, x8, x9, x10, x11, x12, x13, x14, x15, x16, x17, x18, x19, x20, x21, x22, x23, x24, x25, x26, x27, x28, x29, x30, x31, x32, x33, x34, x35, x36, x37, x38, x39, x40, x41, x42, x43, x44, x45, x46, x47, x48, x49, x50] H = some (.bool R, H2) ∧ Ext H0 H2) : ∀ (q i k : Nat), i0 - i = q → i ≤ i0 → q < k → ∀ (x0 x6 x7 x8 x9 x10 x11 x12 x13 x14 x15 x16 x17 x18 x19 x20 x21 x22 x23 x24 x25 x26 x27 x28 x29 x30 x31 x32 x33 x34 x35 x36 x37 x38 x39 x40 x41 x42 x43 x44 x45 x46 x47 x48 x49 x50 : Value),
    ∃ H2, loopN k (runCode Try.prog (lvl Try.prog pk12 m) (loopN m) f61_c1) (f61_k1 (lvl Try.prog pk12 m) (loopN m) (again kk (runCode Try.prog (lvl Try.prog pk12 m) (loopN m) f61_c0) (f61_k0 (lvl Try.prog pk12 m) (loopN m)))) [x0, (.pointer (some ⟨a, 0, none⟩)), (.bool false), (.int .i64 (i0 : Nat)), (.pointer (some ⟨eb, 0, none⟩)), (.int .i64 (i : Nat)), x6, x7, x8, x9, x10, x11, x12, x13, x14, x15, x16, x17, x18, x19, x20, x21, x22, x23, x24, x25, x26, x27, x28, x29, x30, x31, x32, x33, x34, x35, x36, x37, x38, x39, x40, x41, x42, x43, x44, x45, x46, x47, x48, x49, x50] H = some (.bool (!(((p.edges.take i0).drop i).any fun x => x == y) && R), H2) ∧ Ext H0 H2 := by
  intro q

  induction q with
  | zero =>
    intro i k  hr hi hk 
    intros
    obtain ⟨k, rfl⟩ : ∃ n, k = n + 1 := ⟨k - 1, by omega⟩
    obtain rfl : i0 = i := by omega
    have e : decide (((i0 : Nat) : Int) < (i0 : Nat)) = false := by simp
    have hd0 : (p.edges.take i0).drop i0 = [] := List.drop_eq_nil_of_le (by rw [List.length_take]; omega)
    rw [hd0, List.any_nil, Bool.not_false, Bool.true_and]
    rw [loop_succ, f61_b1_eq]
    unfold f61_b1
    simp -implicitDefEqProofs only [r_opt, r_ret, ob_some, ifB_true, iteV_true, iteV_false, r_gdt, r_gdt2, r_gdtf, r_gdtf2, r_gdff, r_gdff2, r_gdft, r_gdft2, r_gdu, r_gdu2, pick_t, pick_f, ext_0, ext_1, x_newB, r_nil, r_fAddr, Nat.zero_add, b_lss, b_leq, b_gtr, b_geq, b_eql, b_neq, u_not, Bool.not_true, Bool.not_false, oneOf_one, oneOf_two, again_normal, again_exit, again_ret, Bool.and_true, e]
    rw [f61_e1_2_eq]
    unfold f61_e1_2
    simp -implicitDefEqProofs only [r_opt, r_ret, ob_some, ifB_true, iteV_true, iteV_false, r_gdt, r_gdt2, r_gdtf, r_gdtf2, r_gdff, r_gdff2, r_gdft, r_gdft2, r_gdu, r_gdu2, pick_t, pick_f, ext_0, ext_1, x_newB, r_nil, r_fAddr, Nat.zero_add, b_lss, b_leq, b_gtr, b_geq, b_eql, b_neq, u_not, Bool.not_true, Bool.not_false, oneOf_one, oneOf_two, again_normal, again_exit, again_ret, Bool.and_true, b_add]
    exact hK ..
  | succ q ih =>
    intro i k  hr hi hk 
    intros
    obtain ⟨k, rfl⟩ : ∃ n, k = n + 1 := ⟨k - 1, by omega⟩
    have e : decide ((i : Int) < (i0 : Nat)) = true := decide_eq_true (by omega)
    have e3 : IntKind.i64.wrap ((i : Int) + 1) = ((i + 1 : Nat) : Int) := by rw [wrap_i64 (by omega) (by omega)]; omega
    have l1 := ld_pl hb 1 _ rfl
    have lab := ld_ed2 he0
    have hxi : p.edges[i]? = some (p.edges[i]'(by omega)) := List.getElem?_eq_getElem (by omega)
    obtain ⟨b, o, g1, g2, g3⟩ := hp.at_ edC_len hxi .i64
    have le : ldN 2 (.pointer (some ⟨b, o, none⟩)) H = some (edV (p.edges[i]'(by omega)), H) := (g3 H rfl).1
    have hdrop : (p.edges.take i0).drop i = p.edges[i]'(by omega) :: (p.edges.take i0).drop (i + 1) := by
      rw [List.drop_eq_getElem_cons (by rw [List.length_take]; omega), List.getElem_take]
    rw [hdrop, List.any_cons]
    rw [loop_succ, f61_b1_eq]
    unfold f61_b1
    cases c : (p.edges[i]'(by omega)) == y with
    | true =>
      refine ⟨H, ?_, hx⟩
      simp -implicitDefEqProofs only [r_opt, r_ret, ob_some, ifB_true, iteV_true, iteV_false, r_gdt, r_gdt2, r_gdtf, r_gdtf2, r_gdff, r_gdff2, r_gdft, r_gdft2, r_gdu, r_gdu2, pick_t, pick_f, ext_0, ext_1, x_newB, r_nil, r_fAddr, Nat.zero_add, b_lss, b_leq, b_gtr, b_geq, b_eql, b_neq, u_not, Bool.not_true, Bool.not_false, oneOf_one, oneOf_two, again_normal, again_exit, again_ret, Bool.and_true, e, l1, g1, le, lab, eEdge, c, Bool.true_or, Bool.not_true, Bool.false_and]
      rw [f61_r1_eq]
      unfold f61_r1
      rw [again_ret, f61_r0_eq]
      rfl
    | false =>
      simp -implicitDefEqProofs only [r_opt, r_ret, ob_some, ifB_true, iteV_true, iteV_false, r_gdt, r_gdt2, r_gdtf, r_gdtf2, r_gdff, r_gdff2, r_gdft, r_gdft2, r_gdu, r_gdu2, pick_t, pick_f, ext_0, ext_1, x_newB, r_nil, r_fAddr, Nat.zero_add, b_lss, b_leq, b_gtr, b_geq, b_eql, b_neq, u_not, Bool.not_true, Bool.not_false, oneOf_one, oneOf_two, again_normal, again_exit, again_ret, Bool.and_true, e, l1, g1, le, lab, eEdge, c, Bool.false_or, b_add, e3]
      exact ih (i + 1) k (by omega) (by omega) (by omega) ..
theorem redges_loop {H0 : Heap} {a : Nat} (hp : Es H0 ev p.edges) (hn : p.edges.length + 20 < m) (hm : m ≤ 72057594037927936) : ∀ (q i k : Nat) (H1 : Heap), p.edges.length - i = q → i ≤ p.edges.length → q < k → Ext H0 H1 → H0[a]? = some (plB p ev wv nv) → ∀ (x0 x4 x5 x6 x7 x8 x9 x10 x11 x12 x13 x14 x15 x16 x17 x18 x19 x20 x21 x22 x23 x24 x25 x26 x27 x28 x29 x30 x31 x32 x33 x34 x35 x36 x37 x38 x39 x40 x41 x42 x43 x44 x45 x46 x47 x48 x49 x50 : Value),
    ∃ H2, loopN k (runCode Try.prog (lvl Try.prog pk12 m) (loopN m) f61_c0) (f61_k0 (lvl Try.prog pk12 m) (loopN m)) [x0, (.pointer (some ⟨a, 0, none⟩)), (.bool false), (.int .i64 (i : Nat)), x4, x5, x6, x7, x8, x9, x10, x11, x12, x13, x14, x15, x16, x17, x18, x19, x20, x21, x22, x23, x24, x25, x26, x27, x28, x29, x30, x31, x32, x33, x34, x35, x36, x37, x38, x39, x40, x41, x42, x43, x44, x45, x46, x47, x48, x49, x50] H1 = some (.bool (edOk p.nodes (p.edges.take i) (p.edges.drop i) && decide ((p.edges.length : Int) ≤ 15)), H2) ∧ Ext H0 H2 := by
  intro q

  induction q with
  | zero =>
    intro i k H1 hr hi hk he hb0
    intros
    obtain ⟨k, rfl⟩ : ∃ n, k = n + 1 := ⟨k - 1, by omega⟩
    obtain rfl : p.edges.length = i := by omega
    have e : decide (((p.edges.length : Nat) : Int) < (p.edges.length : Nat)) = false := by simp
    have hb := ld_of hb0 he
    have l1 := ld_pl hb 1 _ rfl
    have hlen := (hp.ext he).len
    refine ⟨H1, ?_, he⟩
    rw [loop_succ, f61_b0_eq]
    unfold f61_b0
    simp -implicitDefEqProofs only [r_opt, r_ret, ob_some, ifB_true, iteV_true, iteV_false, r_gdt, r_gdt2, r_gdtf, r_gdtf2, r_gdff, r_gdff2, r_gdft, r_gdft2, r_gdu, r_gdu2, pick_t, pick_f, ext_0, ext_1, x_newB, r_nil, r_fAddr, Nat.zero_add, b_lss, b_leq, b_gtr, b_geq, b_eql, b_neq, u_not, Bool.not_true, Bool.not_false, oneOf_one, oneOf_two, again_normal, again_exit, again_ret, Bool.and_true, l1, hlen, e]
    rw [f61_e0_0_eq, List.drop_length, edOk, Bool.true_and]
    unfold f61_e0_0
    simp -implicitDefEqProofs only [r_opt, r_ret, ob_some, ifB_true, iteV_true, iteV_false, r_gdt, r_gdt2, r_gdtf, r_gdtf2, r_gdff, r_gdff2, r_gdft, r_gdft2, r_gdu, r_gdu2, pick_t, pick_f, ext_0, ext_1, x_newB, r_nil, r_fAddr, Nat.zero_add, b_lss, b_leq, b_gtr, b_geq, b_eql, b_neq, u_not, Bool.not_true, Bool.not_false, oneOf_one, oneOf_two, again_normal, again_exit, again_ret, Bool.and_true, l1, hlen]
  | succ q ih =>
    intro i k H1 hr hi hk he hb0
    intros
    obtain ⟨k, rfl⟩ : ∃ n, k = n + 1 := ⟨k - 1, by omega⟩
    have e : decide ((i : Int) < (p.edges.length : Nat)) = true := decide_eq_true (by omega)
    have e3 : IntKind.i64.wrap ((i : Int) + 1) = ((i + 1 : Nat) : Int) := by rw [wrap_i64 (by omega) (by omega)]; omega
    have hb := ld_of hb0 he
    have l1 := ld_pl hb 1 _ rfl
    have hlen := (hp.ext he).len
    have hxi : p.edges[i]? = some p.edges[i] := List.getElem?_eq_getElem (by omega)
    obtain ⟨b, o, g1, g2, g3⟩ := (hp.ext he).at_ edC_len hxi .i64
    obtain ⟨y, hy⟩ : ∃ y, y = p.edges[i] := ⟨_, rfl⟩
    have le : ldN 2 (.pointer (some ⟨b, o, none⟩)) H1 = some (edV y, H1) := by rw [hy]; exact (g3 H1 rfl).1
    have hdrop : p.edges.drop i = y :: p.edges.drop (i + 1) := by rw [hy]; exact List.drop_eq_getElem_cons (by omega)
    have htake : p.edges.take i ++ [y] = p.edges.take (i + 1) := by rw [List.take_add_one, hxi, hy]; rfl
    have st := st_ed y H1
    obtain ⟨H2, hH2⟩ : ∃ H2, H2 = H1 ++ [edB y] := ⟨_, rfl⟩
    rw [← hH2] at st
    have x1 : Ext H1 H2 := by rw [hH2]; exact Fr.app _ _ _
    have hb2 : H2[H1.length]? = some (edB y) := by rw [hH2]; exact at_last _ _
    have la := ld_ed0 hb2
    have lb := ld_ed1 hb2
    have hb3 := ld_of hb x1
    have l0 := ld_pl hb3 0 _ rfl
    rw [hdrop, edOk, htake]
    rw [loop_succ, f61_b0_eq]
    unfold f61_b0
    by_cases c1 : y.1 < 0
    · refine ⟨H2, ?_, he.tr x1⟩
      simp -implicitDefEqProofs only [r_opt, r_ret, ob_some, ifB_true, iteV_true, iteV_false, r_gdt, r_gdt2, r_gdtf, r_gdtf2, r_gdff, r_gdff2, r_gdft, r_gdft2, r_gdu, r_gdu2, pick_t, pick_f, ext_0, ext_1, x_newB, r_nil, r_fAddr, Nat.zero_add, b_lss, b_leq, b_gtr, b_geq, b_eql, b_neq, u_not, Bool.not_true, Bool.not_false, oneOf_one, oneOf_two, again_normal, again_exit, again_ret, Bool.and_true, l1, hlen, e, g1, le, zEd, st, la, lb, c1, decide_true, Bool.true_or, Bool.not_true, Bool.false_and]
      rw [f61_r0_eq]
      rfl
    · by_cases c2 : y.2 ≤ y.1
      · refine ⟨H2, ?_, he.tr x1⟩
        simp -implicitDefEqProofs only [r_opt, r_ret, ob_some, ifB_true, iteV_true, iteV_false, r_gdt, r_gdt2, r_gdtf, r_gdtf2, r_gdff, r_gdff2, r_gdft, r_gdft2, r_gdu, r_gdu2, pick_t, pick_f, ext_0, ext_1, x_newB, r_nil, r_fAddr, Nat.zero_add, b_lss, b_leq, b_gtr, b_geq, b_eql, b_neq, u_not, Bool.not_true, Bool.not_false, oneOf_one, oneOf_two, again_normal, again_exit, again_ret, Bool.and_true, l1, hlen, e, g1, le, zEd, st, la, lb, c1, c2, decide_true, decide_false, Bool.false_or, Bool.true_or, Bool.not_true, Bool.false_and]
        rw [f61_r0_eq]
        rfl
      · by_cases c3 : p.nodes ≤ y.2
        · refine ⟨H2, ?_, he.tr x1⟩
          simp -implicitDefEqProofs only [r_opt, r_ret, ob_some, ifB_true, iteV_true, iteV_false, r_gdt, r_gdt2, r_gdtf, r_gdtf2, r_gdff, r_gdff2, r_gdft, r_gdft2, r_gdu, r_gdu2, pick_t, pick_f, ext_0, ext_1, x_newB, r_nil, r_fAddr, Nat.zero_add, b_lss, b_leq, b_gtr, b_geq, b_eql, b_neq, u_not, Bool.not_true, Bool.not_false, oneOf_one, oneOf_two, again_normal, again_exit, again_ret, Bool.and_true, l1, hlen, e, g1, le, zEd, st, la, lb, l0, c1, c2, c3, decide_true, decide_false, Bool.false_or, Bool.true_or, Bool.not_true, Bool.false_and]
          rw [f61_r0_eq]
          rfl
        · simp -implicitDefEqProofs only [r_opt, r_ret, ob_some, ifB_true, iteV_true, iteV_false, r_gdt, r_gdt2, r_gdtf, r_gdtf2, r_gdff, r_gdff2, r_gdft, r_gdft2, r_gdu, r_gdu2, pick_t, pick_f, ext_0, ext_1, x_newB, r_nil, r_fAddr, Nat.zero_add, b_lss, b_leq, b_gtr, b_geq, b_eql, b_neq, u_not, Bool.not_true, Bool.not_false, oneOf_one, oneOf_two, again_normal, again_exit, again_ret, Bool.and_true, l1, hlen, e, g1, le, zEd, st, la, lb, l0, c1, c2, c3, decide_false, Bool.false_or]
          rw [Bool.and_assoc]
          refine redges_loop1 (H := H2) (H0 := H0) (a := a) (eb := H1.length) (i0 := i) (kk := k) (y := y) (R := edOk p.nodes (p.edges.take (i + 1)) (p.edges.drop (i + 1)) && decide ((p.edges.length : Int) ≤ 15)) ((hp.ext he).ext x1) hb3 hb2 (by omega) (by omega) (he.tr x1) ?_ i 0 m (by omega) (by omega) (by omega) ..
          intros
          rw [e3]
          exact ih (i + 1) k H2 (by omega) (by omega) (by omega) (he.tr x1) hb0 ..

theorem redges_is (hp : PV H p ev wv nv) (hn : p.edges.length + 30 < m) (hm : m ≤ 72057594037927936) : ∃ H', lvl Try.prog pk12 m (.func 61) [plV p ev wv nv] H = some (.bool (edgesOk p), H') ∧ Ext H H' := by
  have h1 := hp.be
  have h2 := hp.bw
  have h3 := hp.bn
  obtain ⟨H0, hH0⟩ : ∃ H0, H0 = H ++ [plB p ev wv nv] := ⟨_, rfl⟩
  have x0 : Ext H H0 := by rw [hH0]; exact Fr.app _ _ _
  have b0 : H0[H.length]? = some (plB p ev wv nv) := by rw [hH0]; exact at_last _ _
  obtain ⟨H', g1, g2⟩ : ∃ H', lvl Try.prog pk12 m (.func 61) [plV p ev wv nv] H = some (.bool (edgesOk p), H') ∧ Ext H0 H' := by
    refine lvl_ex1 (pk_no rfl rfl) (by omega) ?_
    rw [f61_eq]
    unfold f61
    simp -implicitDefEqProofs only [r_opt, r_ret, ob_some, ifB_true, iteV_true, iteV_false, r_gdt, r_gdt2, r_gdtf, r_gdtf2, r_gdff, r_gdff2, r_gdft, r_gdft2, r_gdu, r_gdu2, pick_t, pick_f, ext_0, ext_1, x_newB, r_nil, r_fAddr, Nat.zero_add, b_lss, b_leq, b_gtr, b_geq, b_eql, b_neq, u_not, Bool.not_true, Bool.not_false, oneOf_one, oneOf_two, again_normal, again_exit, again_ret, Bool.and_true, plV_cells, ← hH0]
    exact redges_loop (hp.e.ext x0) (m := m - 1) (by omega) (by omega) p.edges.length 0 (m - 1) H0 (by omega) (by omega) (by omega) (Fr.refl _ _) b0 ..
  exact ⟨H', g1, x0.tr g2⟩

theorem ePR (a : Addr) : bin Try.prog .eql 81 (.pointer (some a)) (.pointer none) = some (.bool false) := x_eqNil 81 93 (by kernel_rfl) a
theorem ePR0 : bin Try.prog .eql 81 (.pointer none) (.pointer none) = some (.bool true) := x_eqNil0 81 93 (by kernel_rfl)
theorem bRW : bld Try.prog 93 [] = some (.agg #[.slice none 0 0, .slice none 0 0, .int .i64 0]) := by kernel_rfl
theorem one_sl {u : Value} {xs : List Int} (h : Iw H u xs) : u.cells.toList = [u] ∧ allCells [u] = true := by
  rcases h with ⟨_, ⟨rfl, _⟩ | ⟨_, _, _, rfl, _⟩⟩ <;> exact ⟨rfl, rfl⟩

/-- behind the loop over the weights -/
theorem rwNew_tail {H : Heap} {v : Value} {ws : List Int} (hw : Is H v ws) (hl : ws.length ≤ 17592186044500) (hok : ws.any wBad = false) (x1 x2 x3 x4 x5 x6 x7 x8 x9 x10 x11 x12 x13 x14 x15 x16 x17 x18 x19 x20 x21 x22 x23 x24 x25 x26 x27 x28 x29 x30 x31 x32 x33 x34 x35 x36 x37 x38 x39 x40 x41 x42 x43 x44 x45 x46 x47 x48 x49 x50 x51 : Value) :
    ∃ H' u, f62_e0_0 (lvl Try.prog pk12 m) (loopN m) v x1 x2 x3 x4 x5 x6 x7 x8 x9 x10 x11 x12 x13 x14 x15 x16 x17 x18 x19 x20 x21 x22 x23 x24 x25 x26 x27 x28 x29 x30 x31 x32 x33 x34 x35 x36 x37 x38 x39 x40 x41 x42 x43 x44 x45 x46 x47 x48 x49 x50 x51 H = some (u, H') ∧ Ext H H' ∧ bin Try.prog .eql 81 u (.pointer none) = some (.bool (!wOk ws)) := by
  have hlen := hw.len
  unfold f62_e0_0
  by_cases c1 : (ws.length : Int) < 1
  · have hno : wOk ws = false := by unfold wOk; rw [decide_eq_true (show (ws.length : Int) = 0 by omega)]; rfl
    refine ⟨H, .pointer none, ?_, Fr.refl _ _, by rw [hno]; exact ePR0⟩
    simp -implicitDefEqProofs only [r_opt, r_ret, ob_some, ifB_true, iteV_true, iteV_false, r_gdt, r_gdt2, r_gdtf, r_gdtf2, r_gdff, r_gdff2, r_gdft, r_gdft2, r_gdu, r_gdu2, pick_t, pick_f, ext_0, ext_1, x_newB, r_nil, r_fAddr, Nat.zero_add, b_lss, b_leq, b_gtr, b_geq, b_eql, b_neq, u_not, Bool.not_true, Bool.not_false, oneOf_one, oneOf_two, again_normal, again_exit, again_ret, Bool.and_true, hlen, c1, decide_true]
  · by_cases c2 : (3 : Int) < ws.length
    · have hno : wOk ws = false := by unfold wOk; rw [decide_eq_true c2]; simp
      refine ⟨H, .pointer none, ?_, Fr.refl _ _, by rw [hno]; exact ePR0⟩
      simp -implicitDefEqProofs only [r_opt, r_ret, ob_some, ifB_true, iteV_true, iteV_false, r_gdt, r_gdt2, r_gdtf, r_gdtf2, r_gdff, r_gdff2, r_gdft, r_gdft2, r_gdu, r_gdu2, pick_t, pick_f, ext_0, ext_1, x_newB, r_nil, r_fAddr, Nat.zero_add, b_lss, b_leq, b_gtr, b_geq, b_eql, b_neq, u_not, Bool.not_true, Bool.not_false, oneOf_one, oneOf_two, again_normal, again_exit, again_ret, Bool.and_true, hlen, c1, c2, decide_true, decide_false]
    · have hyes : wOk ws = true := by unfold wOk; rw [decide_eq_false (show ¬ (ws.length : Int) = 0 by omega), decide_eq_false c2, hok]; rfl
      obtain ⟨H1, hH1⟩ : ∃ H1, H1 = H ++ [Blk.cells (Value.agg #[.slice none 0 0, .slice none 0 0, .int .i64 0]).cells.toList 93 .fix] := ⟨_, rfl⟩
      have x1 : Ext H H1 := by rw [hH1]; exact Fr.app _ _ _
      have b1 : H1[H.length]? = some (.cells [.slice none 0 0, .slice none 0 0, .int .i64 0] 93 .fix) := by rw [hH1]; exact at_last _ _
      have l0 : ld1 (.pointer (some ⟨H.length, 0, none⟩)) H1 = some (.slice none 0 0, H1) := by rw [x_ld1, b1]; rfl
      obtain ⟨u1, H2, g1, g2, g3, g4⟩ := (Rw.nil (el := inC) (e := 3) (sz := 1) (H := H1)).more inC_len inC_all (by decide) (by' := 8) (H0 := H1) (hw.ext x1) (New.nil _) (Fr.refl _ _) (roomy_mono (n := 1000) (by decide) (by simp; omega))
      obtain ⟨s1, s2⟩ := one_sl g2
      have b2 := ld_of b1 g4
      have st1 : stN 1 (.pointer (some ⟨H.length, 0, none⟩)) u1 H2 = some (undef, H2.set H.length (.cells [u1, .slice none 0 0, .int .i64 0] 93 .fix)) := by
        rw [x_stN 1 _ _ _ (by rw [s1]; rfl), b2, s1, x_stC _ _ _ _ _ _ (by decide) (by simp) s2]
        rfl
      obtain ⟨H3, hH3⟩ : ∃ H3, H3 = H2.set H.length (.cells [u1, .slice none 0 0, .int .i64 0] 93 .fix) := ⟨_, rfl⟩
      rw [← hH3] at st1
      have hl2 : H.length < H2.length := (List.getElem?_eq_some_iff.mp b2).1
      have b3 : H3[H.length]? = some (.cells [u1, .slice none 0 0, .int .i64 0] 93 .fix) := by rw [hH3]; exact List.getElem?_set_self hl2
      have x3 : Ext H H3 := ⟨by rw [hH3, List.length_set]; omega, fun b hb _ => by rw [hH3, List.getElem?_set_ne (by omega), g4.2 b (by have := x1.1; omega) id, x1.2 b hb id]⟩
      have l3 : ld1 (.pointer (some ⟨H.length, 1, none⟩)) H3 = some (.slice none 0 0, H3) := by rw [x_ld1, b3]; rfl
      obtain ⟨u2, H4, q1, q2, q3, q4⟩ := (Rw.nil (el := inC) (e := 3) (sz := 1) (H := H3)).more inC_len inC_all (by decide) (by' := 8) (H0 := H3) (hw.ext x3) (New.nil _) (Fr.refl _ _) (roomy_mono (n := 1000) (by decide) (by simp; omega))
      obtain ⟨s3, s4⟩ := one_sl q2
      have b4 := ld_of b3 q4
      have st2 : stN 1 (.pointer (some ⟨H.length, 1, none⟩)) u2 H4 = some (undef, H4.set H.length (.cells [u1, u2, .int .i64 0] 93 .fix)) := by
        rw [x_stN 1 _ _ _ (by rw [s3]; rfl), b4, s3, x_stC _ _ _ _ _ _ (by decide) (by simp) s4]
        rfl
      have hl4 : H.length < H4.length := (List.getElem?_eq_some_iff.mp b4).1
      refine ⟨H4.set H.length (.cells [u1, u2, .int .i64 0] 93 .fix), .pointer (some ⟨H.length, 0, none⟩), ?_, ⟨by rw [List.length_set]; omega, fun b hb _ => ?_⟩, by rw [hyes]; exact ePR _⟩
      · simp -implicitDefEqProofs only [r_opt, r_ret, ob_some, ifB_true, iteV_true, iteV_false, r_gdt, r_gdt2, r_gdtf, r_gdtf2, r_gdff, r_gdff2, r_gdft, r_gdft2, r_gdu, r_gdu2, pick_t, pick_f, ext_0, ext_1, x_newB, r_nil, r_fAddr, Nat.zero_add, b_lss, b_leq, b_gtr, b_geq, b_eql, b_neq, u_not, Bool.not_true, Bool.not_false, oneOf_one, oneOf_two, again_normal, again_exit, again_ret, Bool.and_true, hlen, c1, c2, decide_false, bRW, ← hH1, l0, g1, st1, l3, q1, st2]
      · rw [List.getElem?_set_ne (by omega), q4.2 b (by have := x3.1; omega) id, x3.2 b hb id]

theorem rwNew_loop {v : Value} {ws : List Int} (hw : Is H v ws) (hl : ws.length ≤ 17592186044500) : ∀ (q i k : Nat), ws.length - i = q → i ≤ ws.length → q < k → (ws.take i).any wBad = false → ∀ (x1 x4 x5 x6 x7 x8 x9 x10 x11 x12 x13 x14 x15 x16 x17 x18 x19 x20 x21 x22 x23 x24 x25 x26 x27 x28 x29 x30 x31 x32 x33 x34 x35 x36 x37 x38 x39 x40 x41 x42 x43 x44 x45 x46 x47 x48 x49 x50 x51 : Value),
    ∃ H' u, loopN k (runCode Try.prog (lvl Try.prog pk12 m) (loopN m) f62_c0) (f62_k0 (lvl Try.prog pk12 m) (loopN m)) [v, x1, (.pointer none), (.int .i64 (i : Nat)), x4, x5, x6, x7, x8, x9, x10, x11, x12, x13, x14, x15, x16, x17, x18, x19, x20, x21, x22, x23, x24, x25, x26, x27, x28, x29, x30, x31, x32, x33, x34, x35, x36, x37, x38, x39, x40, x41, x42, x43, x44, x45, x46, x47, x48, x49, x50, x51] H = some (u, H') ∧ Ext H H' ∧ bin Try.prog .eql 81 u (.pointer none) = some (.bool (!wOk ws)) := by
  intro q

  induction q with
  | zero =>
    intro i k  hr hi hk hok
    intros
    obtain ⟨k, rfl⟩ : ∃ n, k = n + 1 := ⟨k - 1, by omega⟩
    obtain rfl : ws.length = i := by omega
    have e : decide (((ws.length : Nat) : Int) < (ws.length : Nat)) = false := by simp
    have hlen := hw.len
    rw [List.take_of_length_le (Nat.le_refl _)] at hok
    rw [loop_succ, f62_b0_eq]
    unfold f62_b0
    simp -implicitDefEqProofs only [r_opt, r_ret, ob_some, ifB_true, iteV_true, iteV_false, r_gdt, r_gdt2, r_gdtf, r_gdtf2, r_gdff, r_gdff2, r_gdft, r_gdft2, r_gdu, r_gdu2, pick_t, pick_f, ext_0, ext_1, x_newB, r_nil, r_fAddr, Nat.zero_add, b_lss, b_leq, b_gtr, b_geq, b_eql, b_neq, u_not, Bool.not_true, Bool.not_false, oneOf_one, oneOf_two, again_normal, again_exit, again_ret, Bool.and_true, hlen, e]
    rw [f62_e0_0_eq]
    exact rwNew_tail hw hl hok ..
  | succ q ih =>
    intro i k  hr hi hk hok
    intros
    obtain ⟨k, rfl⟩ : ∃ n, k = n + 1 := ⟨k - 1, by omega⟩
    have e : decide ((i : Int) < (ws.length : Nat)) = true := decide_eq_true (by omega)
    have e3 : IntKind.i64.wrap ((i : Int) + 1) = ((i + 1 : Nat) : Int) := by rw [wrap_i64 (by omega) (by omega)]; omega
    have hlen := hw.len
    have hxi : ws[i]? = some ws[i] := List.getElem?_eq_getElem (by omega)
    obtain ⟨b, o, g1, g2, g3⟩ := hw.at_ inC_len hxi .i64
    have l1 : ld1 (.pointer (some ⟨b, o, none⟩)) H = some (.int .i64 ws[i], H) := (g3 H rfl).2.1 0 _ rfl
    have htake : ws.take (i + 1) = ws.take i ++ [ws[i]] := by rw [List.take_add_one, hxi]; rfl
    have hbad : wBad ws[i] = true → wOk ws = false := fun h => by
      have : ws.any wBad = true := List.any_eq_true.mpr ⟨ws[i], List.getElem_mem (by omega), h⟩
      unfold wOk
      rw [this]
      simp
    rw [loop_succ, f62_b0_eq]
    unfold f62_b0
    by_cases c1 : ws[i] < 1
    · have hno := hbad (by unfold wBad; rw [decide_eq_true c1]; rfl)
      refine ⟨H, .pointer none, ?_, Fr.refl _ _, by rw [hno]; exact ePR0⟩
      simp -implicitDefEqProofs only [r_opt, r_ret, ob_some, ifB_true, iteV_true, iteV_false, r_gdt, r_gdt2, r_gdtf, r_gdtf2, r_gdff, r_gdff2, r_gdft, r_gdft2, r_gdu, r_gdu2, pick_t, pick_f, ext_0, ext_1, x_newB, r_nil, r_fAddr, Nat.zero_add, b_lss, b_leq, b_gtr, b_geq, b_eql, b_neq, u_not, Bool.not_true, Bool.not_false, oneOf_one, oneOf_two, again_normal, again_exit, again_ret, Bool.and_true, hlen, e, g1, l1, c1, decide_true]
      rw [f62_r0_eq]
      rfl
    · by_cases c2 : 5 < ws[i]
      · have hno := hbad (by unfold wBad; rw [decide_eq_true c2]; simp)
        refine ⟨H, .pointer none, ?_, Fr.refl _ _, by rw [hno]; exact ePR0⟩
        simp -implicitDefEqProofs only [r_opt, r_ret, ob_some, ifB_true, iteV_true, iteV_false, r_gdt, r_gdt2, r_gdtf, r_gdtf2, r_gdff, r_gdff2, r_gdft, r_gdft2, r_gdu, r_gdu2, pick_t, pick_f, ext_0, ext_1, x_newB, r_nil, r_fAddr, Nat.zero_add, b_lss, b_leq, b_gtr, b_geq, b_eql, b_neq, u_not, Bool.not_true, Bool.not_false, oneOf_one, oneOf_two, again_normal, again_exit, again_ret, Bool.and_true, hlen, e, g1, l1, c1, c2, decide_true, decide_false]
        rw [f62_r0_eq]
        rfl
      · have hgood : wBad ws[i] = false := by unfold wBad; rw [decide_eq_false c1, decide_eq_false c2]; rfl
        simp -implicitDefEqProofs only [r_opt, r_ret, ob_some, ifB_true, iteV_true, iteV_false, r_gdt, r_gdt2, r_gdtf, r_gdtf2, r_gdff, r_gdff2, r_gdft, r_gdft2, r_gdu, r_gdu2, pick_t, pick_f, ext_0, ext_1, x_newB, r_nil, r_fAddr, Nat.zero_add, b_lss, b_leq, b_gtr, b_geq, b_eql, b_neq, u_not, Bool.not_true, Bool.not_false, oneOf_one, oneOf_two, again_normal, again_exit, again_ret, Bool.and_true, hlen, e, g1, l1, c1, c2, decide_false, b_add, e3]
        exact ih (i + 1) k (by omega) (by omega) (by omega) (by rw [htake, List.any_append, hok]; simp [hgood]) ..

theorem rwNew_is {v : Value} {ws : List Int} (hw : Is H v ws) (hl : ws.length ≤ 17592186044500) (hm : ws.length + 100 < m) : ∃ H' u, lvl Try.prog pk12 m (.func 62) [v] H = some (u, H') ∧ Ext H H' ∧ bin Try.prog .eql 81 u (.pointer none) = some (.bool (!wOk ws)) := by
  refine lvl_ex (pk_no rfl rfl) (by omega) ?_
  rw [f62_eq]
  unfold f62
  exact rwNew_loop hw hl ws.length 0 (m - 1) (by omega) (by omega) (by omega) (by simp) ..

theorem rcheck_loop {a : Nat} (hp : Rows H nv p.next) (hb : H[a]? = some (plB p ev wv nv)) (hl : p.next.length ≤ 17592186043000) : ∀ (q i k : Nat), p.next.length - i = q → i ≤ p.next.length → q < k → ∀ (x0 x2 x3 x5 x6 x7 x8 x9 x10 x11 x12 x13 x14 x15 x16 x17 x18 x19 x20 x21 x22 x23 x24 x25 x26 x27 x28 x29 x30 x31 x32 x33 x34 x35 x36 x37 x38 x39 x40 x41 x42 x43 x44 x45 x46 x47 x48 x49 x50 x51 x52 x53 x54 x55 x56 x57 x58 x59 x60 x61 x62 x63 x64 x65 x66 x67 x68 x69 x70 x71 x72 x73 x74 x75 x76 x77 x78 x79 x80 x81 x82 : Value),
    loopN k (runCode Try.prog (lvl Try.prog pk12 m) (loopN m) f40_c0) (f40_k0 (lvl Try.prog pk12 m) (loopN m)) [x0, (.pointer (some ⟨a, 0, none⟩)), x2, x3, (.int .i64 (i : Nat)), x5, x6, x7, x8, x9, x10, x11, x12, x13, x14, x15, x16, x17, x18, x19, x20, x21, x22, x23, x24, x25, x26, x27, x28, x29, x30, x31, x32, x33, x34, x35, x36, x37, x38, x39, x40, x41, x42, x43, x44, x45, x46, x47, x48, x49, x50, x51, x52, x53, x54, x55, x56, x57, x58, x59, x60, x61, x62, x63, x64, x65, x66, x67, x68, x69, x70, x71, x72, x73, x74, x75, x76, x77, x78, x79, x80, x81, x82] H = some (.int .i64 (errno (!((p.next.drop i).any fun r => decide ((r.length : Int) ≠ p.nodes)))), H) := by
  intro q

  induction q with
  | zero =>
    intro i k  hr hi hk 
    intros
    obtain ⟨k, rfl⟩ : ∃ n, k = n + 1 := ⟨k - 1, by omega⟩
    obtain rfl : p.next.length = i := by omega
    have e : decide (((p.next.length : Nat) : Int) < (p.next.length : Nat)) = false := by simp
    have l10 := ld_pl hb 10 _ rfl
    have hlen := hp.len
    rw [loop_succ, f40_b0_eq]
    unfold f40_b0
    simp -implicitDefEqProofs only [r_opt, r_ret, ob_some, ifB_true, iteV_true, iteV_false, r_gdt, r_gdt2, r_gdtf, r_gdtf2, r_gdff, r_gdff2, r_gdft, r_gdft2, r_gdu, r_gdu2, pick_t, pick_f, ext_0, ext_1, x_newB, r_nil, r_fAddr, Nat.zero_add, b_lss, b_leq, b_gtr, b_geq, b_eql, b_neq, u_not, Bool.not_true, Bool.not_false, oneOf_one, oneOf_two, again_normal, again_exit, again_ret, Bool.and_true, l10, hlen, e]
    rw [f40_e0_0_eq, List.drop_length]
    rfl
  | succ q ih =>
    intro i k  hr hi hk 
    intros
    obtain ⟨k, rfl⟩ : ∃ n, k = n + 1 := ⟨k - 1, by omega⟩
    have e : decide ((i : Int) < (p.next.length : Nat)) = true := decide_eq_true (by omega)
    have e3 : IntKind.i64.wrap ((i : Int) + 1) = ((i + 1 : Nat) : Int) := by rw [wrap_i64 (by omega) (by omega)]; omega
    have l10 := ld_pl hb 10 _ rfl
    have l0 := ld_pl hb 0 _ rfl
    have hlen := hp.len
    have hxi : p.next[i]? = some p.next[i] := List.getElem?_eq_getElem (by omega)
    obtain ⟨a1, u, g1, g2, g3⟩ := hp.at_ hxi .i64
    have hul := g3.len
    rw [List.drop_eq_getElem_cons (by omega), List.any_cons]
    rw [loop_succ, f40_b0_eq]
    unfold f40_b0
    by_cases c : (p.next[i].length : Int) = p.nodes
    · have d : ((p.next[i].length : Int) != p.nodes) = false := by simpa using c
      have d2 : decide ((p.next[i].length : Int) ≠ p.nodes) = false := decide_eq_false fun h => h c
      simp -implicitDefEqProofs only [r_opt, r_ret, ob_some, ifB_true, iteV_true, iteV_false, r_gdt, r_gdt2, r_gdtf, r_gdtf2, r_gdff, r_gdff2, r_gdft, r_gdft2, r_gdu, r_gdu2, pick_t, pick_f, ext_0, ext_1, x_newB, r_nil, r_fAddr, Nat.zero_add, b_lss, b_leq, b_gtr, b_geq, b_eql, b_neq, u_not, Bool.not_true, Bool.not_false, oneOf_one, oneOf_two, again_normal, again_exit, again_ret, Bool.and_true, l10, hlen, e, g1, g2, hul, l0, d, b_add, e3]
      rw [d2, Bool.false_or]
      exact ih (i + 1) k (by omega) (by omega) (by omega) ..
    · have d : ((p.next[i].length : Int) != p.nodes) = true := by simpa using c
      have d2 : decide ((p.next[i].length : Int) ≠ p.nodes) = true := decide_eq_true c
      simp -implicitDefEqProofs only [r_opt, r_ret, ob_some, ifB_true, iteV_true, iteV_false, r_gdt, r_gdt2, r_gdtf, r_gdtf2, r_gdff, r_gdff2, r_gdft, r_gdft2, r_gdu, r_gdu2, pick_t, pick_f, ext_0, ext_1, x_newB, r_nil, r_fAddr, Nat.zero_add, b_lss, b_leq, b_gtr, b_geq, b_eql, b_neq, u_not, Bool.not_true, Bool.not_false, oneOf_one, oneOf_two, again_normal, again_exit, again_ret, Bool.and_true, l10, hlen, e, g1, g2, hul, l0, d]
      rw [f40_r0_eq, d2]
      rfl

theorem rcheck_is (hp : PV H p ev wv nv) (hm : 17592186045000 < m) (hm2 : m ≤ 72057594037927936) : ∃ H', lvl Try.prog pk12 m (.func 40) [plV p ev wv nv] H = some (.int .i64 (errno (checkOk p)), H') ∧ Ext H H' := by
  have h1 := hp.be
  have h2 := hp.bw
  have h3 := hp.bn
  obtain ⟨H0, hH0⟩ : ∃ H0, H0 = H ++ [plB p ev wv nv] := ⟨_, rfl⟩
  have x0 : Ext H H0 := by rw [hH0]; exact Fr.app _ _ _
  have b0 : H0[H.length]? = some (plB p ev wv nv) := by rw [hH0]; exact at_last _ _
  have l11 := ld_pl11 b0
  have w := fun x lo hi H => rwi_is (m := m - 1) (by omega) x lo hi H
  have q0 := ld_pl b0 0 _ rfl
  have q2 := ld_pl b0 2 _ rfl
  have q3 := ld_pl b0 3 _ rfl
  have q4 := ld_pl b0 4 _ rfl
  have q5 := ld_pl b0 5 _ rfl
  have q6 := ld_pl b0 6 _ rfl
  have q7 := ld_pl b0 7 _ rfl
  obtain ⟨H2, g2, x2⟩ := redges_is (m := m - 1) (hp.ext x0) (by omega) (by omega)
  have b2 := ld_of b0 x2
  have w2 := ld_pl b2 8 _ rfl
  have la2 := ld_pl b2 2 _ rfl
  have p2 := hp.ext (x0.tr x2)
  have wl := p2.w.len
  obtain ⟨H3, u3, g3, x3, g4⟩ := rwNew_is p2.w (m := m - 1) (by omega) (by omega)
  have b3 := ld_of b2 x3
  have n3 := ld_pl b3 10 _ rfl
  have no3 := ld_pl b3 0 _ rfl
  have p3 := p2.ext x3
  have nl := p3.n.len
  have hn1 : ((p.weights.length : Int) != p.lanes) = !decide ((p.weights.length : Int) = p.lanes) := by rw [Bool.eq_iff_iff]; simp
  have hn2 : ((p.next.length : Int) != p.nodes) = !decide ((p.next.length : Int) = p.nodes) := by rw [Bool.eq_iff_iff]; simp
  have hz : errno false = 120 := rfl
  have hz1 : errno true = 0 := rfl
  refine lvl_ex1 (pk_no rfl rfl) (by omega) ?_
  rw [f40_eq]
  unfold f40 checkOk numOk
  cases c1 : wi p.nodes 2 6 with
  | false => exact ⟨H0, by simp -implicitDefEqProofs only [r_opt, r_ret, ob_some, ifB_true, iteV_true, iteV_false, r_gdt, r_gdt2, r_gdtf, r_gdtf2, r_gdff, r_gdff2, r_gdft, r_gdft2, r_gdu, r_gdu2, pick_t, pick_f, ext_0, ext_1, x_newB, r_nil, r_fAddr, Nat.zero_add, b_lss, b_leq, b_gtr, b_geq, b_eql, b_neq, u_not, Bool.not_true, Bool.not_false, oneOf_one, oneOf_two, again_normal, again_exit, again_ret, Bool.and_true, plV_cells, ← hH0, w, q0, c1, hz, hz1, Bool.false_and, Bool.true_and], x0⟩
  | true =>
    cases c2 : wi p.lanes 1 3 with
    | false => exact ⟨H0, by simp -implicitDefEqProofs only [r_opt, r_ret, ob_some, ifB_true, iteV_true, iteV_false, r_gdt, r_gdt2, r_gdtf, r_gdtf2, r_gdff, r_gdff2, r_gdft, r_gdft2, r_gdu, r_gdu2, pick_t, pick_f, ext_0, ext_1, x_newB, r_nil, r_fAddr, Nat.zero_add, b_lss, b_leq, b_gtr, b_geq, b_eql, b_neq, u_not, Bool.not_true, Bool.not_false, oneOf_one, oneOf_two, again_normal, again_exit, again_ret, Bool.and_true, plV_cells, ← hH0, w, q0, q2, c1, c2, hz, hz1, Bool.false_and, Bool.true_and], x0⟩
    | true =>
      cases c3 : wi p.room 1 8 with
      | false => exact ⟨H0, by simp -implicitDefEqProofs only [r_opt, r_ret, ob_some, ifB_true, iteV_true, iteV_false, r_gdt, r_gdt2, r_gdtf, r_gdtf2, r_gdff, r_gdff2, r_gdft, r_gdft2, r_gdu, r_gdu2, pick_t, pick_f, ext_0, ext_1, x_newB, r_nil, r_fAddr, Nat.zero_add, b_lss, b_leq, b_gtr, b_geq, b_eql, b_neq, u_not, Bool.not_true, Bool.not_false, oneOf_one, oneOf_two, again_normal, again_exit, again_ret, Bool.and_true, plV_cells, ← hH0, w, q0, q2, q3, c1, c2, c3, hz, hz1, Bool.false_and, Bool.true_and], x0⟩
      | true =>
        cases c4 : wi p.queue 1 8 with
        | false => exact ⟨H0, by simp -implicitDefEqProofs only [r_opt, r_ret, ob_some, ifB_true, iteV_true, iteV_false, r_gdt, r_gdt2, r_gdtf, r_gdtf2, r_gdff, r_gdff2, r_gdft, r_gdft2, r_gdu, r_gdu2, pick_t, pick_f, ext_0, ext_1, x_newB, r_nil, r_fAddr, Nat.zero_add, b_lss, b_leq, b_gtr, b_geq, b_eql, b_neq, u_not, Bool.not_true, Bool.not_false, oneOf_one, oneOf_two, again_normal, again_exit, again_ret, Bool.and_true, plV_cells, ← hH0, w, q0, q2, q3, q4, c1, c2, c3, c4, hz, hz1, Bool.false_and, Bool.true_and], x0⟩
        | true =>
          cases c5 : wi p.rounds 1 4 with
          | false => exact ⟨H0, by simp -implicitDefEqProofs only [r_opt, r_ret, ob_some, ifB_true, iteV_true, iteV_false, r_gdt, r_gdt2, r_gdtf, r_gdtf2, r_gdff, r_gdff2, r_gdft, r_gdft2, r_gdu, r_gdu2, pick_t, pick_f, ext_0, ext_1, x_newB, r_nil, r_fAddr, Nat.zero_add, b_lss, b_leq, b_gtr, b_geq, b_eql, b_neq, u_not, Bool.not_true, Bool.not_false, oneOf_one, oneOf_two, again_normal, again_exit, again_ret, Bool.and_true, plV_cells, ← hH0, w, q0, q2, q3, q4, q5, c1, c2, c3, c4, c5, hz, hz1, Bool.false_and, Bool.true_and], x0⟩
          | true =>
            cases c6 : wi p.every 1 8 with
            | false => exact ⟨H0, by simp -implicitDefEqProofs only [r_opt, r_ret, ob_some, ifB_true, iteV_true, iteV_false, r_gdt, r_gdt2, r_gdtf, r_gdtf2, r_gdff, r_gdff2, r_gdft, r_gdft2, r_gdu, r_gdu2, pick_t, pick_f, ext_0, ext_1, x_newB, r_nil, r_fAddr, Nat.zero_add, b_lss, b_leq, b_gtr, b_geq, b_eql, b_neq, u_not, Bool.not_true, Bool.not_false, oneOf_one, oneOf_two, again_normal, again_exit, again_ret, Bool.and_true, plV_cells, ← hH0, w, q0, q2, q3, q4, q5, q6, c1, c2, c3, c4, c5, c6, hz, hz1, Bool.false_and, Bool.true_and], x0⟩
            | true =>
              cases c7 : wi p.bag 1 64 with
              | false => exact ⟨H0, by simp -implicitDefEqProofs only [r_opt, r_ret, ob_some, ifB_true, iteV_true, iteV_false, r_gdt, r_gdt2, r_gdtf, r_gdtf2, r_gdff, r_gdff2, r_gdft, r_gdft2, r_gdu, r_gdu2, pick_t, pick_f, ext_0, ext_1, x_newB, r_nil, r_fAddr, Nat.zero_add, b_lss, b_leq, b_gtr, b_geq, b_eql, b_neq, u_not, Bool.not_true, Bool.not_false, oneOf_one, oneOf_two, again_normal, again_exit, again_ret, Bool.and_true, plV_cells, ← hH0, w, q0, q2, q3, q4, q5, q6, q7, c1, c2, c3, c4, c5, c6, c7, hz, hz1, Bool.false_and, Bool.true_and], x0⟩
              | true =>
                cases c8 : edgesOk p with
                | false => exact ⟨H2, by simp -implicitDefEqProofs only [r_opt, r_ret, ob_some, ifB_true, iteV_true, iteV_false, r_gdt, r_gdt2, r_gdtf, r_gdtf2, r_gdff, r_gdff2, r_gdft, r_gdft2, r_gdu, r_gdu2, pick_t, pick_f, ext_0, ext_1, x_newB, r_nil, r_fAddr, Nat.zero_add, b_lss, b_leq, b_gtr, b_geq, b_eql, b_neq, u_not, Bool.not_true, Bool.not_false, oneOf_one, oneOf_two, again_normal, again_exit, again_ret, Bool.and_true, plV_cells, ← hH0, w, q0, q2, q3, q4, q5, q6, q7, l11, g2, c1, c2, c3, c4, c5, c6, c7, c8, hz, hz1, Bool.false_and, Bool.true_and], x0.tr x2⟩
                | true =>
                  cases c9 : decide ((p.weights.length : Int) = p.lanes) with
                  | false => exact ⟨H2, by simp -implicitDefEqProofs only [r_opt, r_ret, ob_some, ifB_true, iteV_true, iteV_false, r_gdt, r_gdt2, r_gdtf, r_gdtf2, r_gdff, r_gdff2, r_gdft, r_gdft2, r_gdu, r_gdu2, pick_t, pick_f, ext_0, ext_1, x_newB, r_nil, r_fAddr, Nat.zero_add, b_lss, b_leq, b_gtr, b_geq, b_eql, b_neq, u_not, Bool.not_true, Bool.not_false, oneOf_one, oneOf_two, again_normal, again_exit, again_ret, Bool.and_true, plV_cells, ← hH0, w, q0, q2, q3, q4, q5, q6, q7, l11, g2, w2, wl, la2, hn1, c1, c2, c3, c4, c5, c6, c7, c8, c9, hz, hz1, Bool.false_and, Bool.true_and], x0.tr x2⟩
                  | true =>
                    cases c10 : wOk p.weights with
                    | false => exact ⟨H3, by simp -implicitDefEqProofs only [r_opt, r_ret, ob_some, ifB_true, iteV_true, iteV_false, r_gdt, r_gdt2, r_gdtf, r_gdtf2, r_gdff, r_gdff2, r_gdft, r_gdft2, r_gdu, r_gdu2, pick_t, pick_f, ext_0, ext_1, x_newB, r_nil, r_fAddr, Nat.zero_add, b_lss, b_leq, b_gtr, b_geq, b_eql, b_neq, u_not, Bool.not_true, Bool.not_false, oneOf_one, oneOf_two, again_normal, again_exit, again_ret, Bool.and_true, plV_cells, ← hH0, w, q0, q2, q3, q4, q5, q6, q7, l11, g2, w2, wl, la2, hn1, g3, g4, c1, c2, c3, c4, c5, c6, c7, c8, c9, c10, hz, hz1, Bool.false_and, Bool.true_and], (x0.tr x2).tr x3⟩
                    | true =>
                      cases c11 : decide ((p.next.length : Int) = p.nodes) with
                      | false => exact ⟨H3, by simp -implicitDefEqProofs only [r_opt, r_ret, ob_some, ifB_true, iteV_true, iteV_false, r_gdt, r_gdt2, r_gdtf, r_gdtf2, r_gdff, r_gdff2, r_gdft, r_gdft2, r_gdu, r_gdu2, pick_t, pick_f, ext_0, ext_1, x_newB, r_nil, r_fAddr, Nat.zero_add, b_lss, b_leq, b_gtr, b_geq, b_eql, b_neq, u_not, Bool.not_true, Bool.not_false, oneOf_one, oneOf_two, again_normal, again_exit, again_ret, Bool.and_true, plV_cells, ← hH0, w, q0, q2, q3, q4, q5, q6, q7, l11, g2, w2, wl, la2, hn1, g3, g4, n3, nl, no3, hn2, c1, c2, c3, c4, c5, c6, c7, c8, c9, c10, c11, hz, hz1, Bool.false_and, Bool.true_and], (x0.tr x2).tr x3⟩
                      | true =>
                        refine ⟨H3, ?_, (x0.tr x2).tr x3⟩
                        simp -implicitDefEqProofs only [r_opt, r_ret, ob_some, ifB_true, iteV_true, iteV_false, r_gdt, r_gdt2, r_gdtf, r_gdtf2, r_gdff, r_gdff2, r_gdft, r_gdft2, r_gdu, r_gdu2, pick_t, pick_f, ext_0, ext_1, x_newB, r_nil, r_fAddr, Nat.zero_add, b_lss, b_leq, b_gtr, b_geq, b_eql, b_neq, u_not, Bool.not_true, Bool.not_false, oneOf_one, oneOf_two, again_normal, again_exit, again_ret, Bool.and_true, plV_cells, ← hH0, w, q0, q2, q3, q4, q5, q6, q7, l11, g2, w2, wl, la2, hn1, g3, g4, n3, nl, no3, hn2, c1, c2, c3, c4, c5, c6, c7, c8, c9, c10, c11, Bool.true_and]
                        unfold rowsOk
                        exact rcheck_loop p3.n b3 (by omega) p.next.length 0 (m - 1) (by omega) (by omega) (by omega) ..

theorem rhops_loop1 {H0 : Heap} {a : Nat} {v : Nat} {ws : List Int} {hs : List Ed} {Q : Heap → Value → Prop} {K : Ex → K (Value × Heap)} {u : Value} (hs1 : hs.length + (ws.filter fun w => wi w 0 5).length ≤ 1000) (hws : ws.length ≤ 72057594037927936) (hm : 0 < m)
    (hK : ∀ (H' : Heap) (acc : Value), Ext H0 H' → Hw H' acc (hs ++ (ws.filter fun w => wi w 0 5).map fun w => ((v : Int), w)) → New H0 acc → ∀ (x0 x2 x5 x6 x7 x8 x9 x10 x11 x12 x13 x14 x15 x16 x17 x18 x19 x20 x21 x22 x23 x24 x25 x26 x27 x28 x29 x30 x31 x32 x33 x34 x35 x36 x37 x38 x39 x40 x41 x42 x43 x44 x45 x46 x47 : Value), ∃ H2 u2, K .normal [x0, (.pointer (some ⟨a, 0, none⟩)), x2, acc, (.int .i64 (IntKind.i64.wrap ((v : Int) + 1))), x5, x6, x7, x8, x9, x10, x11, x12, x13, x14, x15, x16, x17, x18, x19, x20, x21, x22, x23, x24, x25, x26, x27, x28, x29, x30, x31, x32, x33, x34, x35, x36, x37, x38, x39, x40, x41, x42, x43, x44, x45, x46, x47] H' = some (u2, H2) ∧ Q H2 u2) : ∀ (q i k : Nat) (H1 : Heap) (acc : Value), ws.length - i = q → i ≤ ws.length → q < k → Ext H0 H1 → Is H1 u ws → Apart H1 u acc → Hw H1 acc (hs ++ ((ws.take i).filter fun w => wi w 0 5).map fun w => ((v : Int), w)) → New H0 acc → ∀ (x0 x2 x7 x8 x9 x10 x11 x12 x13 x14 x15 x16 x17 x18 x19 x20 x21 x22 x23 x24 x25 x26 x27 x28 x29 x30 x31 x32 x33 x34 x35 x36 x37 x38 x39 x40 x41 x42 x43 x44 x45 x46 x47 : Value),
    ∃ H' u2, loopN k (runCode Try.prog (lvl Try.prog pk12 m) (loopN m) f39_c1) (f39_k1 (lvl Try.prog pk12 m) (loopN m) K) [x0, (.pointer (some ⟨a, 0, none⟩)), x2, acc, (.int .i64 (v : Nat)), u, (.int .i64 (i : Nat)), x7, x8, x9, x10, x11, x12, x13, x14, x15, x16, x17, x18, x19, x20, x21, x22, x23, x24, x25, x26, x27, x28, x29, x30, x31, x32, x33, x34, x35, x36, x37, x38, x39, x40, x41, x42, x43, x44, x45, x46, x47] H1 = some (u2, H') ∧ Q H' u2 := by
  intro q

  induction q with
  | zero =>
    intro i k H1 acc hr hi hk he hu hap ha hnew
    intros
    obtain ⟨k, rfl⟩ : ∃ n, k = n + 1 := ⟨k - 1, by omega⟩
    obtain rfl : ws.length = i := by omega
    have e : decide (((ws.length : Nat) : Int) < (ws.length : Nat)) = false := by simp
    have hlen := hu.len
    rw [List.take_of_length_le (Nat.le_refl _)] at ha
    rw [loop_succ, f39_b1_eq]
    unfold f39_b1
    simp -implicitDefEqProofs only [r_opt, r_ret, ob_some, ifB_true, iteV_true, iteV_false, r_gdt, r_gdt2, r_gdtf, r_gdtf2, r_gdff, r_gdff2, r_gdft, r_gdft2, r_gdu, r_gdu2, pick_t, pick_f, ext_0, ext_1, x_newB, r_nil, r_fAddr, Nat.zero_add, b_lss, b_leq, b_gtr, b_geq, b_eql, b_neq, u_not, Bool.not_true, Bool.not_false, oneOf_one, oneOf_two, again_normal, again_exit, again_ret, Bool.and_true, hlen, e]
    rw [f39_e1_2_eq]
    unfold f39_e1_2
    simp -implicitDefEqProofs only [r_opt, r_ret, ob_some, ifB_true, iteV_true, iteV_false, r_gdt, r_gdt2, r_gdtf, r_gdtf2, r_gdff, r_gdff2, r_gdft, r_gdft2, r_gdu, r_gdu2, pick_t, pick_f, ext_0, ext_1, x_newB, r_nil, r_fAddr, Nat.zero_add, b_lss, b_leq, b_gtr, b_geq, b_eql, b_neq, u_not, Bool.not_true, Bool.not_false, oneOf_one, oneOf_two, again_normal, again_exit, again_ret, Bool.and_true, b_add]
    exact hK H1 acc he ha hnew ..
  | succ q ih =>
    intro i k H1 acc hr hi hk he hu hap ha hnew
    intros
    obtain ⟨k, rfl⟩ : ∃ n, k = n + 1 := ⟨k - 1, by omega⟩
    have e : decide ((i : Int) < (ws.length : Nat)) = true := decide_eq_true (by omega)
    have e3 : IntKind.i64.wrap ((i : Int) + 1) = ((i + 1 : Nat) : Int) := by rw [wrap_i64 (by omega) (by omega)]; omega
    have hlen := hu.len
    have hxi : ws[i]? = some ws[i] := List.getElem?_eq_getElem (by omega)
    obtain ⟨b, o, g1, g2, g3⟩ := hu.at_ inC_len hxi .i64
    have l1 : ld1 (.pointer (some ⟨b, o, none⟩)) H1 = some (.int .i64 ws[i], H1) := (g3 H1 rfl).2.1 0 _ rfl
    have htake : ws.take (i + 1) = ws.take i ++ [ws[i]] := by rw [List.take_add_one, hxi]; rfl
    have hfl : ((ws.take i).filter fun w => wi w 0 5).length ≤ (ws.filter fun w => wi w 0 5).length := (List.Sublist.filter _ (List.take_sublist i ws)).length_le
    rw [loop_succ, f39_b1_eq]
    unfold f39_b1
    by_cases c0 : 0 ≤ ws[i]
    · by_cases c1 : ws[i] < 6
      · have c : wi ws[i] 0 5 = true := by unfold wi; rw [decide_eq_true c0, decide_eq_true (by omega)]; rfl
        obtain ⟨acc2, H2, t1, t2, t3, t4, t5, t6⟩ := ha.push2 (by' := 16) edC_len edC_all (by decide) ((v : Int), ws[i]) hnew he (roomy_mono (n := 1000000) (by decide) (by simp only [List.length_append, List.length_map]; omega))
        simp -implicitDefEqProofs only [r_opt, r_ret, ob_some, ifB_true, iteV_true, iteV_false, r_gdt, r_gdt2, r_gdtf, r_gdtf2, r_gdff, r_gdff2, r_gdft, r_gdft2, r_gdu, r_gdu2, pick_t, pick_f, ext_0, ext_1, x_newB, r_nil, r_fAddr, Nat.zero_add, b_lss, b_leq, b_gtr, b_geq, b_eql, b_neq, u_not, Bool.not_true, Bool.not_false, oneOf_one, oneOf_two, again_normal, again_exit, again_ret, Bool.and_true, hlen, e, g1, l1, c0, c1, decide_true, bHop, bldHop, t1, b_add, e3]
        refine ih (i + 1) k H2 acc2 (by omega) (by omega) (by omega) t4 (hu.apart hap t5) (hap.up t5 t6) ?_ t3 ..
        have : ([ws[i]].filter fun w => wi w 0 5) = [ws[i]] := by rw [List.filter_cons, if_pos c]; rfl
        rw [htake, List.filter_append, List.map_append, ← List.append_assoc, this]
        exact t2
      · have c : ¬ wi ws[i] 0 5 = true := by unfold wi; rw [decide_eq_false (show ¬ ws[i] ≤ 5 by omega)]; simp
        simp -implicitDefEqProofs only [r_opt, r_ret, ob_some, ifB_true, iteV_true, iteV_false, r_gdt, r_gdt2, r_gdtf, r_gdtf2, r_gdff, r_gdff2, r_gdft, r_gdft2, r_gdu, r_gdu2, pick_t, pick_f, ext_0, ext_1, x_newB, r_nil, r_fAddr, Nat.zero_add, b_lss, b_leq, b_gtr, b_geq, b_eql, b_neq, u_not, Bool.not_true, Bool.not_false, oneOf_one, oneOf_two, again_normal, again_exit, again_ret, Bool.and_true, hlen, e, g1, l1, c0, c1, decide_true, decide_false, b_add, e3]
        refine ih (i + 1) k H1 acc (by omega) (by omega) (by omega) he hu hap ?_ hnew ..
        have : ([ws[i]].filter fun w => wi w 0 5) = [] := by rw [List.filter_cons, if_neg c]; rfl
        rw [htake, List.filter_append, this, List.append_nil]
        exact ha
    · have c : ¬ wi ws[i] 0 5 = true := by unfold wi; rw [decide_eq_false c0]; simp
      simp -implicitDefEqProofs only [r_opt, r_ret, ob_some, ifB_true, iteV_true, iteV_false, r_gdt, r_gdt2, r_gdtf, r_gdtf2, r_gdff, r_gdff2, r_gdft, r_gdft2, r_gdu, r_gdu2, pick_t, pick_f, ext_0, ext_1, x_newB, r_nil, r_fAddr, Nat.zero_add, b_lss, b_leq, b_gtr, b_geq, b_eql, b_neq, u_not, Bool.not_true, Bool.not_false, oneOf_one, oneOf_two, again_normal, again_exit, again_ret, Bool.and_true, hlen, e, g1, l1, c0, decide_false, b_add, e3]
      refine ih (i + 1) k H1 acc (by omega) (by omega) (by omega) he hu hap ?_ hnew ..
      have : ([ws[i]].filter fun w => wi w 0 5) = [] := by rw [List.filter_cons, if_neg c]; rfl
      rw [htake, List.filter_append, this, List.append_nil]
      exact ha
theorem rhops_loop0 {H0 : Heap} {a : Nat} (hp : PV H0 p ev wv nv) (hn : p.edges.length + 70 < m) (hm : m ≤ 72057594037927936) : ∀ (q i k : Nat) (H1 : Heap) (acc : Value), (hopN p) - i = q → i ≤ (hopN p) → q < k → Ext H0 H1 → H0[a]? = some (plB p ev wv nv) → Hw H1 acc ((List.range i).flatMap (hopAt p.edges)) → New H0 acc → ∀ (x0 x2 x5 x6 x7 x8 x9 x10 x11 x12 x13 x14 x15 x16 x17 x18 x19 x20 x21 x22 x23 x24 x25 x26 x27 x28 x29 x30 x31 x32 x33 x34 x35 x36 x37 x38 x39 x40 x41 x42 x43 x44 x45 x46 x47 : Value),
    ∃ H' u2, loopN k (runCode Try.prog (lvl Try.prog pk12 m) (loopN m) f39_c0) (f39_k0 (lvl Try.prog pk12 m) (loopN m)) [x0, (.pointer (some ⟨a, 0, none⟩)), x2, acc, (.int .i64 (i : Nat)), x5, x6, x7, x8, x9, x10, x11, x12, x13, x14, x15, x16, x17, x18, x19, x20, x21, x22, x23, x24, x25, x26, x27, x28, x29, x30, x31, x32, x33, x34, x35, x36, x37, x38, x39, x40, x41, x42, x43, x44, x45, x46, x47] H1 = some (u2, H') ∧ Ext H0 H' ∧ Hw H' u2 (hopsOf p) ∧ New H0 u2 := by
  intro q
  have h6 : hopN p ≤ 6 := by unfold hopN; omega
  induction q with
  | zero =>
    intro i k H1 acc hr hi hk he hb0 ha hnew
    intros
    obtain ⟨k, rfl⟩ : ∃ n, k = n + 1 := ⟨k - 1, by omega⟩
    obtain rfl : (hopN p) = i := by omega
    have e : decide ((((hopN p) : Nat) : Int) < ((hopN p) : Nat)) = false := by simp
    have hb := ld_of hb0 he
    have l0 := ld_pl hb 0 _ rfl
    refine ⟨H1, acc, ?_, he, ha, hnew⟩
    rw [loop_succ, f39_b0_eq]
    unfold f39_b0
    by_cases c : (hopN p : Int) < p.nodes
    · have c2 : decide ((hopN p : Int) < 6) = false := decide_eq_false (by unfold hopN at *; omega)
      simp -implicitDefEqProofs only [r_opt, r_ret, ob_some, ifB_true, iteV_true, iteV_false, r_gdt, r_gdt2, r_gdtf, r_gdtf2, r_gdff, r_gdff2, r_gdft, r_gdft2, r_gdu, r_gdu2, pick_t, pick_f, ext_0, ext_1, x_newB, r_nil, r_fAddr, Nat.zero_add, b_lss, b_leq, b_gtr, b_geq, b_eql, b_neq, u_not, Bool.not_true, Bool.not_false, oneOf_one, oneOf_two, again_normal, again_exit, again_ret, Bool.and_true, l0, c, decide_true, c2]
      rw [f39_e0_0_eq]
      rfl
    · simp -implicitDefEqProofs only [r_opt, r_ret, ob_some, ifB_true, iteV_true, iteV_false, r_gdt, r_gdt2, r_gdtf, r_gdtf2, r_gdff, r_gdff2, r_gdft, r_gdft2, r_gdu, r_gdu2, pick_t, pick_f, ext_0, ext_1, x_newB, r_nil, r_fAddr, Nat.zero_add, b_lss, b_leq, b_gtr, b_geq, b_eql, b_neq, u_not, Bool.not_true, Bool.not_false, oneOf_one, oneOf_two, again_normal, again_exit, again_ret, Bool.and_true, l0, c, decide_false]
      rw [f39_e0_0_eq]
      rfl
  | succ q ih =>
    intro i k H1 acc hr hi hk he hb0 ha hnew
    intros
    obtain ⟨k, rfl⟩ : ∃ n, k = n + 1 := ⟨k - 1, by omega⟩
    have e : decide ((i : Int) < ((hopN p) : Nat)) = true := decide_eq_true (by omega)
    have e3 : IntKind.i64.wrap ((i : Int) + 1) = ((i + 1 : Nat) : Int) := by rw [wrap_i64 (by omega) (by omega)]; omega
    have hb := ld_of hb0 he
    have l0 := ld_pl hb 0 _ rfl
    have l11 := ld_pl11 hb
    obtain ⟨H2, u, g1, g2, g3, g4⟩ := rbes_is (hp.ext he) (m := m) (by omega) (by omega) (i : Int)
    have hble := bes_le p.edges (i : Int)
    have hol := flat_bound p.edges i
    have hff := filt_few _ (bes_pw p.edges (i : Int))
    have hL := hp.be
    have hap : Apart H2 u acc := fun b hb => ⟨g3.lt hb, fun hc => by have := g4 b hb; have := ha.lt hc; omega⟩
    have ha2 : Hw H2 acc ((List.range i).flatMap (hopAt p.edges)) := ha.keep fun b hb => g2.2 b (ha.lt hb) id
    have c1 : decide ((i : Int) < p.nodes) = true := decide_eq_true (by unfold hopN at hr; omega)
    have c2 : decide ((i : Int) < 6) = true := decide_eq_true (by omega)
    rw [loop_succ, f39_b0_eq]
    unfold f39_b0
    simp -implicitDefEqProofs only [r_opt, r_ret, ob_some, ifB_true, iteV_true, iteV_false, r_gdt, r_gdt2, r_gdtf, r_gdtf2, r_gdff, r_gdff2, r_gdft, r_gdft2, r_gdu, r_gdu2, pick_t, pick_f, ext_0, ext_1, x_newB, r_nil, r_fAddr, Nat.zero_add, b_lss, b_leq, b_gtr, b_geq, b_eql, b_neq, u_not, Bool.not_true, Bool.not_false, oneOf_one, oneOf_two, again_normal, again_exit, again_ret, Bool.and_true, l0, c1, c2, l11, g1]
    refine rhops_loop1 (H0 := H0) (a := a) (v := i) (ws := bes p.edges (i : Int)) (hs := (List.range i).flatMap (hopAt p.edges)) (Q := fun H' u2 => Ext H0 H' ∧ Hw H' u2 (hopsOf p) ∧ New H0 u2) (by omega) (by omega) (by omega) ?_ (bes p.edges (i : Int)).length 0 m H2 acc (by omega) (by omega) (by omega) (he.tr g2) g3.rs hap (by simpa using ha2) hnew ..
    intro H3 acc3 k1 k2 k3
    intros
    rw [again_normal, e3]
    refine ih (i + 1) k H3 acc3 (by omega) (by omega) (by omega) k1 hb0 ?_ k3 ..
    rw [List.range_succ, List.flatMap_append]
    simpa [hopAt] using k2

theorem rhops_is (hp : PV H p ev wv nv) (hn : p.edges.length + 80 < m) (hm : m ≤ 72057594037927936) : ∃ H' u, lvl Try.prog pk12 m (.func 39) [plV p ev wv nv] H = some (u, H') ∧ Ext H H' ∧ Hw H' u (hopsOf p) ∧ New H u := by
  have h1 := hp.be
  have h2 := hp.bw
  have h3 := hp.bn
  obtain ⟨H0, hH0⟩ : ∃ H0, H0 = H ++ [plB p ev wv nv] := ⟨_, rfl⟩
  have x0 : Ext H H0 := by rw [hH0]; exact Fr.app _ _ _
  have b0 : H0[H.length]? = some (plB p ev wv nv) := by rw [hH0]; exact at_last _ _
  have h6 : hopN p ≤ 6 := by unfold hopN; omega
  obtain ⟨H', u, g1, g2, g3, g4⟩ : ∃ H' u, lvl Try.prog pk12 m (.func 39) [plV p ev wv nv] H = some (u, H') ∧ Ext H0 H' ∧ Hw H' u (hopsOf p) ∧ New H0 u := by
    refine lvl_ex (pk_no rfl rfl) (by omega) ?_
    rw [f39_eq]
    unfold f39
    simp -implicitDefEqProofs only [r_opt, r_ret, ob_some, ifB_true, iteV_true, iteV_false, r_gdt, r_gdt2, r_gdtf, r_gdtf2, r_gdff, r_gdff2, r_gdft, r_gdft2, r_gdu, r_gdu2, pick_t, pick_f, ext_0, ext_1, x_newB, r_nil, r_fAddr, Nat.zero_add, b_lss, b_leq, b_gtr, b_geq, b_eql, b_neq, u_not, Bool.not_true, Bool.not_false, oneOf_one, oneOf_two, again_normal, again_exit, again_ret, Bool.and_true, plV_cells, ← hH0]
    exact rhops_loop0 (hp.ext x0) (m := m - 1) (by omega) (by omega) (hopN p) 0 (m - 1) H0 _ (by omega) (by omega) (by omega) (Fr.refl _ _) b0 (Rw.nil (el := edC)) (New.nil _) ..
  exact ⟨H', u, g1, x0.tr g2, g3, fun b hb => Nat.le_trans x0.1 (g4 b hb)⟩

end

end Go.Proofs.Ytdobnaldfmpimaa
