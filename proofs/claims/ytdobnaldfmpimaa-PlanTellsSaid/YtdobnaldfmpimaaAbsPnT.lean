/-
  PLAN: PlanTells answers true; a plan that came in.
-/
import Derived.Test.YtdobnaldfmpimaaAbsPn9
import Derived.Test.YtdobnaldfmpimaaAbsPnArg
set_option linter.unusedSectionVars false
set_option linter.unusedSimpArgs false
set_option linter.unusedVariables false
set_option maxRecDepth 100000
namespace Go.Proofs.Ytdobnaldfmpimaa
open Go.Abs

section
variable {H : Heap} {m : Nat} {p : PlanD} {ev wv nv : Value}

theorem heavy_loop {a : Nat} (hp : Rows H nv p.next) (hb : H[a]? = some (plB p ev wv nv)) (hl : p.next.length ≤ 17592186043000) : ∀ (q i k : Nat) (z : Int), p.next.length - i = q → i ≤ p.next.length → q < k → ∀ (x0 x2 x5 x6 x7 x8 x9 x10 x11 x12 x13 x14 x15 x16 x17 x18 x19 x20 x21 x22 x23 x24 x25 x26 x27 x28 : Value),
    ∃ z', loopN k (runCode Try.prog (lvl Try.prog pk12 m) (loopN m) f20_c0) (f20_k0 (lvl Try.prog pk12 m) (loopN m)) [x0, (.pointer (some ⟨a, 0, none⟩)), x2, (.int .i64 z), (.int .i64 (i : Nat)), x5, x6, x7, x8, x9, x10, x11, x12, x13, x14, x15, x16, x17, x18, x19, x20, x21, x22, x23, x24, x25, x26, x27, x28] H = some (.int .i64 z', H) := by
  intro q
  have l10 := ld_pl hb 10 _ rfl
  have hlen := hp.len
  induction q with
  | zero =>
    intro i k z hr hi hk
    intros
    obtain ⟨k, rfl⟩ : ∃ n, k = n + 1 := ⟨k - 1, by omega⟩
    have e : decide ((i : Int) < (p.next.length : Nat)) = false := decide_eq_false (by omega)
    rw [loop_succ, f20_b0_eq]
    unfold f20_b0
    simp -implicitDefEqProofs only [r_opt, r_ret, ob_some, ifB_true, iteV_true, iteV_false, r_gdt, r_gdt2, r_gdtf, r_gdtf2, r_gdff, r_gdff2, r_gdft, r_gdft2, r_gdu, r_gdu2, pick_t, pick_f, ext_0, ext_1, x_newB, r_nil, r_fAddr, Nat.zero_add, b_lss, b_leq, b_gtr, b_geq, b_eql, b_neq, u_not, Bool.not_true, Bool.not_false, oneOf_one, oneOf_two, again_normal, again_exit, again_ret, Bool.and_true, l10, hlen, e]
    rw [f20_e0_0_eq]
    unfold f20_e0_0
    exact ⟨z, rfl⟩
  | succ q ih =>
    intro i k z hr hi hk
    intros
    obtain ⟨k, rfl⟩ : ∃ n, k = n + 1 := ⟨k - 1, by omega⟩
    have e : decide ((i : Int) < (p.next.length : Nat)) = true := decide_eq_true (by omega)
    have e3 : IntKind.i64.wrap ((i : Int) + 1) = ((i + 1 : Nat) : Int) := by rw [wrap_i64 (by omega) (by omega)]; omega
    obtain ⟨xs, hxs⟩ : ∃ xs, p.next[i]? = some xs := ⟨_, List.getElem?_eq_getElem (by omega)⟩
    obtain ⟨a0, u, g1, g2, g3⟩ := hp.at_ hxs .i64
    have hx := g3.len
    rw [loop_succ, f20_b0_eq]
    unfold f20_b0
    simp -implicitDefEqProofs only [r_opt, r_ret, ob_some, ifB_true, iteV_true, iteV_false, r_gdt, r_gdt2, r_gdtf, r_gdtf2, r_gdff, r_gdff2, r_gdft, r_gdft2, r_gdu, r_gdu2, pick_t, pick_f, ext_0, ext_1, x_newB, r_nil, r_fAddr, Nat.zero_add, b_lss, b_leq, b_gtr, b_geq, b_eql, b_neq, u_not, Bool.not_true, Bool.not_false, oneOf_one, oneOf_two, again_normal, again_exit, again_ret, Bool.and_true, l10, hlen, e, g1, g2, hx, b_add, e3]
    exact ih (i + 1) k _ (by omega) (by omega) (by omega) ..

theorem heavy_is (hp : PV H p ev wv nv) (hm : 17592186045000 < m) : ∃ z, lvl Try.prog pk12 m (.func 20) [plV p ev wv nv] H = some (.int .i64 z, H ++ [plB p ev wv nv]) := by
  obtain ⟨H0, hH0⟩ : ∃ H0, H0 = H ++ [plB p ev wv nv] := ⟨_, rfl⟩
  have x0 : Ext H H0 := by rw [hH0]; exact Fr.app _ _ _
  have b0 : H0[H.length]? = some (plB p ev wv nv) := by rw [hH0]; exact at_last _ _
  have p0 := hp.ext x0
  have l1 := ld_pl b0 1 _ rfl
  have l8 := ld_pl b0 8 _ rfl
  have n1 := p0.e.len
  have n8 := p0.w.len
  have hb := hp.bn
  obtain ⟨m, rfl⟩ : ∃ n, m = n + 1 := ⟨m - 1, by omega⟩
  rw [lvl_body (pk_no rfl rfl), f20_eq]
  unfold f20
  simp -implicitDefEqProofs only [r_opt, r_ret, ob_some, ifB_true, iteV_true, iteV_false, r_gdt, r_gdt2, r_gdtf, r_gdtf2, r_gdff, r_gdff2, r_gdft, r_gdft2, r_gdu, r_gdu2, pick_t, pick_f, ext_0, ext_1, x_newB, r_nil, r_fAddr, Nat.zero_add, b_lss, b_leq, b_gtr, b_geq, b_eql, b_neq, u_not, Bool.not_true, Bool.not_false, oneOf_one, oneOf_two, again_normal, again_exit, again_ret, Bool.and_true, plV_cells, ← hH0, l1, n1, l8, n8, b_add]
  exact heavy_loop p0.n b0 hp.bn p.next.length 0 m _ (by omega) (by omega) (by omega) ..

theorem planTells_true (hp : PV H p ev wv nv) (v w : Int) : ∃ H', lvl Try.prog pk12 18014398509481984 (.func 6) [plV p ev wv nv, .int .i64 v, .int .i64 w] H = some (.bool true, H') ∧ True := by
  obtain ⟨H0, hH0⟩ : ∃ H0, H0 = H ++ [plB p ev wv nv] := ⟨_, rfl⟩
  have x0 : Ext H H0 := by rw [hH0]; exact Fr.app _ _ _
  have b0 : H0[H.length]? = some (plB p ev wv nv) := by rw [hH0]; exact at_last _ _
  have p0 := hp.ext x0
  have l11 := ld_pl11 b0
  obtain ⟨z, hz⟩ := heavy_is p0 (m := 18014398509481984 - 1) (by omega)
  obtain ⟨H1, hH1⟩ : ∃ H1, H1 = H0 ++ [plB p ev wv nv] := ⟨_, rfl⟩
  rw [← hH1] at hz
  have x1 : Ext H0 H1 := by rw [hH1]; exact Fr.app _ _ _
  have hk := fun H => known12_is (18014398509481984 - 1) (by omega) H
  have l12 := ld_pl11 (ld_of b0 x1)
  obtain ⟨H2, g2, _⟩ := tells_is (p0.ext x1) v w (m := 18014398509481984 - 1) (by omega) (by omega)
  refine lvl_ex1 (pk_no rfl rfl) (by omega) ?_
  rw [f6_eq]
  unfold f6
  cases hc : decide (500 < z) with
  | true =>
    simp -implicitDefEqProofs only [r_opt, r_ret, ob_some, ifB_true, iteV_true, iteV_false, r_gdt, r_gdt2, r_gdtf, r_gdtf2, r_gdff, r_gdff2, r_gdft, r_gdft2, r_gdu, r_gdu2, pick_t, pick_f, ext_0, ext_1, x_newB, r_nil, r_fAddr, Nat.zero_add, b_lss, b_leq, b_gtr, b_geq, b_eql, b_neq, u_not, Bool.not_true, Bool.not_false, oneOf_one, oneOf_two, again_normal, again_exit, again_ret, Bool.and_true, plV_cells, ← hH0, l11, hz, hc, hk]
    exact ⟨_, rfl, trivial⟩
  | false =>
    simp -implicitDefEqProofs only [r_opt, r_ret, ob_some, ifB_true, iteV_true, iteV_false, r_gdt, r_gdt2, r_gdtf, r_gdtf2, r_gdff, r_gdff2, r_gdft, r_gdft2, r_gdu, r_gdu2, pick_t, pick_f, ext_0, ext_1, x_newB, r_nil, r_fAddr, Nat.zero_add, b_lss, b_leq, b_gtr, b_geq, b_eql, b_neq, u_not, Bool.not_true, Bool.not_false, oneOf_one, oneOf_two, again_normal, again_exit, again_ret, Bool.and_true, plV_cells, ← hH0, l11, hz, hc, hk, l12, g2]
    exact ⟨_, rfl, trivial⟩
end

/-! ### a plan that came in -/
def intOf (r : List Value) : Int := match r with
  | [.int _ i] => i
  | _ => 0
def edOf (r : List Value) : Ed := match r with
  | [.int _ i, .int _ j] => (i, j)
  | _ => (0, 0)
theorem Sl.rs' {α : Type} {el : α → List Value} {e : TypeId} {sz b : Nat} {G : Heap} {u : Value} {xs : List α} (hsz : ∀ x, (el x).length = sz) (h2 : Sl G u sz b (xs.map el)) (h4 : u = .slice none 0 0 ∨ ∃ c, u = .slice (some ⟨c, 0, none⟩) xs.length xs.length) : Rs el e G u xs := by
  rcases h4 with rfl | ⟨c, rfl⟩
  · have h0 : xs = [] := by
      have := h2.len
      have hl : lenSl (Value.slice none 0 0) = some (.int .i64 0) := rfl
      rw [hl] at this
      simp at this
      exact List.length_eq_zero_iff.mp (by omega)
    subst h0
    exact .inl ⟨rfl, rfl⟩
  · exact h2.rs hsz (c := c) (.inr rfl)
theorem ints_of {G : Heap} {n : Nat} {u : Value} (h : Rp Try.prog G n 24 [u]) : ∃ xs, Is G u xs ∧ xs.length ≤ 17592186044500 := by
  obtain ⟨m, u', b, rows, h1, h2, h3, h4, h5⟩ := h.slice' (e := 3) (by kernel_rfl)
  cases h1
  have hb : Try.prog.bytesOf 3 = 8 := by kernel_rfl
  rw [szI] at h2
  rw [hb] at h3
  have hm : (rows.map intOf).map inC = rows := by
    rw [List.map_map]
    conv => rhs; rw [← List.map_id rows]
    refine List.map_congr_left fun r hr => ?_
    obtain ⟨i, hi, hw⟩ := (h5 r hr).2.int (k := .i64) (by kernel_rfl)
    subst hi
    rfl
  refine ⟨rows.map intOf, Sl.rs' inC_len (by rw [hm]; exact h2) (by rw [List.length_map]; exact h4), ?_⟩
  have : reachBytes = 140737488351232 := rfl
  rw [List.length_map]
  omega
theorem edges_of {G : Heap} {n : Nat} {u : Value} (h : Rp Try.prog G n 23 [u]) : ∃ xs, Es G u xs ∧ xs.length ≤ 17592186043000 := by
  obtain ⟨m, u', b, rows, h1, h2, h3, h4, h5⟩ := h.slice' (e := 33) (by kernel_rfl)
  cases h1
  have hb : Try.prog.bytesOf 33 = 16 := by kernel_rfl
  rw [szEdge] at h2
  rw [hb] at h3
  have hf : fieldsOf Try.prog 33 = some [(3, 0), (3, 1)] := by kernel_rfl
  have hm : (rows.map edOf).map edC = rows := by
    rw [List.map_map]
    conv => rhs; rw [← List.map_id rows]
    refine List.map_congr_left fun r hr => ?_
    obtain ⟨n, hl, hh⟩ := (h5 r hr).2.fields hf
    rw [szEdge] at hl
    match r, hl with
    | [x, y], _ =>
      have f0 := hh (3, 0) (by simp)
      have f1 := hh (3, 1) (by simp)
      simp only [szI, List.drop_zero, List.drop_succ_cons, List.take_succ_cons, List.take_zero] at f0 f1
      obtain ⟨i, hi, _⟩ := f0.int (k := .i64) (by kernel_rfl)
      obtain ⟨j, hj, _⟩ := f1.int (k := .i64) (by kernel_rfl)
      cases hi
      cases hj
      rfl
  refine ⟨rows.map edOf, Sl.rs' edC_len (by rw [hm]; exact h2) (by rw [List.length_map]; exact h4), ?_⟩
  have : reachBytes = 140737488351232 := rfl
  rw [List.length_map]
  omega
def headOf (r : List Value) : Value := r.headD undef
theorem rows_of {G : Heap} {n : Nat} {u : Value} (h : Rp Try.prog G n 25 [u]) : ∃ xss, Rows G u xss ∧ xss.length ≤ 17592186043000 := by
  obtain ⟨m, u', b, rows, h1, h2, h3, h4, h5⟩ := h.slice' (e := 24) (by kernel_rfl)
  cases h1
  have hb : Try.prog.bytesOf 24 = 24 := by kernel_rfl
  have hc : Try.prog.cellsOf 24 = 1 := by kernel_rfl
  rw [hc] at h2 h5
  rw [hb] at h3
  have hone : ∀ r ∈ rows, vC (headOf r) = r := by
    intro r hr
    match r, (h5 r hr).1 with
    | [x], _ => rfl
  have hm : (rows.map headOf).map vC = rows := by
    rw [List.map_map]
    conv => rhs; rw [← List.map_id rows]
    exact List.map_congr_left hone
  have hex : ∀ r ∈ rows, ∃ xs, Is G (headOf r) xs := fun r hr => by
    have := (h5 r hr).2
    rw [← hone r hr] at this
    obtain ⟨xs, hx, _⟩ := ints_of this
    exact ⟨xs, hx⟩
  classical
  refine ⟨rows.map fun r => if hr : ∃ xs, Is G (headOf r) xs then hr.choose else [], ⟨rows.map headOf, Sl.rs' vC_len (by rw [hm]; exact h2) (by rw [List.length_map]; exact h4), by simp, fun i u xs hu hx => ?_⟩, ?_⟩
  · rw [List.getElem?_map] at hu hx
    obtain ⟨r, hr, rfl⟩ := Option.map_eq_some_iff.mp hu
    rw [hr] at hx
    simp only [Option.map_some, Option.some.injEq] at hx
    have he := hex r (List.mem_of_getElem? hr)
    rw [dif_pos he] at hx
    subst hx
    exact he.choose_spec
  · have : reachBytes = 140737488351232 := rfl
    rw [List.length_map]
    omega

theorem plan_of {G : Heap} {n : Nat} {cs : List Value} (h : Rp Try.prog G n 27 cs) : ∃ p ev wv nv, Value.agg ⟨cs⟩ = plV p ev wv nv ∧ PV G p ev wv nv := by
  have hf : fieldsOf Try.prog 27 = some [(3, 0), (23, 1), (3, 2), (3, 3), (3, 4), (3, 5), (3, 6), (3, 7), (24, 8), (22, 9), (25, 10)] := by kernel_rfl
  have c0 : Try.prog.cellsOf 27 = 11 := by kernel_rfl
  have c1 : Try.prog.cellsOf 23 = 1 := by kernel_rfl
  have c2 : Try.prog.cellsOf 24 = 1 := by kernel_rfl
  have c3 : Try.prog.cellsOf 22 = 1 := by kernel_rfl
  have c4 : Try.prog.cellsOf 25 = 1 := by kernel_rfl
  obtain ⟨m, hl, hh⟩ := h.fields hf
  rw [c0] at hl
  match cs, hl with
  | [x0, x1, x2, x3, x4, x5, x6, x7, x8, x9, x10], _ =>
    have f0 := hh (3, 0) (by simp)
    have f1 := hh (23, 1) (by simp)
    have f2 := hh (3, 2) (by simp)
    have f3 := hh (3, 3) (by simp)
    have f4 := hh (3, 4) (by simp)
    have f5 := hh (3, 5) (by simp)
    have f6 := hh (3, 6) (by simp)
    have f7 := hh (3, 7) (by simp)
    have f8 := hh (24, 8) (by simp)
    have f9 := hh (22, 9) (by simp)
    have f10 := hh (25, 10) (by simp)
    simp only [szI, c1, c2, c3, c4, List.drop_zero, List.drop_succ_cons, List.take_succ_cons, List.take_zero] at f0 f1 f2 f3 f4 f5 f6 f7 f8 f9 f10
    obtain ⟨a0, h0, _⟩ := f0.int (k := .i64) (by kernel_rfl)
    obtain ⟨a2, h2, _⟩ := f2.int (k := .i64) (by kernel_rfl)
    obtain ⟨a3, h3, _⟩ := f3.int (k := .i64) (by kernel_rfl)
    obtain ⟨a4, h4, _⟩ := f4.int (k := .i64) (by kernel_rfl)
    obtain ⟨a5, h5, _⟩ := f5.int (k := .i64) (by kernel_rfl)
    obtain ⟨a6, h6, _⟩ := f6.int (k := .i64) (by kernel_rfl)
    obtain ⟨a7, h7, _⟩ := f7.int (k := .i64) (by kernel_rfl)
    obtain ⟨a9, h9, _⟩ := f9.int (k := .u16) (by kernel_rfl)
    cases h0; cases h2; cases h3; cases h4; cases h5; cases h6; cases h7; cases h9
    obtain ⟨E, e1, e2⟩ := edges_of f1
    obtain ⟨W, w1, w2⟩ := ints_of f8
    obtain ⟨N, n1, n2⟩ := rows_of f10
    exact ⟨⟨a0, E, a2, a3, a4, a5, a6, a7, W, a9, N⟩, x1, x8, x10, rfl, e1, w1, n1, e2, w2, n2⟩

end Go.Proofs.Ytdobnaldfmpimaa
