/-
  PLAN: what a plan is here; numbers, edges, wheels' weights: Check.
-/
import Derived.Test.YtdobnaldfmpimaaAbsPn0
import Derived.Test.YtdobnaldfmpimaaAbsRs
set_option linter.unusedSectionVars false
set_option linter.unusedSimpArgs false
set_option linter.unusedVariables false
set_option maxRecDepth 100000
namespace Go.Proofs.Ytdobnaldfmpimaa
open Go.Abs

theorem szI : Try.prog.cellsOf 3 = 1 := by kernel_rfl
theorem szEdge : Try.prog.cellsOf 33 = 2 := by kernel_rfl
abbrev Ed := Int × Int
def edC (e : Ed) : List Value := [.int .i64 e.1, .int .i64 e.2]
theorem edC_len (e : Ed) : (edC e).length = 2 := rfl
theorem edC_all (e : Ed) : allCells (edC e) = true := rfl
def edV (e : Ed) : Value := .agg ⟨edC e⟩
abbrev Is (H : Heap) (v : Value) (xs : List Int) := Rs inC 3 H v xs
abbrev Iw (H : Heap) (v : Value) (xs : List Int) := Rw inC 3 1 H v xs
abbrev Es (H : Heap) (v : Value) (xs : List Ed) := Rs edC 33 H v xs
abbrev Ew (H : Heap) (v : Value) (xs : List Ed) := Rw edC 33 2 H v xs

/-- a slice of slices that may be read -/
def vC (u : Value) : List Value := [u]
theorem vC_len (u : Value) : (vC u).length = 1 := rfl
def Rows (H : Heap) (v : Value) (xss : List (List Int)) : Prop := ∃ us, Rs vC 24 H v us ∧ us.length = xss.length ∧ ∀ (i : Nat) (u : Value) (xs : List Int), us[i]? = some u → xss[i]? = some xs → Is H u xs
theorem Rows.ext {H H' : Heap} {v : Value} {xss : List (List Int)} (h : Rows H v xss) (he : Ext H H') : Rows H' v xss := by
  obtain ⟨us, h1, h2, h3⟩ := h
  exact ⟨us, h1.ext he, h2, fun i u xs hu hx => (h3 i u xs hu hx).ext he⟩
theorem Rows.len {H : Heap} {v : Value} {xss : List (List Int)} (h : Rows H v xss) : lenSl v = some (.int .i64 xss.length) := by
  obtain ⟨us, h1, h2, h3⟩ := h
  rw [h1.len, h2]
theorem Rows.at_ {H : Heap} {v : Value} {xss : List (List Int)} (h : Rows H v xss) {i : Nat} {xs : List Int} (hx : xss[i]? = some xs) (k : IntKind) : ∃ p u, iAddr 1 v (.int k i) = some p ∧ ld1 p H = some (u, H) ∧ Is H u xs := by
  obtain ⟨us, h1, h2, h3⟩ := h
  have hi := (List.getElem?_eq_some_iff.mp hx).1
  have hu : us[i]? = some us[i] := List.getElem?_eq_getElem (by omega)
  obtain ⟨b, o, g1, g2, g3⟩ := h1.at_ vC_len hu k
  have := (g3 H rfl).2.1 0 us[i] rfl
  exact ⟨_, _, g1, this, h3 i _ _ hu hx⟩

structure PlanD where
  nodes : Int
  edges : List Ed
  lanes : Int
  room : Int
  queue : Int
  rounds : Int
  every : Int
  bag : Int
  weights : List Int
  start : Int
  next : List (List Int)
def plC (p : PlanD) (ev wv nv : Value) : List Value := [.int .i64 p.nodes, ev, .int .i64 p.lanes, .int .i64 p.room, .int .i64 p.queue, .int .i64 p.rounds, .int .i64 p.every, .int .i64 p.bag, wv, .int .u16 p.start, nv]
def plV (p : PlanD) (ev wv nv : Value) : Value := .agg ⟨plC p ev wv nv⟩
def plB (p : PlanD) (ev wv nv : Value) : Blk := .cells (plC p ev wv nv) 27 .fix
structure PV (H : Heap) (p : PlanD) (ev wv nv : Value) : Prop where
  e : Es H ev p.edges
  w : Is H wv p.weights
  n : Rows H nv p.next
  be : p.edges.length ≤ 17592186043000
  bw : p.weights.length ≤ 17592186044500
  bn : p.next.length ≤ 17592186043000
theorem PV.ext {H H' : Heap} {p : PlanD} {ev wv nv : Value} (h : PV H p ev wv nv) (he : Ext H H') : PV H' p ev wv nv := ⟨h.e.ext he, h.w.ext he, h.n.ext he, h.be, h.bw, h.bn⟩
theorem plV_cells (p : PlanD) (ev wv nv : Value) : Blk.cells (plV p ev wv nv).cells.toList 27 .fix = plB p ev wv nv := rfl
theorem ld_pl {H : Heap} {b : Nat} {p : PlanD} {ev wv nv : Value} (h : H[b]? = some (plB p ev wv nv)) (j : Nat) (v : Value) (hv : (plC p ev wv nv)[j]? = some v) : ld1 (.pointer (some ⟨b, j, none⟩)) H = some (v, H) := by
  rw [x_ld1, h]
  unfold plB
  rw [x_ldC, hv, x_cell]
theorem ld_pl11 {H : Heap} {b : Nat} {p : PlanD} {ev wv nv : Value} (h : H[b]? = some (plB p ev wv nv)) : ldN 11 (.pointer (some ⟨b, 0, none⟩)) H = some (plV p ev wv nv, H) := by
  rw [x_ldN, h]
  unfold plB
  rw [x_ldNC _ _ _ _ _ (by simp [plC])]
  rfl
theorem at_last (H : Heap) (x : Blk) : (H ++ [x])[H.length]? = some x := by simp
theorem ld_of {H H' : Heap} {b : Nat} {x : Blk} (h : H[b]? = some x) (he : Ext H H') : H'[b]? = some x := by
  rw [he.2 b (List.getElem?_eq_some_iff.mp h).1 id, h]

/-! ### numbers -/
def wi (x lo hi : Int) : Bool := decide (lo ≤ x) && decide (x ≤ hi)
def numOk (p : PlanD) : Bool := wi p.nodes 2 6 && (wi p.lanes 1 3 && (wi p.room 1 8 && (wi p.queue 1 8 && (wi p.rounds 1 4 && (wi p.every 1 8 && wi p.bag 1 64)))))

section
variable {H : Heap} {m : Nat} {p : PlanD} {ev wv nv : Value}

theorem within_is (hm : 0 < m) (x lo hi : Int) (H : Heap) : lvl Try.prog pk12 m (.func 37) [.int .i64 x, .int .i64 lo, .int .i64 hi] H = some (.bool (wi x lo hi), H) := by
  refine lvl_at (pk_no rfl rfl) hm ?_
  rw [f37_eq]
  unfold f37 wi
  by_cases h : lo ≤ x
  · simp -implicitDefEqProofs only [r_opt, r_ret, ob_some, ifB_true, iteV_true, iteV_false, r_gdt, r_gdt2, r_gdtf, r_gdtf2, r_gdff, r_gdff2, r_gdft, r_gdft2, r_gdu, r_gdu2, pick_t, pick_f, ext_0, ext_1, x_newB, r_nil, r_fAddr, Nat.zero_add, b_lss, b_leq, b_gtr, b_geq, b_eql, b_neq, u_not, Bool.not_true, Bool.not_false, oneOf_one, oneOf_two, again_normal, again_exit, again_ret, Bool.and_true, h, decide_true, Bool.true_and]
  · simp -implicitDefEqProofs only [r_opt, r_ret, ob_some, ifB_true, iteV_true, iteV_false, r_gdt, r_gdt2, r_gdtf, r_gdtf2, r_gdff, r_gdff2, r_gdft, r_gdft2, r_gdu, r_gdu2, pick_t, pick_f, ext_0, ext_1, x_newB, r_nil, r_fAddr, Nat.zero_add, b_lss, b_leq, b_gtr, b_geq, b_eql, b_neq, u_not, Bool.not_true, Bool.not_false, oneOf_one, oneOf_two, again_normal, again_exit, again_ret, Bool.and_true, h, decide_false, Bool.false_and]

theorem numbers_is (hm : 1 < m) (p : PlanD) (ev wv nv : Value) : lvl Try.prog pk12 m (.func 33) [plV p ev wv nv] H = some (.bool (numOk p), H ++ [plB p ev wv nv]) := by
  refine lvl_at (pk_no rfl rfl) (by omega) ?_
  have w := fun x lo hi H => within_is (m := m - 1) (by omega) x lo hi H
  have hb := at_last H (plB p ev wv nv)
  have l0 := ld_pl hb 0 _ rfl
  have l2 := ld_pl hb 2 _ rfl
  have l3 := ld_pl hb 3 _ rfl
  have l4 := ld_pl hb 4 _ rfl
  have l5 := ld_pl hb 5 _ rfl
  have l6 := ld_pl hb 6 _ rfl
  have l7 := ld_pl hb 7 _ rfl
  rw [f33_eq]
  unfold f33 numOk
  cases c1 : wi p.nodes 2 6 with
  | false => simp -implicitDefEqProofs only [r_opt, r_ret, ob_some, ifB_true, iteV_true, iteV_false, r_gdt, r_gdt2, r_gdtf, r_gdtf2, r_gdff, r_gdff2, r_gdft, r_gdft2, r_gdu, r_gdu2, pick_t, pick_f, ext_0, ext_1, x_newB, r_nil, r_fAddr, Nat.zero_add, b_lss, b_leq, b_gtr, b_geq, b_eql, b_neq, u_not, Bool.not_true, Bool.not_false, oneOf_one, oneOf_two, again_normal, again_exit, again_ret, Bool.and_true, plV_cells, w, l0, l2, l3, l4, l5, l6, c1, Bool.false_and, Bool.true_and]
  | true =>
      cases c2 : wi p.lanes 1 3 with
      | false => simp -implicitDefEqProofs only [r_opt, r_ret, ob_some, ifB_true, iteV_true, iteV_false, r_gdt, r_gdt2, r_gdtf, r_gdtf2, r_gdff, r_gdff2, r_gdft, r_gdft2, r_gdu, r_gdu2, pick_t, pick_f, ext_0, ext_1, x_newB, r_nil, r_fAddr, Nat.zero_add, b_lss, b_leq, b_gtr, b_geq, b_eql, b_neq, u_not, Bool.not_true, Bool.not_false, oneOf_one, oneOf_two, again_normal, again_exit, again_ret, Bool.and_true, plV_cells, w, l0, l2, l3, l4, l5, l6, c1, c2, Bool.false_and, Bool.true_and]
      | true =>
          cases c3 : wi p.room 1 8 with
          | false => simp -implicitDefEqProofs only [r_opt, r_ret, ob_some, ifB_true, iteV_true, iteV_false, r_gdt, r_gdt2, r_gdtf, r_gdtf2, r_gdff, r_gdff2, r_gdft, r_gdft2, r_gdu, r_gdu2, pick_t, pick_f, ext_0, ext_1, x_newB, r_nil, r_fAddr, Nat.zero_add, b_lss, b_leq, b_gtr, b_geq, b_eql, b_neq, u_not, Bool.not_true, Bool.not_false, oneOf_one, oneOf_two, again_normal, again_exit, again_ret, Bool.and_true, plV_cells, w, l0, l2, l3, l4, l5, l6, c1, c2, c3, Bool.false_and, Bool.true_and]
          | true =>
              cases c4 : wi p.queue 1 8 with
              | false => simp -implicitDefEqProofs only [r_opt, r_ret, ob_some, ifB_true, iteV_true, iteV_false, r_gdt, r_gdt2, r_gdtf, r_gdtf2, r_gdff, r_gdff2, r_gdft, r_gdft2, r_gdu, r_gdu2, pick_t, pick_f, ext_0, ext_1, x_newB, r_nil, r_fAddr, Nat.zero_add, b_lss, b_leq, b_gtr, b_geq, b_eql, b_neq, u_not, Bool.not_true, Bool.not_false, oneOf_one, oneOf_two, again_normal, again_exit, again_ret, Bool.and_true, plV_cells, w, l0, l2, l3, l4, l5, l6, c1, c2, c3, c4, Bool.false_and, Bool.true_and]
              | true =>
                  cases c5 : wi p.rounds 1 4 with
                  | false => simp -implicitDefEqProofs only [r_opt, r_ret, ob_some, ifB_true, iteV_true, iteV_false, r_gdt, r_gdt2, r_gdtf, r_gdtf2, r_gdff, r_gdff2, r_gdft, r_gdft2, r_gdu, r_gdu2, pick_t, pick_f, ext_0, ext_1, x_newB, r_nil, r_fAddr, Nat.zero_add, b_lss, b_leq, b_gtr, b_geq, b_eql, b_neq, u_not, Bool.not_true, Bool.not_false, oneOf_one, oneOf_two, again_normal, again_exit, again_ret, Bool.and_true, plV_cells, w, l0, l2, l3, l4, l5, l6, c1, c2, c3, c4, c5, Bool.false_and, Bool.true_and]
                  | true =>
                      cases c6 : wi p.every 1 8 with
                      | false => simp -implicitDefEqProofs only [r_opt, r_ret, ob_some, ifB_true, iteV_true, iteV_false, r_gdt, r_gdt2, r_gdtf, r_gdtf2, r_gdff, r_gdff2, r_gdft, r_gdft2, r_gdu, r_gdu2, pick_t, pick_f, ext_0, ext_1, x_newB, r_nil, r_fAddr, Nat.zero_add, b_lss, b_leq, b_gtr, b_geq, b_eql, b_neq, u_not, Bool.not_true, Bool.not_false, oneOf_one, oneOf_two, again_normal, again_exit, again_ret, Bool.and_true, plV_cells, w, l0, l2, l3, l4, l5, l6, c1, c2, c3, c4, c5, c6, Bool.false_and, Bool.true_and]
                      | true =>
                          simp -implicitDefEqProofs only [r_opt, r_ret, ob_some, ifB_true, iteV_true, iteV_false, r_gdt, r_gdt2, r_gdtf, r_gdtf2, r_gdff, r_gdff2, r_gdft, r_gdft2, r_gdu, r_gdu2, pick_t, pick_f, ext_0, ext_1, x_newB, r_nil, r_fAddr, Nat.zero_add, b_lss, b_leq, b_gtr, b_geq, b_eql, b_neq, u_not, Bool.not_true, Bool.not_false, oneOf_one, oneOf_two, again_normal, again_exit, again_ret, Bool.and_true, plV_cells, w, l0, l2, l3, l4, l5, l6, l7, c1, c2, c3, c4, c5, c6, Bool.true_and]

/-! ### the first place where something holds -/
def fst (p : Nat → Bool) : Nat → Nat → Int
  | 0, _ => -1
  | q + 1, i => if p i = true then i else fst p q (i + 1)
theorem fst_pos (p : Nat → Bool) : ∀ q i, (0 ≤ fst p q i) ↔ ∃ j, i ≤ j ∧ j < i + q ∧ p j = true
  | 0, i => by simp [fst]; omega
  | q + 1, i => by
    unfold fst
    by_cases h : p i = true
    · rw [if_pos h]
      exact ⟨fun _ => ⟨i, by omega, by omega, h⟩, fun _ => by omega⟩
    · rw [if_neg h, fst_pos p q (i + 1)]
      constructor
      · rintro ⟨j, h1, h2, h3⟩
        exact ⟨j, by omega, by omega, h3⟩
      · rintro ⟨j, h1, h2, h3⟩
        have : j ≠ i := fun hh => h (hh ▸ h3)
        exact ⟨j, by omega, by omega, h3⟩
theorem fst_any (p : Nat → Bool) (n : Nat) : decide (0 ≤ fst p n 0) = (List.range n).any p := by
  rw [Bool.eq_iff_iff, decide_eq_true_iff, fst_pos, List.any_eq_true]
  constructor
  · rintro ⟨j, h1, h2, h3⟩
    exact ⟨j, List.mem_range.mpr (by omega), h3⟩
  · rintro ⟨j, h1, h2⟩
    exact ⟨j, by omega, by have := List.mem_range.mp h1; omega, h2⟩
theorem any_range {α : Type} (xs : List α) (q : α → Bool) (p : Nat → Bool) (h : ∀ i x, xs[i]? = some x → p i = q x) : (List.range xs.length).any p = xs.any q := by
  rw [Bool.eq_iff_iff, List.any_eq_true, List.any_eq_true]
  constructor
  · rintro ⟨i, h1, h2⟩
    have hi := List.mem_range.mp h1
    have hx : xs[i]? = some xs[i] := List.getElem?_eq_getElem hi
    exact ⟨xs[i], List.getElem_mem hi, by rw [← h i _ hx]; exact h2⟩
  · rintro ⟨x, h1, h2⟩
    obtain ⟨i, hi⟩ := List.getElem?_of_mem h1
    exact ⟨i, List.mem_range.mpr (List.getElem?_eq_some_iff.mp hi).1, by rw [h i x hi]; exact h2⟩

theorem ifI_loop {v fv : Value} {n : Nat} (p : Nat → Bool) (hd : ∀ i, i < n → ∃ a u, iAddr 1 v (.int .i64 (i : Nat)) = some a ∧ ld1 a H = some (u, H) ∧ callV (lvl Try.prog pk12 m) fv [u] H = some (.bool (p i), H)) (hn : n ≤ 72057594037927936) : ∀ (q i k : Nat), n - i = q → i ≤ n → q < k → ∀ (x2 x3 x4 x5 x6 x9 x10 x11 x12 x13 x14 x15 x16 x17 x18 : Value),
    loopN k (runCode Try.prog (lvl Try.prog pk12 m) (loopN m) f71_c0) (f71_k0 (lvl Try.prog pk12 m) (loopN m)) [v, fv, x2, x3, x4, x5, x6, (.int .i64 n), (.int .i64 (i : Nat)), x9, x10, x11, x12, x13, x14, x15, x16, x17, x18] H = some (.int .i64 (fst p q i), H) := by
  intro q
  induction q with
  | zero =>
    intro i k hr hi hk
    intros
    obtain ⟨k, rfl⟩ : ∃ n, k = n + 1 := ⟨k - 1, by omega⟩
    obtain rfl : i = n := by omega
    have e : decide ((i : Int) < i) = false := by simp
    rw [loop_succ, f71_b0_eq]
    unfold f71_b0
    simp -implicitDefEqProofs only [r_opt, r_ret, ob_some, ifB_true, iteV_true, iteV_false, r_gdt, r_gdt2, r_gdtf, r_gdtf2, r_gdff, r_gdff2, r_gdft, r_gdft2, r_gdu, r_gdu2, pick_t, pick_f, ext_0, ext_1, x_newB, r_nil, r_fAddr, Nat.zero_add, b_lss, b_leq, b_gtr, b_geq, b_eql, b_neq, u_not, Bool.not_true, Bool.not_false, oneOf_one, oneOf_two, again_normal, again_exit, again_ret, Bool.and_true, e]
    rw [f71_e0_0_eq]
    rfl
  | succ q ih =>
    intro i k hr hi hk
    intros
    obtain ⟨k, rfl⟩ : ∃ n, k = n + 1 := ⟨k - 1, by omega⟩
    have e : decide ((i : Int) < n) = true := by simp; omega
    have e3 : IntKind.i64.wrap ((i : Int) + 1) = ((i + 1 : Nat) : Int) := by rw [wrap_i64 (by omega) (by omega)]; omega
    obtain ⟨a, u, g1, g2, g3⟩ := hd i (by omega)
    rw [loop_succ, f71_b0_eq]
    unfold f71_b0 fst
    cases h : p i with
    | true =>
      rw [h] at g3
      simp -implicitDefEqProofs only [r_opt, r_ret, ob_some, ifB_true, iteV_true, iteV_false, r_gdt, r_gdt2, r_gdtf, r_gdtf2, r_gdff, r_gdff2, r_gdft, r_gdft2, r_gdu, r_gdu2, pick_t, pick_f, ext_0, ext_1, x_newB, r_nil, r_fAddr, Nat.zero_add, b_lss, b_leq, b_gtr, b_geq, b_eql, b_neq, u_not, Bool.not_true, Bool.not_false, oneOf_one, oneOf_two, again_normal, again_exit, again_ret, Bool.and_true, e, g1, g2, g3, if_true]
      rw [f71_r0_eq]
      rfl
    | false =>
      rw [h] at g3
      simp -implicitDefEqProofs only [r_opt, r_ret, ob_some, ifB_true, iteV_true, iteV_false, r_gdt, r_gdt2, r_gdtf, r_gdtf2, r_gdff, r_gdff2, r_gdft, r_gdft2, r_gdu, r_gdu2, pick_t, pick_f, ext_0, ext_1, x_newB, r_nil, r_fAddr, Nat.zero_add, b_lss, b_leq, b_gtr, b_geq, b_eql, b_neq, u_not, Bool.not_true, Bool.not_false, oneOf_one, oneOf_two, again_normal, again_exit, again_ret, Bool.and_true, e, g1, g2, g3, b_add, e3, Bool.false_eq_true, if_false]
      exact ih (i + 1) k (by omega) (by omega) (by omega) ..

theorem cfI_is {v fv : Value} {n : Nat} (p : Nat → Bool) (hl : lenSl v = some (.int .i64 n)) (hn : n + 10 < m) (hm : m ≤ 72057594037927936) (hd : ∀ i, i < n → ∃ a u, iAddr 1 v (.int .i64 (i : Nat)) = some a ∧ ld1 a H = some (u, H) ∧ callV (lvl Try.prog pk12 (m - 1 - 1)) fv [u] H = some (.bool (p i), H)) :
    lvl Try.prog pk12 m (.func 57) [v, fv] H = some (.bool ((List.range n).any p), H) := by
  have g : lvl Try.prog pk12 (m - 1) (.func 71) [v, fv] H = some (.int .i64 (fst p n 0), H) := by
    refine lvl_at (pk_no rfl rfl) (by omega) ?_
    rw [f71_eq]
    unfold f71
    simp -implicitDefEqProofs only [r_opt, r_ret, ob_some, ifB_true, iteV_true, iteV_false, r_gdt, r_gdt2, r_gdtf, r_gdtf2, r_gdff, r_gdff2, r_gdft, r_gdft2, r_gdu, r_gdu2, pick_t, pick_f, ext_0, ext_1, x_newB, r_nil, r_fAddr, Nat.zero_add, b_lss, b_leq, b_gtr, b_geq, b_eql, b_neq, u_not, Bool.not_true, Bool.not_false, oneOf_one, oneOf_two, again_normal, again_exit, again_ret, Bool.and_true, hl]
    exact ifI_loop p hd (by omega) n 0 (m - 1 - 1) (by omega) (by omega) (by omega) ..
  refine lvl_at (pk_no rfl rfl) (by omega) ?_
  rw [f57_eq]
  unfold f57
  simp -implicitDefEqProofs only [r_opt, r_ret, ob_some, ifB_true, iteV_true, iteV_false, r_gdt, r_gdt2, r_gdtf, r_gdtf2, r_gdff, r_gdff2, r_gdft, r_gdft2, r_gdu, r_gdu2, pick_t, pick_f, ext_0, ext_1, x_newB, r_nil, r_fAddr, Nat.zero_add, b_lss, b_leq, b_gtr, b_geq, b_eql, b_neq, u_not, Bool.not_true, Bool.not_false, oneOf_one, oneOf_two, again_normal, again_exit, again_ret, Bool.and_true, g, fst_any]

theorem ifR_loop {v fv : Value} {n : Nat} (p : Nat → Bool) (hd : ∀ i, i < n → ∃ a u, iAddr 1 v (.int .i64 (i : Nat)) = some a ∧ ld1 a H = some (u, H) ∧ callV (lvl Try.prog pk12 m) fv [u] H = some (.bool (p i), H)) (hn : n ≤ 72057594037927936) : ∀ (q i k : Nat), n - i = q → i ≤ n → q < k → ∀ (x2 x3 x4 x5 x6 x9 x10 x11 x12 x13 x14 x15 x16 x17 x18 : Value),
    loopN k (runCode Try.prog (lvl Try.prog pk12 m) (loopN m) f59_c0) (f59_k0 (lvl Try.prog pk12 m) (loopN m)) [v, fv, x2, x3, x4, x5, x6, (.int .i64 n), (.int .i64 (i : Nat)), x9, x10, x11, x12, x13, x14, x15, x16, x17, x18] H = some (.int .i64 (fst p q i), H) := by
  intro q
  induction q with
  | zero =>
    intro i k hr hi hk
    intros
    obtain ⟨k, rfl⟩ : ∃ n, k = n + 1 := ⟨k - 1, by omega⟩
    obtain rfl : i = n := by omega
    have e : decide ((i : Int) < i) = false := by simp
    rw [loop_succ, f59_b0_eq]
    unfold f59_b0
    simp -implicitDefEqProofs only [r_opt, r_ret, ob_some, ifB_true, iteV_true, iteV_false, r_gdt, r_gdt2, r_gdtf, r_gdtf2, r_gdff, r_gdff2, r_gdft, r_gdft2, r_gdu, r_gdu2, pick_t, pick_f, ext_0, ext_1, x_newB, r_nil, r_fAddr, Nat.zero_add, b_lss, b_leq, b_gtr, b_geq, b_eql, b_neq, u_not, Bool.not_true, Bool.not_false, oneOf_one, oneOf_two, again_normal, again_exit, again_ret, Bool.and_true, e]
    rw [f59_e0_0_eq]
    rfl
  | succ q ih =>
    intro i k hr hi hk
    intros
    obtain ⟨k, rfl⟩ : ∃ n, k = n + 1 := ⟨k - 1, by omega⟩
    have e : decide ((i : Int) < n) = true := by simp; omega
    have e3 : IntKind.i64.wrap ((i : Int) + 1) = ((i + 1 : Nat) : Int) := by rw [wrap_i64 (by omega) (by omega)]; omega
    obtain ⟨a, u, g1, g2, g3⟩ := hd i (by omega)
    rw [loop_succ, f59_b0_eq]
    unfold f59_b0 fst
    cases h : p i with
    | true =>
      rw [h] at g3
      simp -implicitDefEqProofs only [r_opt, r_ret, ob_some, ifB_true, iteV_true, iteV_false, r_gdt, r_gdt2, r_gdtf, r_gdtf2, r_gdff, r_gdff2, r_gdft, r_gdft2, r_gdu, r_gdu2, pick_t, pick_f, ext_0, ext_1, x_newB, r_nil, r_fAddr, Nat.zero_add, b_lss, b_leq, b_gtr, b_geq, b_eql, b_neq, u_not, Bool.not_true, Bool.not_false, oneOf_one, oneOf_two, again_normal, again_exit, again_ret, Bool.and_true, e, g1, g2, g3, if_true]
      rw [f59_r0_eq]
      rfl
    | false =>
      rw [h] at g3
      simp -implicitDefEqProofs only [r_opt, r_ret, ob_some, ifB_true, iteV_true, iteV_false, r_gdt, r_gdt2, r_gdtf, r_gdtf2, r_gdff, r_gdff2, r_gdft, r_gdft2, r_gdu, r_gdu2, pick_t, pick_f, ext_0, ext_1, x_newB, r_nil, r_fAddr, Nat.zero_add, b_lss, b_leq, b_gtr, b_geq, b_eql, b_neq, u_not, Bool.not_true, Bool.not_false, oneOf_one, oneOf_two, again_normal, again_exit, again_ret, Bool.and_true, e, g1, g2, g3, b_add, e3, Bool.false_eq_true, if_false]
      exact ih (i + 1) k (by omega) (by omega) (by omega) ..

theorem cfR_is {v fv : Value} {n : Nat} (p : Nat → Bool) (hl : lenSl v = some (.int .i64 n)) (hn : n + 10 < m) (hm : m ≤ 72057594037927936) (hd : ∀ i, i < n → ∃ a u, iAddr 1 v (.int .i64 (i : Nat)) = some a ∧ ld1 a H = some (u, H) ∧ callV (lvl Try.prog pk12 (m - 1 - 1)) fv [u] H = some (.bool (p i), H)) :
    lvl Try.prog pk12 m (.func 36) [v, fv] H = some (.bool ((List.range n).any p), H) := by
  have g : lvl Try.prog pk12 (m - 1) (.func 59) [v, fv] H = some (.int .i64 (fst p n 0), H) := by
    refine lvl_at (pk_no rfl rfl) (by omega) ?_
    rw [f59_eq]
    unfold f59
    simp -implicitDefEqProofs only [r_opt, r_ret, ob_some, ifB_true, iteV_true, iteV_false, r_gdt, r_gdt2, r_gdtf, r_gdtf2, r_gdff, r_gdff2, r_gdft, r_gdft2, r_gdu, r_gdu2, pick_t, pick_f, ext_0, ext_1, x_newB, r_nil, r_fAddr, Nat.zero_add, b_lss, b_leq, b_gtr, b_geq, b_eql, b_neq, u_not, Bool.not_true, Bool.not_false, oneOf_one, oneOf_two, again_normal, again_exit, again_ret, Bool.and_true, hl]
    exact ifR_loop p hd (by omega) n 0 (m - 1 - 1) (by omega) (by omega) (by omega) ..
  refine lvl_at (pk_no rfl rfl) (by omega) ?_
  rw [f36_eq]
  unfold f36
  simp -implicitDefEqProofs only [r_opt, r_ret, ob_some, ifB_true, iteV_true, iteV_false, r_gdt, r_gdt2, r_gdtf, r_gdtf2, r_gdff, r_gdff2, r_gdft, r_gdft2, r_gdu, r_gdu2, pick_t, pick_f, ext_0, ext_1, x_newB, r_nil, r_fAddr, Nat.zero_add, b_lss, b_leq, b_gtr, b_geq, b_eql, b_neq, u_not, Bool.not_true, Bool.not_false, oneOf_one, oneOf_two, again_normal, again_exit, again_ret, Bool.and_true, g, fst_any]


theorem eEdge (a b : Ed) : bin Try.prog .eql 33 (edV a) (edV b) = some (.bool (a == b)) := by
  have k : kindsOf Try.prog 33 = some [true, true] := by kernel_rfl
  obtain ⟨a1, a2⟩ := a
  obtain ⟨b1, b2⟩ := b
  simp [bin, edV, flat, eqAny, k, eqT, edC]
  rfl

theorem ixE_loop {v : Value} {xs : List Ed} {a : Nat} {y : Ed} (hx : Es H v xs) (ha : H[a]? = some (.cells (edC y) 33 .fix)) (hn : xs.length ≤ 72057594037927936) : ∀ (q i k : Nat), xs.length - i = q → i ≤ xs.length → q < k → ∀ (x1 x2 x4 x5 x6 x9 x10 x11 x12 x13 x14 x15 x16 x17 x18 : Value),
    loopN k (runCode Try.prog (lvl Try.prog pk12 m) (loopN m) f70_c0) (f70_k0 (lvl Try.prog pk12 m) (loopN m)) [v, x1, x2, (.pointer (some ⟨a, 0, none⟩)), x4, x5, x6, (.int .i64 xs.length), (.int .i64 (i : Nat)), x9, x10, x11, x12, x13, x14, x15, x16, x17, x18] H = some (.int .i64 (fst (fun j => xs[j]? == some y) q i), H) := by
  intro q
  have la : ldN 2 (.pointer (some ⟨a, 0, none⟩)) H = some (edV y, H) := by
    rw [x_ldN, ha, x_ldNC _ _ _ _ _ (by simp [edC])]
    rfl
  induction q with
  | zero =>
    intro i k hr hi hk
    intros
    obtain ⟨k, rfl⟩ : ∃ n, k = n + 1 := ⟨k - 1, by omega⟩
    obtain rfl : i = xs.length := by omega
    have e : decide ((xs.length : Int) < xs.length) = false := by simp
    rw [loop_succ, f70_b0_eq]
    unfold f70_b0
    simp -implicitDefEqProofs only [r_opt, r_ret, ob_some, ifB_true, iteV_true, iteV_false, r_gdt, r_gdt2, r_gdtf, r_gdtf2, r_gdff, r_gdff2, r_gdft, r_gdft2, r_gdu, r_gdu2, pick_t, pick_f, ext_0, ext_1, x_newB, r_nil, r_fAddr, Nat.zero_add, b_lss, b_leq, b_gtr, b_geq, b_eql, b_neq, u_not, Bool.not_true, Bool.not_false, oneOf_one, oneOf_two, again_normal, again_exit, again_ret, Bool.and_true, e]
    rw [f70_e0_0_eq]
    rfl
  | succ q ih =>
    intro i k hr hi hk
    intros
    obtain ⟨k, rfl⟩ : ∃ n, k = n + 1 := ⟨k - 1, by omega⟩
    have e : decide ((i : Int) < xs.length) = true := by simp; omega
    have e3 : IntKind.i64.wrap ((i : Int) + 1) = ((i + 1 : Nat) : Int) := by rw [wrap_i64 (by omega) (by omega)]; omega
    have hxi : xs[i]? = some xs[i] := List.getElem?_eq_getElem (by omega)
    obtain ⟨b, o, g1, g2, g3⟩ := hx.at_ edC_len hxi .i64
    have l1 : ldN 2 (.pointer (some ⟨b, o, none⟩)) H = some (edV xs[i], H) := (g3 H rfl).1
    rw [loop_succ, f70_b0_eq]
    unfold f70_b0 fst
    by_cases h : y = xs[i]
    · have d : (y == xs[i]) = true := by rw [h]; simp
      have d2 : (xs[i]? == some y) = true := by rw [hxi, h]; simp
      simp -implicitDefEqProofs only [r_opt, r_ret, ob_some, ifB_true, iteV_true, iteV_false, r_gdt, r_gdt2, r_gdtf, r_gdtf2, r_gdff, r_gdff2, r_gdft, r_gdft2, r_gdu, r_gdu2, pick_t, pick_f, ext_0, ext_1, x_newB, r_nil, r_fAddr, Nat.zero_add, b_lss, b_leq, b_gtr, b_geq, b_eql, b_neq, u_not, Bool.not_true, Bool.not_false, oneOf_one, oneOf_two, again_normal, again_exit, again_ret, Bool.and_true, e, la, g1, l1, eEdge, d]
      rw [f70_r0_eq, if_pos d2]
      rfl
    · have d : (y == xs[i]) = false := by simpa using h
      have d2 : ¬ (xs[i]? == some y) = true := by rw [hxi]; simpa using fun hh => h hh.symm
      simp -implicitDefEqProofs only [r_opt, r_ret, ob_some, ifB_true, iteV_true, iteV_false, r_gdt, r_gdt2, r_gdtf, r_gdtf2, r_gdff, r_gdff2, r_gdft, r_gdft2, r_gdu, r_gdu2, pick_t, pick_f, ext_0, ext_1, x_newB, r_nil, r_fAddr, Nat.zero_add, b_lss, b_leq, b_gtr, b_geq, b_eql, b_neq, u_not, Bool.not_true, Bool.not_false, oneOf_one, oneOf_two, again_normal, again_exit, again_ret, Bool.and_true, e, la, g1, l1, eEdge, d, b_add, e3]
      rw [if_neg d2]
      exact ih (i + 1) k (by omega) (by omega) (by omega) ..

theorem hasE_is {v : Value} {xs : List Ed} (hx : Es H v xs) (y : Ed) (hn : xs.length + 10 < m) (hm : m ≤ 72057594037927936) : ∃ H', lvl Try.prog pk12 m (.func 55) [v, edV y] H = some (.bool (xs.any fun x => x == y), H') ∧ Ext H H' := by
  have c : Blk.cells (edV y).cells.toList 33 .fix = .cells (edC y) 33 .fix := rfl
  have b0 := at_last H (.cells (edC y) 33 .fix)
  have l0 : ldN 2 (.pointer (some ⟨H.length, 0, none⟩)) (H ++ [.cells (edC y) 33 .fix]) = some (edV y, H ++ [.cells (edC y) 33 .fix]) := by
    rw [x_ldN, b0, x_ldNC _ _ _ _ _ (by simp [edC])]
    rfl
  obtain ⟨H1, hH1⟩ : ∃ H1, H1 = H ++ [Blk.cells (edC y) 33 .fix] := ⟨_, rfl⟩
  have x1 : Ext H H1 := by rw [hH1]; exact Fr.app _ _ _
  have x2 : Ext H (H1 ++ [.cells (edC y) 33 .fix]) := x1.tr (Fr.app _ _ _)
  have hx2 := hx.ext x2
  have hlen := hx.len
  have g : lvl Try.prog pk12 (m - 1) (.func 70) [v, edV y] H1 = some (.int .i64 (fst (fun j => xs[j]? == some y) xs.length 0), H1 ++ [.cells (edC y) 33 .fix]) := by
    refine lvl_at (pk_no rfl rfl) (by omega) ?_
    rw [f70_eq]
    unfold f70
    simp -implicitDefEqProofs only [r_opt, r_ret, ob_some, ifB_true, iteV_true, iteV_false, r_gdt, r_gdt2, r_gdtf, r_gdtf2, r_gdff, r_gdff2, r_gdft, r_gdft2, r_gdu, r_gdu2, pick_t, pick_f, ext_0, ext_1, x_newB, r_nil, r_fAddr, Nat.zero_add, b_lss, b_leq, b_gtr, b_geq, b_eql, b_neq, u_not, Bool.not_true, Bool.not_false, oneOf_one, oneOf_two, again_normal, again_exit, again_ret, Bool.and_true, c, hlen]
    exact ixE_loop hx2 (at_last H1 _) (by omega) xs.length 0 (m - 1 - 1) (by omega) (by omega) (by omega) ..
  refine ⟨_, lvl_at (pk_no rfl rfl) (by omega) ?_, x2⟩
  rw [f55_eq]
  unfold f55
  have hb : decide (0 ≤ fst (fun j => xs[j]? == some y) xs.length 0) = xs.any fun x => x == y := by
    rw [fst_any]
    exact any_range xs _ _ fun i x h => by rw [h]; rfl
  rw [← hH1] at l0
  simp -implicitDefEqProofs only [r_opt, r_ret, ob_some, ifB_true, iteV_true, iteV_false, r_gdt, r_gdt2, r_gdtf, r_gdtf2, r_gdff, r_gdff2, r_gdft, r_gdft2, r_gdu, r_gdu2, pick_t, pick_f, ext_0, ext_1, x_newB, r_nil, r_fAddr, Nat.zero_add, b_lss, b_leq, b_gtr, b_geq, b_eql, b_neq, u_not, Bool.not_true, Bool.not_false, oneOf_one, oneOf_two, again_normal, again_exit, again_ret, Bool.and_true, c, ← hH1, l0, g, hb]

/-! ### edges -/
def edOk (n : Int) : List Ed → List Ed → Bool
  | _, [] => true
  | old, e :: r => (!(decide (e.1 < 0) || (decide (e.2 ≤ e.1) || (decide (n ≤ e.2) || old.any fun x => x == e)))) && edOk n (old ++ [e]) r
def edgesOk (p : PlanD) : Bool := edOk p.nodes [] p.edges && decide ((p.edges.length : Int) ≤ 15)

theorem edges_loop {a : Nat} (hx : Es H ev p.edges) (hn : p.edges.length + 20 < m) (hm : m ≤ 72057594037927936) : ∀ (q i k : Nat) (H' : Heap), p.edges.length - i = q → i ≤ p.edges.length → q < k → Ext H H' → H'[a]? = some (plB p ev wv nv) → ∀ (x0 x3 x4 x5 x9 x10 x11 x12 x13 x14 x15 x16 x17 x18 x19 x20 x21 x22 x23 x24 x25 x26 x27 x28 x29 x30 x31 x32 x33 x34 x35 x36 x37 x38 x39 x40 x41 x42 : Value),
    ∃ H2, loopN k (runCode Try.prog (lvl Try.prog pk12 m) (loopN m) f34_c0) (f34_k0 (lvl Try.prog pk12 m) (loopN m)) [x0, (.pointer (some ⟨a, 0, none⟩)), (.bool false), x3, x4, x5, ev, (.int .i64 p.edges.length), (.int .i64 (i : Nat)), x9, x10, x11, x12, x13, x14, x15, x16, x17, x18, x19, x20, x21, x22, x23, x24, x25, x26, x27, x28, x29, x30, x31, x32, x33, x34, x35, x36, x37, x38, x39, x40, x41, x42] H' = some (.bool (edOk p.nodes (p.edges.take i) (p.edges.drop i) && decide ((p.edges.length : Int) ≤ 15)), H2) ∧ Ext H H2 := by
  intro q
  induction q with
  | zero =>
    intro i k H' hr hi hk he ha
    intros
    obtain ⟨k, rfl⟩ : ∃ n, k = n + 1 := ⟨k - 1, by omega⟩
    obtain rfl : i = p.edges.length := by omega
    have e : decide ((p.edges.length : Int) < p.edges.length) = false := by simp
    have l1 := ld_pl ha 1 _ rfl
    have hlen := hx.len
    refine ⟨H', ?_, he⟩
    rw [loop_succ, f34_b0_eq]
    unfold f34_b0
    simp -implicitDefEqProofs only [r_opt, r_ret, ob_some, ifB_true, iteV_true, iteV_false, r_gdt, r_gdt2, r_gdtf, r_gdtf2, r_gdff, r_gdff2, r_gdft, r_gdft2, r_gdu, r_gdu2, pick_t, pick_f, ext_0, ext_1, x_newB, r_nil, r_fAddr, Nat.zero_add, b_lss, b_leq, b_gtr, b_geq, b_eql, b_neq, u_not, Bool.not_true, Bool.not_false, oneOf_one, oneOf_two, again_normal, again_exit, again_ret, Bool.and_true, e]
    rw [f34_e0_0_eq]
    unfold f34_e0_0
    rw [List.drop_length, edOk, Bool.true_and]
    simp -implicitDefEqProofs only [r_opt, r_ret, ob_some, ifB_true, iteV_true, iteV_false, r_gdt, r_gdt2, r_gdtf, r_gdtf2, r_gdff, r_gdff2, r_gdft, r_gdft2, r_gdu, r_gdu2, pick_t, pick_f, ext_0, ext_1, x_newB, r_nil, r_fAddr, Nat.zero_add, b_lss, b_leq, b_gtr, b_geq, b_eql, b_neq, u_not, Bool.not_true, Bool.not_false, oneOf_one, oneOf_two, again_normal, again_exit, again_ret, Bool.and_true, l1, hlen]
  | succ q ih =>
    intro i k H' hr hi hk he ha
    intros
    obtain ⟨k, rfl⟩ : ∃ n, k = n + 1 := ⟨k - 1, by omega⟩
    have e : decide ((i : Int) < p.edges.length) = true := by simp; omega
    have e3 : IntKind.i64.wrap ((i : Int) + 1) = ((i + 1 : Nat) : Int) := by rw [wrap_i64 (by omega) (by omega)]; omega
    have hxi : p.edges[i]? = some p.edges[i] := List.getElem?_eq_getElem (by omega)
    obtain ⟨b, o, g1, g2, g3⟩ := (hx.ext he).at_ edC_len hxi .i64
    obtain ⟨y, hy⟩ : ∃ y, y = p.edges[i] := ⟨_, rfl⟩
    have l1 : ldN 2 (.pointer (some ⟨b, o, none⟩)) H' = some (edV y, H') := by rw [hy]; exact (g3 H' rfl).1
    have hdrop : p.edges.drop i = y :: p.edges.drop (i + 1) := by rw [hy]; exact List.drop_eq_getElem_cons (by omega)
    have htake : p.edges.take i ++ [y] = p.edges.take (i + 1) := by rw [List.take_add_one, hxi, hy]; rfl
    have z : Blk.cells [Value.int .i64 0, .int .i64 0] 33 .fix = .cells (edC (0, 0)) 33 .fix := rfl
    have st : stN 2 (.pointer (some ⟨H'.length, 0, none⟩)) (edV y) (H' ++ [.cells (edC (0, 0)) 33 .fix]) = some (undef, H' ++ [.cells (edC y) 33 .fix]) := by
      rw [x_stN 2 _ _ _ rfl, at_last, x_stC _ _ _ _ _ _ (by decide) (by simp [edC, edV, Value.cells]) rfl]
      simp [edC, edV, Value.cells, setCells]
    obtain ⟨H1, hH1⟩ : ∃ H1, H1 = H' ++ [Blk.cells (edC y) 33 .fix] := ⟨_, rfl⟩
    rw [← hH1] at st
    have x1 : Ext H' H1 := by rw [hH1]; exact Fr.app _ _ _
    have hb1 : H1[H'.length]? = some (.cells (edC y) 33 .fix) := by rw [hH1]; exact at_last _ _
    have la : ld1 (.pointer (some ⟨H'.length, 0, none⟩)) H1 = some (.int .i64 y.1, H1) := by rw [x_ld1, hb1]; rfl
    have lb : ld1 (.pointer (some ⟨H'.length, 1, none⟩)) H1 = some (.int .i64 y.2, H1) := by rw [x_ld1, hb1]; rfl
    have lab : ldN 2 (.pointer (some ⟨H'.length, 0, none⟩)) H1 = some (edV y, H1) := by
      rw [x_ldN, hb1, x_ldNC _ _ _ _ _ (by simp [edC])]
      rfl
    have ha1 := ld_of ha x1
    have p0 := ld_pl ha1 0 _ rfl
    have p1 := ld_pl ha1 1 _ rfl
    obtain ⟨v', s1, s2, s3⟩ := ((hx.ext he).ext x1).sub (P := Try.prog) edC_len szEdge (fun h => by have := congrArg List.length h; simp only [List.length_nil] at this; omega) (lo := none) rfl (bnd_nat p.edges.length .i64 i) (Nat.zero_le _) (by omega)
    rw [List.drop_zero] at s2
    obtain ⟨H2, t1, t2⟩ := hasE_is s2 y (m := m) (by rw [List.length_take]; omega) hm
    rw [loop_succ, f34_b0_eq, hdrop, edOk, htake]
    unfold f34_b0
    by_cases c1 : y.1 < 0
    · refine ⟨H1, ?_, he.tr x1⟩
      simp -implicitDefEqProofs only [r_opt, r_ret, ob_some, ifB_true, iteV_true, iteV_false, r_gdt, r_gdt2, r_gdtf, r_gdtf2, r_gdff, r_gdff2, r_gdft, r_gdft2, r_gdu, r_gdu2, pick_t, pick_f, ext_0, ext_1, x_newB, r_nil, r_fAddr, Nat.zero_add, b_lss, b_leq, b_gtr, b_geq, b_eql, b_neq, u_not, Bool.not_true, Bool.not_false, oneOf_one, oneOf_two, again_normal, again_exit, again_ret, Bool.and_true, e, g1, l1, z, st, la, lb, c1, decide_true, Bool.true_or, Bool.false_and]
      rw [f34_r0_eq]
      rfl
    · by_cases c2 : y.2 ≤ y.1
      · refine ⟨H1, ?_, he.tr x1⟩
        simp -implicitDefEqProofs only [r_opt, r_ret, ob_some, ifB_true, iteV_true, iteV_false, r_gdt, r_gdt2, r_gdtf, r_gdtf2, r_gdff, r_gdff2, r_gdft, r_gdft2, r_gdu, r_gdu2, pick_t, pick_f, ext_0, ext_1, x_newB, r_nil, r_fAddr, Nat.zero_add, b_lss, b_leq, b_gtr, b_geq, b_eql, b_neq, u_not, Bool.not_true, Bool.not_false, oneOf_one, oneOf_two, again_normal, again_exit, again_ret, Bool.and_true, e, g1, l1, z, st, la, lb, c1, c2, decide_true, decide_false, Bool.false_or, Bool.true_or, Bool.false_and]
        rw [f34_r0_eq]
        rfl
      · by_cases c3 : p.nodes ≤ y.2
        · refine ⟨H1, ?_, he.tr x1⟩
          simp -implicitDefEqProofs only [r_opt, r_ret, ob_some, ifB_true, iteV_true, iteV_false, r_gdt, r_gdt2, r_gdtf, r_gdtf2, r_gdff, r_gdff2, r_gdft, r_gdft2, r_gdu, r_gdu2, pick_t, pick_f, ext_0, ext_1, x_newB, r_nil, r_fAddr, Nat.zero_add, b_lss, b_leq, b_gtr, b_geq, b_eql, b_neq, u_not, Bool.not_true, Bool.not_false, oneOf_one, oneOf_two, again_normal, again_exit, again_ret, Bool.and_true, e, g1, l1, z, st, la, lb, p0, c1, c2, c3, decide_true, decide_false, Bool.false_or, Bool.true_or, Bool.false_and]
          rw [f34_r0_eq]
          rfl
        · cases c4 : (p.edges.take i).any fun x => x == y with
          | true =>
            rw [c4] at t1
            refine ⟨H2, ?_, (he.tr x1).tr t2⟩
            simp -implicitDefEqProofs only [r_opt, r_ret, ob_some, ifB_true, iteV_true, iteV_false, r_gdt, r_gdt2, r_gdtf, r_gdtf2, r_gdff, r_gdff2, r_gdft, r_gdft2, r_gdu, r_gdu2, pick_t, pick_f, ext_0, ext_1, x_newB, r_nil, r_fAddr, Nat.zero_add, b_lss, b_leq, b_gtr, b_geq, b_eql, b_neq, u_not, Bool.not_true, Bool.not_false, oneOf_one, oneOf_two, again_normal, again_exit, again_ret, Bool.and_true, e, g1, l1, z, st, la, lb, lab, p0, p1, s1, t1, c1, c2, c3, decide_true, decide_false, Bool.false_or, Bool.false_and]
            rw [f34_r0_eq]
            rfl
          | false =>
            rw [c4] at t1
            simp -implicitDefEqProofs only [r_opt, r_ret, ob_some, ifB_true, iteV_true, iteV_false, r_gdt, r_gdt2, r_gdtf, r_gdtf2, r_gdff, r_gdff2, r_gdft, r_gdft2, r_gdu, r_gdu2, pick_t, pick_f, ext_0, ext_1, x_newB, r_nil, r_fAddr, Nat.zero_add, b_lss, b_leq, b_gtr, b_geq, b_eql, b_neq, u_not, Bool.not_true, Bool.not_false, oneOf_one, oneOf_two, again_normal, again_exit, again_ret, Bool.and_true, e, g1, l1, z, st, la, lb, lab, p0, p1, s1, t1, c1, c2, c3, decide_false, Bool.false_or, Bool.true_and, b_add, e3]
            exact ih (i + 1) k H2 (by omega) (by omega) (by omega) ((he.tr x1).tr t2) (ld_of ha1 t2) ..

theorem edges_is (hp : PV H p ev wv nv) (hn : p.edges.length + 20 < m - 1) (hm : m ≤ 72057594037927936) : ∃ H', lvl Try.prog pk12 m (.func 34) [plV p ev wv nv] H = some (.bool (edgesOk p), H') ∧ Ext H H' := by
  refine lvl_ex1 (pk_no rfl rfl) (by omega) ?_
  have hb := at_last H (plB p ev wv nv)
  have l1 := ld_pl hb 1 _ rfl
  have hlen := hp.e.len
  rw [f34_eq]
  unfold f34
  simp -implicitDefEqProofs only [r_opt, r_ret, ob_some, ifB_true, iteV_true, iteV_false, r_gdt, r_gdt2, r_gdtf, r_gdtf2, r_gdff, r_gdff2, r_gdft, r_gdft2, r_gdu, r_gdu2, pick_t, pick_f, ext_0, ext_1, x_newB, r_nil, r_fAddr, Nat.zero_add, b_lss, b_leq, b_gtr, b_geq, b_eql, b_neq, u_not, Bool.not_true, Bool.not_false, oneOf_one, oneOf_two, again_normal, again_exit, again_ret, Bool.and_true, plV_cells, l1, hlen]
  exact edges_loop hp.e (m := m - 1) hn (by omega) p.edges.length 0 (m - 1) _ (by omega) (by omega) (by omega) (Fr.app _ _ _) hb ..
end

end Go.Proofs.Ytdobnaldfmpimaa
