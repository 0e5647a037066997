/-
  RINGS: the reference's contracts; what a queue's packets are.
-/
import Derived.Test.YtcmmlgdbpnogjaaAbsRgRoom
import Derived.Test.YtcmmlgdbpnogjaaAbsRw
set_option linter.unusedSectionVars false
set_option linter.unusedSimpArgs false
set_option linter.unusedVariables false
set_option maxRecDepth 100000
namespace Go.Proofs.Ytcmmlgdbpnogjaa
open Go.Abs

abbrev RE := Way × Pkt
def reC (e : RE) : List Value := [.int .i64 e.1.1, .int .i64 e.1.2.1, .int .i64 e.1.2.2, .int .i64 e.2.src, .int .i64 e.2.dst, .int .i64 e.2.lane, .int .u32 e.2.body]
theorem reC_len (e : RE) : (reC e).length = 7 := rfl
theorem reC_all (e : RE) : allCells (reC e) = true := rfl
theorem pkC_len (e : Pkt) : e.cells.length = 4 := rfl
theorem pkC_all (e : Pkt) : allCells e.cells = true := rfl
theorem szEnt : Try.prog.cellsOf 91 = 7 := by kernel_rfl
abbrev Ents (H : Heap) (v : Value) (R : List RE) := Rw reC 91 7 H v R
abbrev Pks (H : Heap) (v : Value) (R : List Pkt) := Rw Pkt.cells 50 4 H v R

structure RRef (H : Heap) (r : Nat) (R : List RE) (n ports lanes : Nat) : Prop where
  row : ∃ v, H[r]? = some (.cells [.int .i64 ports, .int .i64 lanes, .int .i64 n, v] 89 .fix) ∧ Ents H v R

/-- what the reference writes -/
def AE (x : Blk) : Prop := match x with
  | .cells _ e k => (e = 91 ∧ k = .row) ∨ (e = 89 ∧ k = .fix)
  | _ => False

theorem AE_S (x : Blk) (h : AE x) : ¬ AS x := by
  unfold AE at h
  unfold AS AR
  split at h
  · rcases h with ⟨rfl, rfl⟩ | ⟨rfl, rfl⟩ <;> simp
  · exact h.elim

def wf (w : Way) (e : RE) : Bool := decide (e.1 = w)
def fI (w : Way) : List RE → Nat → Int
  | [], _ => -1
  | e :: R, i => if e.1 = w then i else fI w R (i + 1)
def pkR (R : List RE) (w : Way) : List Pkt := (R.filter (wf w)).map (·.2)
def rf (L : List En) : List RE := L.map fun e => (e.1, e.2.2)

theorem pkR_app (R : List RE) (e : RE) (w : Way) : pkR (R ++ [e]) w = if e.1 = w then pkR R w ++ [e.2] else pkR R w := by
  unfold pkR
  by_cases h : e.1 = w
  · have hw : wf w e = true := decide_eq_true h
    rw [List.filter_append, if_pos h, List.filter_cons, hw]
    simp
  · have hw : wf w e = false := decide_eq_false h
    rw [List.filter_append, if_neg h, List.filter_cons, hw]
    simp
theorem pkR_le (R : List RE) (w : Way) : (pkR R w).length ≤ R.length := by
  unfold pkR
  rw [List.length_map]
  exact List.length_filter_le _ _
instance : DecidableEq Pkt := fun x y => decidable_of_iff (pkEq x y = true) (pkEq_iff x y)
theorem pkR_rf (L : List En) (w : Way) : pkR (rf L) w = pkOf L w := by
  unfold pkR rf pkOf
  rw [List.filter_map, List.map_map]
  rfl
theorem rf_pop (L : List En) (w : Way) : rf (popL L w) = (rf L).eraseP (wf w) := by
  induction L with
  | nil => rfl
  | cons e L ih =>
    unfold popL rf at *
    by_cases h : e.1 = w
    · simp [List.eraseP_cons, h, wf]
    · simp [List.eraseP_cons, h, wf, ih]

theorem fI_is (w : Way) : ∀ (R : List RE) (i : Nat), (fI w R i = -1 ∧ pkR R w = [] ∧ R.eraseP (wf w) = R) ∨
    ∃ j e, fI w R i = ((i + j : Nat) : Int) ∧ R[j]? = some e ∧ e.1 = w ∧ (∃ xs, pkR R w = e.2 :: xs) ∧ R.eraseP (wf w) = R.take j ++ R.drop (j + 1)
  | [], i => .inl ⟨rfl, rfl, rfl⟩
  | e :: R, i => by
    by_cases h : e.1 = w
    · refine .inr ⟨0, e, by simp [fI, h], rfl, h, ⟨pkR R w, by simp [pkR, wf, h]⟩, by simp [List.eraseP_cons, wf, h]⟩
    · rcases fI_is w R (i + 1) with ⟨h1, h2, h3⟩ | ⟨j, e', h1, h2, h3, ⟨xs, h4⟩, h5⟩
      · refine .inl ⟨by simp [fI, h, h1], ?_, ?_⟩
        · unfold pkR at *
          simp [wf, h] at *
          exact h2
        · have hw : wf w e = false := by simp [wf, h]
          rw [List.eraseP_cons, hw, h3]
          rfl
      · refine .inr ⟨j + 1, e', ?_, by simpa using h2, h3, ⟨xs, ?_⟩, ?_⟩
        · simp only [fI, h, if_false, h1]
          congr 1
          omega
        · unfold pkR at *
          simp [wf, h] at *
          exact h4
        · have hw : wf w e = false := by simp [wf, h]
          rw [List.eraseP_cons, hw, h5]
          rfl

section
variable {H H' : Heap} {r n ports lanes m : Nat} {R : List RE}

theorem RRef.keep {A : Blk → Prop} (h : RRef H r R n ports lanes) (hc : Ch A H H') (hA : ∀ x, A x → ¬ AE x) : RRef H' r R n ports lanes := by
  obtain ⟨v, h1, h2⟩ := h
  exact ⟨v, hc.2 _ _ h1 fun h => hA _ h (.inr ⟨rfl, rfl⟩), h2.ch hc fun cs h => hA _ h (.inl ⟨rfl, rfl⟩)⟩
theorem RRef.ext (h : RRef H r R n ports lanes) (he : Ext H H') : RRef H' r R n ports lanes := h.keep (A := fun _ => False) (Ch.ext he) fun _ h => h.elim

theorem first_loop {v : Value} (hd : H[r]? = some (.cells [.int .i64 ports, .int .i64 lanes, .int .i64 n, v] 89 .fix)) (hv : Ents H v R) (hR : R.length ≤ 1000) (w : Way) : ∀ (q i k : Nat), R.length - i = q → i ≤ R.length → q < k → ∀ (x4 x5 x6 x7 x8 x10 x11 x12 x13 x14 x15 x16 x17 x18 x19 x20 x21 x22 x23 x24 x25 x26 x27 x28 x29 x30 x31 x32 x33 x34 x35 x36 x37 x38 x39 x40 x41 x42 x43 x44 x45 x46 x47 x48 x49 x50 x51 x52 x53 : Value),
    loopN k (runCode Try.prog (lvl Try.prog pk8 m) (loopN m) f55_c0) (f55_k0 (lvl Try.prog pk8 m) (loopN m)) [(.pointer (some ⟨r, 0, none⟩)), (.int .i64 w.1), (.int .i64 w.2.1), (.int .i64 w.2.2), x4, x5, x6, x7, x8, (.int .i64 (i : Nat)), x10, x11, x12, x13, x14, x15, x16, x17, x18, x19, x20, x21, x22, x23, x24, x25, x26, x27, x28, x29, x30, x31, x32, x33, x34, x35, x36, x37, x38, x39, x40, x41, x42, x43, x44, x45, x46, x47, x48, x49, x50, x51, x52, x53] H = some (.int .i64 (fI w (R.drop i) i), H) := by
  intro q
  have hlen := hv.len
  have l3 : ld1 (.pointer (some ⟨r, 3, none⟩)) H = some (v, H) := by rw [x_ld1, hd]; rfl
  induction q with
  | zero =>
    intro i k hr hi hk
    intros
    obtain ⟨k, rfl⟩ : ∃ n, k = n + 1 := ⟨k - 1, by omega⟩
    obtain rfl : i = R.length := by omega
    have e : decide ((R.length : Int) < R.length) = false := by simp
    rw [loop_succ, f55_b0_eq]
    unfold f55_b0
    simp -implicitDefEqProofs only [r_opt, r_ret, ob_some, ifB_true, iteV_true, iteV_false, r_gdt, r_gdt2, r_gdtf, r_gdtf2, r_gdff, r_gdff2, r_gdft, r_gdft2, r_gdu, r_gdu2, pick_t, pick_f, ext_0, ext_1, x_newB, r_nil, r_fAddr, Nat.zero_add, b_lss, b_leq, b_gtr, b_geq, b_eql, b_neq, u_not, Bool.not_true, Bool.not_false, oneOf_one, oneOf_two, again_normal, again_exit, again_ret, Bool.and_true, l3, hlen, e]
    rw [f55_e0_0_eq]
    unfold f55_e0_0
    rw [List.drop_length]
    rfl
  | succ q ih =>
    intro i k hr hi hk
    intros
    obtain ⟨k, rfl⟩ : ∃ n, k = n + 1 := ⟨k - 1, by omega⟩
    have e : decide ((i : Int) < R.length) = true := by simp; omega
    have e3 : IntKind.i64.wrap ((i : Int) + 1) = ((i + 1 : Nat) : Int) := by rw [wrap_i64 (by omega) (by omega)]; omega
    have hx : R[i]? = some R[i] := List.getElem?_eq_getElem (by omega)
    obtain ⟨b, o, g1, g2, g3⟩ := hv.rr.at_ reC_len hx .i64
    obtain ⟨_, g4, _⟩ := g3 H rfl
    have a0 := g4 0 _ rfl
    have a1 := g4 1 _ rfl
    have a2 := g4 2 _ rfl
    rw [Nat.add_zero] at a0
    have hdrop : R.drop i = R[i] :: R.drop (i + 1) := List.drop_eq_getElem_cons (by omega)
    rw [loop_succ, f55_b0_eq, hdrop]
    unfold f55_b0
    by_cases c0 : R[i].1.1 = w.1
    · have d0 : (R[i].1.1 == w.1) = true := by simp [c0]
      by_cases c1 : R[i].1.2.1 = w.2.1
      · have d1 : (R[i].1.2.1 == w.2.1) = true := by simp [c1]
        by_cases c2 : R[i].1.2.2 = w.2.2
        · have d2 : (R[i].1.2.2 == w.2.2) = true := by simp [c2]
          have hw : R[i].1 = w := by rw [Prod.ext_iff, Prod.ext_iff]; exact ⟨c0, c1, c2⟩
          simp -implicitDefEqProofs only [r_opt, r_ret, ob_some, ifB_true, iteV_true, iteV_false, r_gdt, r_gdt2, r_gdtf, r_gdtf2, r_gdff, r_gdff2, r_gdft, r_gdft2, r_gdu, r_gdu2, pick_t, pick_f, ext_0, ext_1, x_newB, r_nil, r_fAddr, Nat.zero_add, b_lss, b_leq, b_gtr, b_geq, b_eql, b_neq, u_not, Bool.not_true, Bool.not_false, oneOf_one, oneOf_two, again_normal, again_exit, again_ret, Bool.and_true, l3, hlen, e, g1, Nat.add_zero, a0, a1, a2, d0, d1, d2]
          rw [f55_r0_eq]
          unfold f55_r0
          rw [fI, if_pos hw]
          rfl
        · have d2 : (R[i].1.2.2 == w.2.2) = false := by simp [c2]
          have hw : R[i].1 ≠ w := fun h => c2 (by rw [h])
          simp -implicitDefEqProofs only [r_opt, r_ret, ob_some, ifB_true, iteV_true, iteV_false, r_gdt, r_gdt2, r_gdtf, r_gdtf2, r_gdff, r_gdff2, r_gdft, r_gdft2, r_gdu, r_gdu2, pick_t, pick_f, ext_0, ext_1, x_newB, r_nil, r_fAddr, Nat.zero_add, b_lss, b_leq, b_gtr, b_geq, b_eql, b_neq, u_not, Bool.not_true, Bool.not_false, oneOf_one, oneOf_two, again_normal, again_exit, again_ret, Bool.and_true, l3, hlen, e, g1, Nat.add_zero, a0, a1, a2, d0, d1, d2, b_add, e3]
          rw [fI, if_neg hw]
          exact ih (i + 1) k (by omega) (by omega) (by omega) ..
      · have d1 : (R[i].1.2.1 == w.2.1) = false := by simp [c1]
        have hw : R[i].1 ≠ w := fun h => c1 (by rw [h])
        simp -implicitDefEqProofs only [r_opt, r_ret, ob_some, ifB_true, iteV_true, iteV_false, r_gdt, r_gdt2, r_gdtf, r_gdtf2, r_gdff, r_gdff2, r_gdft, r_gdft2, r_gdu, r_gdu2, pick_t, pick_f, ext_0, ext_1, x_newB, r_nil, r_fAddr, Nat.zero_add, b_lss, b_leq, b_gtr, b_geq, b_eql, b_neq, u_not, Bool.not_true, Bool.not_false, oneOf_one, oneOf_two, again_normal, again_exit, again_ret, Bool.and_true, l3, hlen, e, g1, Nat.add_zero, a0, a1, a2, d0, d1, b_add, e3]
        rw [fI, if_neg hw]
        exact ih (i + 1) k (by omega) (by omega) (by omega) ..
    · have d0 : (R[i].1.1 == w.1) = false := by simp [c0]
      have hw : R[i].1 ≠ w := fun h => c0 (by rw [h])
      simp -implicitDefEqProofs only [r_opt, r_ret, ob_some, ifB_true, iteV_true, iteV_false, r_gdt, r_gdt2, r_gdtf, r_gdtf2, r_gdff, r_gdff2, r_gdft, r_gdft2, r_gdu, r_gdu2, pick_t, pick_f, ext_0, ext_1, x_newB, r_nil, r_fAddr, Nat.zero_add, b_lss, b_leq, b_gtr, b_geq, b_eql, b_neq, u_not, Bool.not_true, Bool.not_false, oneOf_one, oneOf_two, again_normal, again_exit, again_ret, Bool.and_true, l3, hlen, e, g1, Nat.add_zero, a0, a1, a2, d0, b_add, e3]
      rw [fI, if_neg hw]
      exact ih (i + 1) k (by omega) (by omega) (by omega) ..

theorem first_is (h : RRef H r R n ports lanes) (hR : R.length ≤ 1000) (hm : R.length + 100 < m) (w : Way) : lvl Try.prog pk8 m (.func 55) [.pointer (some ⟨r, 0, none⟩), .int .i64 w.1, .int .i64 w.2.1, .int .i64 w.2.2] H = some (.int .i64 (fI w R 0), H) := by
  obtain ⟨v, h1, h2⟩ := h
  refine lvl_at (flatPr_no rfl) (by omega) ?_
  rw [f55_eq]
  unfold f55
  exact first_loop h1 h2 hR w R.length 0 (m - 1) (by omega) (by omega) (by omega) ..

theorem bld_pk1 (x : Pkt) (H : Heap) : bldSlice 50 4 1 [.int .i64 0, .int .i64 0, .int .i64 0, .int .u32 0] [(0, x.val)] H = some (.slice (some ⟨H.length, 0, none⟩) 1 1, H ++ [.cells x.cells 50 .row]) := rfl
theorem bld_en1 (e : RE) (H : Heap) : bldSlice 91 7 1 [.int .i64 0, .int .i64 0, .int .i64 0, .int .i64 0, .int .i64 0, .int .i64 0, .int .u32 0] [(0, .agg ⟨reC e⟩)] H = some (.slice (some ⟨H.length, 0, none⟩) 1 1, H ++ [.cells (reC e) 91 .row]) := by kernel_rfl
theorem bld_en (a b c : Int) (x : Pkt) : bld Try.prog 91 [(0, .int .i64 a), (1, .int .i64 b), (2, .int .i64 c), (3, x.val)] = some (.agg ⟨reC ((a, b, c), x)⟩) := by kernel_rfl

theorem roomy_le {n k by' : Nat} (h : roomy n by' = true) (hk : k ≤ n) : roomy k by' = true := by
  unfold roomy at *
  simp only [Bool.and_eq_true, decide_eq_true_eq] at *
  refine ⟨?_, by omega⟩
  have : (2 * k + 256) * by' ≤ (2 * n + 256) * by' := Nat.mul_le_mul_right _ (by omega)
  omega

/-- one packet more, behind a slice that is new -/
theorem pk_push {H0 : Heap} {u : Value} {ps : List Pkt} (x : Pkt) (hu : Pks H u ps) (hn : ∀ b, home u b → H0.length ≤ b) (he : Ext H0 H) (hc : ps.length < 1000) :
    ∃ u' H', app 50 4 32 u (.slice (some ⟨H.length, 0, none⟩) 1 1) (H ++ [.cells x.cells 50 .row]) = some (u', H') ∧ Pks H' u' (ps ++ [x]) ∧ (∀ b, home u' b → H0.length ≤ b) ∧ Ext H0 H' := by
  have hw : Rr Pkt.cells 50 (H ++ [.cells x.cells 50 .row]) (.slice (some ⟨H.length, 0, none⟩) 1 1) [x] := one_rr (el := Pkt.cells) x H
  obtain ⟨u', H', q1, q2, q3, q4, q5⟩ := (hu.on [.cells x.cells 50 .row]).add pkC_len pkC_all (by decide) (by' := 32) hw (roomy_le (n := 1001) (by decide) (by simp; omega))
  refine ⟨u', H', q1, q2, fun b hb => ?_, ⟨?_, fun b hb _ => ?_⟩⟩
  · rcases q5 b hb with h | ⟨h, _⟩
    · exact hn b h
    · have := he.1
      simp at h
      omega
  · have := he.1
    simp at q3
    omega
  · have h1 := he.1
    rw [q4 b (by simp; omega) (fun h => by have := hn b h; omega), List.getElem?_append_left (by omega), he.2 b hb id]

theorem rAll_loop {H0 : Heap} {w : Way} (hr0 : RRef H0 r R n ports lanes) (hR : R.length ≤ 900) : ∀ (q i k : Nat) (H : Heap) (u : Value), R.length - i = q → i ≤ R.length → q < k → Ext H0 H → Pks H u (pkR (R.take i) w) → (∀ b, home u b → H0.length ≤ b) → ∀ (x4 x5 x6 x7 x8 x11 x12 x13 x14 x15 x16 x17 x18 x19 x20 x21 x22 x23 x24 x25 x26 x27 x28 x29 x30 x31 x32 x33 x34 x35 x36 x37 x38 x39 x40 x41 x42 x43 x44 x45 x46 x47 x48 x49 x50 x51 x52 x53 x54 x55 x56 x57 x58 x59 x60 x61 x62 x63 x64 x65 : Value),
    ∃ H' u', loopN k (runCode Try.prog (lvl Try.prog pk8 m) (loopN m) f41_c0) (f41_k0 (lvl Try.prog pk8 m) (loopN m)) [(.pointer (some ⟨r, 0, none⟩)), (.int .i64 w.1), (.int .i64 w.2.1), (.int .i64 w.2.2), x4, x5, x6, x7, x8, u, (.int .i64 (i : Nat)), x11, x12, x13, x14, x15, x16, x17, x18, x19, x20, x21, x22, x23, x24, x25, x26, x27, x28, x29, x30, x31, x32, x33, x34, x35, x36, x37, x38, x39, x40, x41, x42, x43, x44, x45, x46, x47, x48, x49, x50, x51, x52, x53, x54, x55, x56, x57, x58, x59, x60, x61, x62, x63, x64, x65] H = some (u', H') ∧ Ext H0 H' ∧ Pks H' u' (pkR R w) ∧ (∀ b, home u' b → H0.length ≤ b) := by
  intro q
  induction q with
  | zero =>
    intro i k H u hr hi hk hE hu hn
    intros
    obtain ⟨v, hd, hv⟩ := hr0.ext hE
    have hlen := hv.len
    have l3 : ld1 (.pointer (some ⟨r, 3, none⟩)) H = some (v, H) := by rw [x_ld1, hd]; rfl
    obtain ⟨k, rfl⟩ : ∃ n, k = n + 1 := ⟨k - 1, by omega⟩
    obtain rfl : i = R.length := by omega
    have e : decide ((R.length : Int) < R.length) = false := by simp
    rw [List.take_of_length_le (Nat.le_refl _)] at hu
    refine ⟨H, u, ?_, hE, hu, hn⟩
    rw [loop_succ, f41_b0_eq]
    unfold f41_b0
    simp -implicitDefEqProofs only [r_opt, r_ret, ob_some, ifB_true, iteV_true, iteV_false, r_gdt, r_gdt2, r_gdtf, r_gdtf2, r_gdff, r_gdff2, r_gdft, r_gdft2, r_gdu, r_gdu2, pick_t, pick_f, ext_0, ext_1, x_newB, r_nil, r_fAddr, Nat.zero_add, b_lss, b_leq, b_gtr, b_geq, b_eql, b_neq, u_not, Bool.not_true, Bool.not_false, oneOf_one, oneOf_two, again_normal, again_exit, again_ret, Bool.and_true, l3, hlen, e]
    rw [f41_e0_0_eq]
    unfold f41_e0_0
    rfl
  | succ q ih =>
    intro i k H u hr hi hk hE hu hn
    intros
    obtain ⟨v, hd, hv⟩ := hr0.ext hE
    have hlen := hv.len
    have l3 : ld1 (.pointer (some ⟨r, 3, none⟩)) H = some (v, H) := by rw [x_ld1, hd]; rfl
    obtain ⟨k, rfl⟩ : ∃ n, k = n + 1 := ⟨k - 1, by omega⟩
    have e : decide ((i : Int) < R.length) = true := by simp; omega
    have e3 : IntKind.i64.wrap ((i : Int) + 1) = ((i + 1 : Nat) : Int) := by rw [wrap_i64 (by omega) (by omega)]; omega
    have hx : R[i]? = some R[i] := List.getElem?_eq_getElem (by omega)
    obtain ⟨b, o, g1, g2, g3⟩ := hv.rr.at_ reC_len hx .i64
    obtain ⟨_, g4, g5⟩ := g3 H rfl
    have a0 := g4 0 _ rfl
    have a1 := g4 1 _ rfl
    have a2 := g4 2 _ rfl
    rw [Nat.add_zero] at a0
    have a3 : ldN 4 (.pointer (some ⟨b, o + 3, none⟩)) H = some (R[i].2.val, H) := g5 3 4 (by omega)
    have htake : R.take (i + 1) = R.take i ++ [R[i]] := by rw [List.take_add_one, hx]; rfl
    have hno : R[i].1 ≠ w → pkR (R.take (i + 1)) w = pkR (R.take i) w := fun h => by rw [htake, pkR_app, if_neg h]
    have hyes : R[i].1 = w → pkR (R.take (i + 1)) w = pkR (R.take i) w ++ [R[i].2] := fun h => by rw [htake, pkR_app, if_pos h]
    rw [loop_succ, f41_b0_eq]
    unfold f41_b0
    by_cases c0 : R[i].1.1 = w.1
    · have d0 : (R[i].1.1 == w.1) = true := by simp [c0]
      by_cases c1 : R[i].1.2.1 = w.2.1
      · have d1 : (R[i].1.2.1 == w.2.1) = true := by simp [c1]
        by_cases c2 : R[i].1.2.2 = w.2.2
        · have d2 : (R[i].1.2.2 == w.2.2) = true := by simp [c2]
          have hw : R[i].1 = w := by rw [Prod.ext_iff, Prod.ext_iff]; exact ⟨c0, c1, c2⟩
          have hsh : (pkR (R.take i) w).length < 1000 := by
            have := pkR_le (R.take i) w
            rw [List.length_take] at this
            omega
          obtain ⟨u', H', p1, p2, p3, p4⟩ := pk_push (R[i].2) hu hn hE hsh
          simp -implicitDefEqProofs only [r_opt, r_ret, ob_some, ifB_true, iteV_true, iteV_false, r_gdt, r_gdt2, r_gdtf, r_gdtf2, r_gdff, r_gdff2, r_gdft, r_gdft2, r_gdu, r_gdu2, pick_t, pick_f, ext_0, ext_1, x_newB, r_nil, r_fAddr, Nat.zero_add, b_lss, b_leq, b_gtr, b_geq, b_eql, b_neq, u_not, Bool.not_true, Bool.not_false, oneOf_one, oneOf_two, again_normal, again_exit, again_ret, Bool.and_true, l3, hlen, e, g1, Nat.add_zero, a0, a1, a2, d0, d1, d2, a3, bld_pk1, p1, b_add, e3]
          exact ih (i + 1) k H' u' (by omega) (by omega) (by omega) p4 (by rw [hyes hw]; exact p2) p3 ..
        · have d2 : (R[i].1.2.2 == w.2.2) = false := by simp [c2]
          have hw : R[i].1 ≠ w := fun h => c2 (by rw [h])
          simp -implicitDefEqProofs only [r_opt, r_ret, ob_some, ifB_true, iteV_true, iteV_false, r_gdt, r_gdt2, r_gdtf, r_gdtf2, r_gdff, r_gdff2, r_gdft, r_gdft2, r_gdu, r_gdu2, pick_t, pick_f, ext_0, ext_1, x_newB, r_nil, r_fAddr, Nat.zero_add, b_lss, b_leq, b_gtr, b_geq, b_eql, b_neq, u_not, Bool.not_true, Bool.not_false, oneOf_one, oneOf_two, again_normal, again_exit, again_ret, Bool.and_true, l3, hlen, e, g1, Nat.add_zero, a0, a1, a2, d0, d1, d2, b_add, e3]
          exact ih (i + 1) k H u (by omega) (by omega) (by omega) hE (by rw [hno hw]; exact hu) hn ..
      · have d1 : (R[i].1.2.1 == w.2.1) = false := by simp [c1]
        have hw : R[i].1 ≠ w := fun h => c1 (by rw [h])
        simp -implicitDefEqProofs only [r_opt, r_ret, ob_some, ifB_true, iteV_true, iteV_false, r_gdt, r_gdt2, r_gdtf, r_gdtf2, r_gdff, r_gdff2, r_gdft, r_gdft2, r_gdu, r_gdu2, pick_t, pick_f, ext_0, ext_1, x_newB, r_nil, r_fAddr, Nat.zero_add, b_lss, b_leq, b_gtr, b_geq, b_eql, b_neq, u_not, Bool.not_true, Bool.not_false, oneOf_one, oneOf_two, again_normal, again_exit, again_ret, Bool.and_true, l3, hlen, e, g1, Nat.add_zero, a0, a1, a2, d0, d1, b_add, e3]
        exact ih (i + 1) k H u (by omega) (by omega) (by omega) hE (by rw [hno hw]; exact hu) hn ..
    · have d0 : (R[i].1.1 == w.1) = false := by simp [c0]
      have hw : R[i].1 ≠ w := fun h => c0 (by rw [h])
      simp -implicitDefEqProofs only [r_opt, r_ret, ob_some, ifB_true, iteV_true, iteV_false, r_gdt, r_gdt2, r_gdtf, r_gdtf2, r_gdff, r_gdff2, r_gdft, r_gdft2, r_gdu, r_gdu2, pick_t, pick_f, ext_0, ext_1, x_newB, r_nil, r_fAddr, Nat.zero_add, b_lss, b_leq, b_gtr, b_geq, b_eql, b_neq, u_not, Bool.not_true, Bool.not_false, oneOf_one, oneOf_two, again_normal, again_exit, again_ret, Bool.and_true, l3, hlen, e, g1, Nat.add_zero, a0, a1, a2, d0, b_add, e3]
      exact ih (i + 1) k H u (by omega) (by omega) (by omega) hE (by rw [hno hw]; exact hu) hn ..

theorem rAll_is (h : RRef H r R n ports lanes) (hR : R.length ≤ 900) (hm : R.length + 100 < m) (w : Way) : ∃ H' u, lvl Try.prog pk8 m (.func 41) [.pointer (some ⟨r, 0, none⟩), .int .i64 w.1, .int .i64 w.2.1, .int .i64 w.2.2] H = some (u, H') ∧ Ext H H' ∧ Pks H' u (pkR R w) ∧ (∀ b, home u b → H.length ≤ b) := by
  refine lvl_ex (flatPr_no rfl) (by omega) ?_
  rw [f41_eq]
  unfold f41
  exact rAll_loop h hR R.length 0 (m - 1) H (.slice none 0 0) (by omega) (by omega) (by omega) (Fr.refl _ _) (Rw.nil (el := Pkt.cells)) (fun b hb => by obtain ⟨o, n, c, h⟩ := hb; cases h) ..

theorem rLen_is (h : RRef H r R n ports lanes) (hR : R.length ≤ 900) (hm : R.length + 110 < m) (w : Way) : ∃ H', lvl Try.prog pk8 m (.func 38) [.pointer (some ⟨r, 0, none⟩), .int .i64 w.1, .int .i64 w.2.1, .int .i64 w.2.2] H = some (.int .i64 (pkR R w).length, H') ∧ Ext H H' := by
  obtain ⟨H', u, h1, h2, h3, _⟩ := rAll_is h hR (m := m - 1) (by omega) w
  refine ⟨H', lvl_at (flatPr_no rfl) (by omega) ?_, h2⟩
  rw [f38_eq]
  unfold f38
  simp -implicitDefEqProofs only [r_opt, r_ret, ob_some, ifB_true, iteV_true, iteV_false, r_gdt, r_gdt2, r_gdtf, r_gdtf2, r_gdff, r_gdff2, r_gdft, r_gdft2, r_gdu, r_gdu2, pick_t, pick_f, ext_0, ext_1, x_newB, r_nil, r_fAddr, Nat.zero_add, b_lss, b_leq, b_gtr, b_geq, b_eql, b_neq, u_not, Bool.not_true, Bool.not_false, oneOf_one, oneOf_two, again_normal, again_exit, again_ret, Bool.and_true, h1, h3.len]

theorem same_loop {u v : Value} {xs ys : List Pkt} (hu : Pks H u xs) (hv : Pks H v ys) (hl : xs.length = ys.length) (hx : xs.length ≤ 1000) : ∀ (q i k : Nat), xs.length - i = q → i ≤ xs.length → q < k → ∀ (x2 x3 x4 x6 x7 x8 x9 x10 x11 x12 x13 x14 x15 x16 x17 x18 x19 x20 x21 x22 x23 x24 x25 : Value),
    loopN k (runCode Try.prog (lvl Try.prog pk8 m) (loopN m) f39_c0) (f39_k0 (lvl Try.prog pk8 m) (loopN m)) [u, v, x2, x3, x4, (.int .i64 (i : Nat)), x6, x7, x8, x9, x10, x11, x12, x13, x14, x15, x16, x17, x18, x19, x20, x21, x22, x23, x24, x25] H = some (.bool (decide (xs.drop i = ys.drop i)), H) := by
  intro q
  have hlen := hu.len
  induction q with
  | zero =>
    intro i k hr hi hk
    intros
    obtain ⟨k, rfl⟩ : ∃ n, k = n + 1 := ⟨k - 1, by omega⟩
    obtain rfl : i = xs.length := by omega
    have e : decide ((xs.length : Int) < xs.length) = false := by simp
    rw [loop_succ, f39_b0_eq]
    unfold f39_b0
    simp -implicitDefEqProofs only [r_opt, r_ret, ob_some, ifB_true, iteV_true, iteV_false, r_gdt, r_gdt2, r_gdtf, r_gdtf2, r_gdff, r_gdff2, r_gdft, r_gdft2, r_gdu, r_gdu2, pick_t, pick_f, ext_0, ext_1, x_newB, r_nil, r_fAddr, Nat.zero_add, b_lss, b_leq, b_gtr, b_geq, b_eql, b_neq, u_not, Bool.not_true, Bool.not_false, oneOf_one, oneOf_two, again_normal, again_exit, again_ret, Bool.and_true, hlen, e]
    rw [f39_e0_0_eq]
    unfold f39_e0_0
    rw [List.drop_length, hl, List.drop_length]
    rfl
  | succ q ih =>
    intro i k hr hi hk
    intros
    obtain ⟨k, rfl⟩ : ∃ n, k = n + 1 := ⟨k - 1, by omega⟩
    have e : decide ((i : Int) < xs.length) = true := by simp; omega
    have e3 : IntKind.i64.wrap ((i : Int) + 1) = ((i + 1 : Nat) : Int) := by rw [wrap_i64 (by omega) (by omega)]; omega
    obtain ⟨b, o, g1, g2, g3⟩ := hu.rr.at_ pkC_len (List.getElem?_eq_getElem (show i < xs.length by omega)) .i64
    obtain ⟨b', o', g1', g2', g3'⟩ := hv.rr.at_ pkC_len (List.getElem?_eq_getElem (show i < ys.length by omega)) .i64
    have a1 : ldN 4 (.pointer (some ⟨b, o, none⟩)) H = some ((xs[i]'(by omega)).val, H) := (g3 H rfl).1
    have a2 : ldN 4 (.pointer (some ⟨b', o', none⟩)) H = some ((ys[i]'(by omega)).val, H) := (g3' H rfl).1
    have hD : (xs.drop i = ys.drop i) ↔ (xs[i]'(by omega) = ys[i]'(by omega) ∧ xs.drop (i + 1) = ys.drop (i + 1)) := by
      rw [List.drop_eq_getElem_cons (show i < xs.length by omega), List.drop_eq_getElem_cons (show i < ys.length by omega), List.cons.injEq]
    rw [loop_succ, f39_b0_eq]
    unfold f39_b0
    by_cases c : xs[i]'(by omega) = ys[i]'(by omega)
    · have d : (!pkEq (xs[i]'(by omega)) (ys[i]'(by omega))) = false := by rw [c, pkEq_self]; rfl
      simp -implicitDefEqProofs only [r_opt, r_ret, ob_some, ifB_true, iteV_true, iteV_false, r_gdt, r_gdt2, r_gdtf, r_gdtf2, r_gdff, r_gdff2, r_gdft, r_gdft2, r_gdu, r_gdu2, pick_t, pick_f, ext_0, ext_1, x_newB, r_nil, r_fAddr, Nat.zero_add, b_lss, b_leq, b_gtr, b_geq, b_eql, b_neq, u_not, Bool.not_true, Bool.not_false, oneOf_one, oneOf_two, again_normal, again_exit, again_ret, Bool.and_true, hlen, e, g1, g1', a1, a2, nPk, d, b_add, e3]
      have hd : decide (xs.drop i = ys.drop i) = decide (xs.drop (i + 1) = ys.drop (i + 1)) := decide_eq_decide.mpr (hD.trans ⟨fun h => h.2, fun h => ⟨c, h⟩⟩)
      rw [hd]
      exact ih (i + 1) k (by omega) (by omega) (by omega) ..
    · have d : (!pkEq (xs[i]'(by omega)) (ys[i]'(by omega))) = true := by
        cases h : pkEq (xs[i]'(by omega)) (ys[i]'(by omega)) with
        | false => rfl
        | true => exact absurd ((pkEq_iff _ _).mp h) c
      simp -implicitDefEqProofs only [r_opt, r_ret, ob_some, ifB_true, iteV_true, iteV_false, r_gdt, r_gdt2, r_gdtf, r_gdtf2, r_gdff, r_gdff2, r_gdft, r_gdft2, r_gdu, r_gdu2, pick_t, pick_f, ext_0, ext_1, x_newB, r_nil, r_fAddr, Nat.zero_add, b_lss, b_leq, b_gtr, b_geq, b_eql, b_neq, u_not, Bool.not_true, Bool.not_false, oneOf_one, oneOf_two, again_normal, again_exit, again_ret, Bool.and_true, hlen, e, g1, g1', a1, a2, nPk, d]
      rw [f39_r0_eq]
      unfold f39_r0
      have hd : decide (xs.drop i = ys.drop i) = false := decide_eq_false fun h => c (hD.mp h).1
      rw [hd]
      rfl

theorem same_is {u v : Value} {xs ys : List Pkt} (hu : Pks H u xs) (hv : Pks H v ys) (hx : xs.length ≤ 1000) (hm : xs.length + 100 < m) : lvl Try.prog pk8 m (.func 39) [u, v] H = some (.bool (decide (xs = ys)), H) := by
  have l1 := hu.len
  have l2 := hv.len
  refine lvl_at (flatPr_no rfl) (by omega) ?_
  rw [f39_eq]
  unfold f39
  by_cases h : xs.length = ys.length
  · have e : ((xs.length : Int) != ys.length) = false := by simp [h]
    simp -implicitDefEqProofs only [r_opt, r_ret, ob_some, ifB_true, iteV_true, iteV_false, r_gdt, r_gdt2, r_gdtf, r_gdtf2, r_gdff, r_gdff2, r_gdft, r_gdft2, r_gdu, r_gdu2, pick_t, pick_f, ext_0, ext_1, x_newB, r_nil, r_fAddr, Nat.zero_add, b_lss, b_leq, b_gtr, b_geq, b_eql, b_neq, u_not, Bool.not_true, Bool.not_false, oneOf_one, oneOf_two, again_normal, again_exit, again_ret, Bool.and_true, l1, l2, e]
    exact same_loop hu hv h hx xs.length 0 (m - 1) (by omega) (by omega) (by omega) ..
  · have e : ((xs.length : Int) != ys.length) = true := by simp; omega
    have e2 : decide (xs = ys) = false := decide_eq_false fun hh => h (by rw [hh])
    simp -implicitDefEqProofs only [r_opt, r_ret, ob_some, ifB_true, iteV_true, iteV_false, r_gdt, r_gdt2, r_gdtf, r_gdtf2, r_gdff, r_gdff2, r_gdft, r_gdft2, r_gdu, r_gdu2, pick_t, pick_f, ext_0, ext_1, x_newB, r_nil, r_fAddr, Nat.zero_add, b_lss, b_leq, b_gtr, b_geq, b_eql, b_neq, u_not, Bool.not_true, Bool.not_false, oneOf_one, oneOf_two, again_normal, again_exit, again_ret, Bool.and_true, l1, l2, e, e2]
end

end Go.Proofs.Ytcmmlgdbpnogjaa
