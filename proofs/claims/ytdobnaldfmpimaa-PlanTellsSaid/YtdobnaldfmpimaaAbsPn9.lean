/-
  PLAN: tells; PlanMakes answers true.
-/
import Derived.Test.YtdobnaldfmpimaaAbsPn8
set_option linter.unusedSectionVars false
set_option linter.unusedSimpArgs false
set_option linter.unusedVariables false
set_option maxRecDepth 100000
namespace Go.Proofs.Ytdobnaldfmpimaa
open Go.Abs

def plZ : Blk := .cells [Value.int .i64 0, .slice none 0 0, .int .i64 0, .int .i64 0, .int .i64 0, .int .i64 0, .int .i64 0, .int .i64 0, .slice none 0 0, .int .u16 0, .slice none 0 0] 27 .fix
theorem plZ_is : Blk.cells [Value.int .i64 0, .slice none 0 0, .int .i64 0, .int .i64 0, .int .i64 0, .int .i64 0, .int .i64 0, .int .i64 0, .slice none 0 0, .int .u16 0, .slice none 0 0] 27 .fix = plZ := rfl
theorem cvErr (H : Heap) (b : Bool) : conv Try.prog 30 3 (.int .u16 (errno b)) H = some (.int .i64 (errno b), H) := by
  have h1 : Try.prog.underlying 30 = some (.int .u16) := by kernel_rfl
  have h2 : Try.prog.underlying 3 = some (.int .i64) := by kernel_rfl
  rw [c_int _ _ h1 h2, wrap_i64 (by unfold errno; split <;> omega) (by unfold errno; split <;> omega)]
theorem nHop (a b : Ed) : bin Try.prog .neq 38 (edV a) (edV b) = some (.bool (!(a == b))) := by
  have k : kindsOf Try.prog 38 = some [true, true] := by kernel_rfl
  obtain ⟨a1, a2⟩ := a
  obtain ⟨b1, b2⟩ := b
  simp [bin, edV, flat, eqAny, k, eqT, edC]
  rw [show ((a1, a2) == (b1, b2)) = ((a1 == b1) && (a2 == b2)) from rfl, Bool.not_and]

section
variable {H : Heap} {m : Nat} {p : PlanD} {ev wv nv : Value}

theorem Rs.shape {α : Type} {el : α → List Value} {e : TypeId} {v : Value} {xs : List α} (h : Rs el e H v xs) : v.cells.toList = [v] ∧ allCells [v] = true ∧ veq 3 v v = true := by
  rcases h with ⟨rfl, _⟩ | ⟨b, o, cap, rfl, _⟩
  · exact ⟨rfl, rfl, rfl⟩
  · exact ⟨rfl, rfl, by simp [veq]⟩
theorem Rows.shape {v : Value} {xss : List (List Int)} (h : Rows H v xss) : v.cells.toList = [v] ∧ allCells [v] = true ∧ veq 3 v v = true := by
  obtain ⟨us, h1, _⟩ := h
  exact Rs.shape h1
theorem PV.all (h : PV H p ev wv nv) : allCells (plC p ev wv nv) = true := by
  have e1 : ∀ (v : Value) (vs : List Value), allCells [v] = true → allCells (v :: vs) = allCells vs := fun v vs h => by
    simp only [allCells, List.all_cons, List.all_nil, Bool.and_true] at h ⊢
    rw [h, Bool.true_and]
  simp only [plC, all_int, e1 _ _ (Rs.shape h.e).2.1, e1 _ _ (Rs.shape h.w).2.1, e1 _ _ (Rows.shape h.n).2.1, all_nil]
theorem PV.chk (h : PV H p ev wv nv) (H' : Heap) : Go.Abs.chk (some (plV p ev wv nv, H')) (plV p ev wv nv) = true := by
  have h1 := (Rs.shape h.e).2.2
  have h2 := (Rs.shape h.w).2.2
  have h3 := (Rows.shape h.n).2.2
  have hi : ∀ (k : IntKind) (a : Int), veq 3 (.int k a) (.int k a) = true := fun k a => by simp [veq]
  show veq 4 (plV p ev wv nv) (plV p ev wv nv) = true
  unfold plV plC
  rw [veq]
  simp only [veqL, hi, h1, h2, h3, Bool.and_self]
theorem pl_copy (h : PV H p ev wv nv) (H' : Heap) : stN 11 (.pointer (some ⟨H'.length, 0, none⟩)) (plV p ev wv nv) (H' ++ [plZ]) = some (undef, H' ++ [plB p ev wv nv]) := by
  have e1 : (plV p ev wv nv).cells.toList = plC p ev wv nv := rfl
  rw [x_stN 11 _ _ _ rfl, at_last, e1]
  unfold plZ
  rw [x_stC _ _ _ _ _ _ (by decide) (by simp [plC]) h.all]
  simp [setCells, plC, plB]

theorem tells_loop {u v : Value} {hs : List Ed} (hu : Hs H u hs) (hv : Hs H v hs) (hl : hs.length ≤ 100) : ∀ (q i k : Nat), hs.length - i = q → i ≤ hs.length → q < k → ∀ (x0 x1 x2 x3 x4 x5 x6 x10 x11 x12 x13 x14 x15 x16 x17 x18 x19 x20 x21 x22 x23 x24 x25 x26 x27 x28 x29 x30 x31 x32 x33 x34 x35 x36 x37 x38 x39 x40 x41 x42 x43 x44 x45 x46 x47 x48 x49 x50 x51 x52 x53 x54 x55 x56 x57 x58 x59 x60 x61 x62 : Value),
    loopN k (runCode Try.prog (lvl Try.prog pk12 m) (loopN m) f21_c0) (f21_k0 (lvl Try.prog pk12 m) (loopN m)) [x0, x1, x2, x3, x4, x5, x6, u, v, (.int .i64 (i : Nat)), x10, x11, x12, x13, x14, x15, x16, x17, x18, x19, x20, x21, x22, x23, x24, x25, x26, x27, x28, x29, x30, x31, x32, x33, x34, x35, x36, x37, x38, x39, x40, x41, x42, x43, x44, x45, x46, x47, x48, x49, x50, x51, x52, x53, x54, x55, x56, x57, x58, x59, x60, x61, x62] H = some (.bool true, H) := by
  intro q

  induction q with
  | zero =>
    intro i k  hr hi hk 
    intros
    obtain ⟨k, rfl⟩ : ∃ n, k = n + 1 := ⟨k - 1, by omega⟩
    obtain rfl : hs.length = i := by omega
    have e : decide (((hs.length : Nat) : Int) < (hs.length : Nat)) = false := by simp
    have hlen := hu.len
    rw [loop_succ, f21_b0_eq]
    unfold f21_b0
    simp -implicitDefEqProofs only [r_opt, r_ret, ob_some, ifB_true, iteV_true, iteV_false, r_gdt, r_gdt2, r_gdtf, r_gdtf2, r_gdff, r_gdff2, r_gdft, r_gdft2, r_gdu, r_gdu2, pick_t, pick_f, ext_0, ext_1, x_newB, r_nil, r_fAddr, Nat.zero_add, b_lss, b_leq, b_gtr, b_geq, b_eql, b_neq, u_not, Bool.not_true, Bool.not_false, oneOf_one, oneOf_two, again_normal, again_exit, again_ret, Bool.and_true, hlen, e]
    rw [f21_e0_0_eq]
    rfl
  | succ q ih =>
    intro i k  hr hi hk 
    intros
    obtain ⟨k, rfl⟩ : ∃ n, k = n + 1 := ⟨k - 1, by omega⟩
    have e : decide ((i : Int) < (hs.length : Nat)) = true := decide_eq_true (by omega)
    have e3 : IntKind.i64.wrap ((i : Int) + 1) = ((i + 1 : Nat) : Int) := by rw [wrap_i64 (by omega) (by omega)]; omega
    have hlen := hu.len
    have hxi : hs[i]? = some hs[i] := List.getElem?_eq_getElem (by omega)
    obtain ⟨b, o, g1, g2, g3⟩ := hu.at_ edC_len hxi .i64
    obtain ⟨b', o', g1', g2', g3'⟩ := hv.at_ edC_len hxi .i64
    have a1 : ldN 2 (.pointer (some ⟨b, o, none⟩)) H = some (edV hs[i], H) := (g3 H rfl).1
    have a2 : ldN 2 (.pointer (some ⟨b', o', none⟩)) H = some (edV hs[i], H) := (g3' H rfl).1
    have d : (!(hs[i] == hs[i])) = false := by simp
    rw [loop_succ, f21_b0_eq]
    unfold f21_b0
    simp -implicitDefEqProofs only [r_opt, r_ret, ob_some, ifB_true, iteV_true, iteV_false, r_gdt, r_gdt2, r_gdtf, r_gdtf2, r_gdff, r_gdff2, r_gdft, r_gdft2, r_gdu, r_gdu2, pick_t, pick_f, ext_0, ext_1, x_newB, r_nil, r_fAddr, Nat.zero_add, b_lss, b_leq, b_gtr, b_geq, b_eql, b_neq, u_not, Bool.not_true, Bool.not_false, oneOf_one, oneOf_two, again_normal, again_exit, again_ret, Bool.and_true, hlen, e, g1, g1', a1, a2, nHop, d, b_add, e3]
    exact ih (i + 1) k (by omega) (by omega) (by omega) ..

theorem tells_is (hp : PV H p ev wv nv) (v w : Int) (hm : 17592186045200 < m) (hm2 : m ≤ 72057594037927936) : ∃ H', lvl Try.prog pk12 m (.func 21) [plV p ev wv nv, .int .i64 v, .int .i64 w] H = some (.bool true, H') ∧ Ext H H' := by
  have hbe := hp.be
  obtain ⟨H0, hH0⟩ : ∃ H0, H0 = H ++ [plB p ev wv nv] := ⟨_, rfl⟩
  have x0 : Ext H H0 := by rw [hH0]; exact Fr.app _ _ _
  have b0 : H0[H.length]? = some (plB p ev wv nv) := by rw [hH0]; exact at_last _ _
  have p0 := hp.ext x0
  have l0 := ld_pl11 b0
  obtain ⟨H1, u1, g1, x1, q1, _⟩ := hops_is p0 (m := m - 1) (by omega) (by omega)
  have b1 := ld_of b0 x1
  have l1 := ld_pl11 b1
  obtain ⟨H2, u2, g2, x2, q2, _⟩ := rhops_is (p0.ext x1) (m := m - 1) (by omega) (by omega)
  have b2 := ld_of b1 x2
  have l2 := ld_pl11 b2
  have p2 := (p0.ext x1).ext x2
  have n1 := q1.len
  have n2 := q2.len
  obtain ⟨H3, g3, x3⟩ := check_is p2 (m := m - 1) (by omega) (by omega)
  have b3 := ld_of b2 x3
  have l3 := ld_pl11 b3
  obtain ⟨H4, g4, x4⟩ := rcheck_is (p2.ext x3) (m := m - 1) (by omega) (by omega)
  have b4 := ld_of b3 x4
  have l4 := ld_pl11 b4
  have p4 := (p2.ext x3).ext x4
  obtain ⟨H5, u5, g5, x5, q5, _⟩ := beside_is p4 (m := m - 1) (by omega) (by omega) v
  have b5 := ld_of b4 x5
  have l5 := ld_pl11 b5
  obtain ⟨H6, u6, g6, x6, q6, _⟩ := rbes_is (p4.ext x5) (m := m - 1) (by omega) (by omega) v
  have b6 := ld_of b5 x6
  have l6 := ld_pl11 b6
  have p6 := (p4.ext x5).ext x6
  have hbl := bes_le p.edges v
  have g7 := same12_is (q5.rs.ext x6) q6.rs (m := m - 1) (by omega) (by omega)
  rw [decide_eq_true rfl] at g7
  obtain ⟨H7, g8, x7⟩ := port_is p6 (m := m - 1) (by omega) (by omega) v w
  have b7 := ld_of b6 x7
  have l7 := ld_pl11 b7
  obtain ⟨H8, g9, x8⟩ := rport_is (p6.ext x7) (m := m - 1) (by omega) (by omega) v w
  have ck := hp.chk
  have e1 : (((hopsOf p).length : Int) != (hopsOf p).length) = false := by simp
  have e2 : (errno (checkOk p) != errno (checkOk p)) = false := by simp
  have e3 : (portOf p.edges v w != portOf p.edges v w) = false := by simp
  have hx := ((((x2.tr x3).tr x4).tr x5).tr x6).tr (x7.tr x8)
  have hx2 := (((x3.tr x4).tr x5).tr x6).tr (x7.tr x8)
  refine lvl_ex1 (pk_no rfl rfl) (by omega) ⟨H8, ?_, ((((((x0.tr x1).tr x2).tr x3).tr x4).tr x5).tr x6).tr (x7.tr x8)⟩
  rw [f21_eq]
  unfold f21
  simp -implicitDefEqProofs only [r_opt, r_ret, ob_some, ifB_true, iteV_true, iteV_false, r_gdt, r_gdt2, r_gdtf, r_gdtf2, r_gdff, r_gdff2, r_gdft, r_gdft2, r_gdu, r_gdu2, pick_t, pick_f, ext_0, ext_1, x_newB, r_nil, r_fAddr, Nat.zero_add, b_lss, b_leq, b_gtr, b_geq, b_eql, b_neq, u_not, Bool.not_true, Bool.not_false, oneOf_one, oneOf_two, again_normal, again_exit, again_ret, Bool.and_true, plV_cells, ← hH0, l0, g1, l1, g2, n1, n2, e1, l2, g3, cvErr, l3, ck, g4, e2, l4, g5, l5, g6, g7, l6, g8, l7, g9, e3]
  exact tells_loop (q1.rs.ext hx) (q2.rs.ext hx2) (by have := hops_len p; omega) (hopsOf p).length 0 (m - 1) (by omega) (by omega) (by have := hops_len p; omega) ..

theorem errN (b : Bool) : (errno b != 0) = !b := by cases b <;> rfl
theorem errE (b : Bool) : (errno b == 120) = !b := by cases b <;> rfl
theorem err0 (b : Bool) : (errno b == 0) = b := by cases b <;> rfl
theorem ckBad {q : PlanD} (h : numOk q = false ∨ (q.weights.length : Int) ≠ q.lanes) : checkOk q = false := by
  unfold checkOk
  rcases h with h | h
  · rw [h]; rfl
  · rw [decide_eq_false h]
    simp

/-- a plan that is turned in its block -/
theorem st_pl {q q' : PlanD} {ev' wv' nv' v : Value} {b j : Nat} (hb : H[b]? = some (plB q ev wv nv)) (hv : v.cells.toList = [v]) (ha : allCells [v] = true) (hj : j < 11) (hq : (plC q ev wv nv).set j v = plC q' ev' wv' nv') : stN 1 (.pointer (some ⟨b, j, none⟩)) v H = some (undef, H.set b (plB q' ev' wv' nv')) := by
  rw [x_stN 1 _ _ _ (by rw [hv]; rfl), hb]
  unfold plB
  rw [hv, x_stC _ _ _ _ _ _ (by decide) (by simp [plC]; omega) ha]
  rw [← hq]
  rfl
theorem set_ext {H0 H1 : Heap} {b : Nat} {x : Blk} (he : Ext H0 H1) (hb : H0.length ≤ b) : Ext H0 (H1.set b x) := ⟨by rw [List.length_set]; exact he.1, fun c hc _ => by rw [List.getElem?_set_ne (by omega), he.2 c hc id]⟩
theorem sl_same {P : Program} {sz : Nat} {v a b : Value} {lo hi mx : Option Value} {H1 H2 : Heap} (h1 : slc P sz v lo hi mx H1 = some (a, H1)) (h2 : slc P sz v lo hi mx H2 = some (b, H2)) : a = b := by
  unfold slc at h1 h2
  split at h1
  · simp only at h2
    split at h1
    · split at h2
      · cases h1; cases h2; rfl
      · cases h2
    · cases h1
  · simp only at h2
    split at h1
    · split at h2
      · split at h1
        · rename_i hl hh hm
          rw [hl, hh, hm] at h2
          simp only at h2
          split at h1
          · split at h2
            · cases h1; cases h2; rfl
            · cases h2
          · cases h1
        · cases h1
      · cases h2
    · cases h1
  · cases h1

theorem planMakes_true (nodes room more joined v w k : Nat) (h1 : nodes < 256) (h2 : room < 256) (h3 : more < 256) (h4 : joined < 65536) (h5 : v < 256) (h6 : w < 256) (h7 : k < 256) {a4 : Value} {next : List Nat} (hnx : Us H a4 next) (hu8 : ∀ x ∈ next, x < 256) (hnl : next.length ≤ 72057594037927936) :
    ∃ H', lvl Try.prog pk12 18014398509481984 (.func 7) [.int .u8 nodes, .int .u8 room, .int .u8 more, .int .u16 joined, a4, .int .u8 v, .int .u8 w, .int .u8 k] H = some (.bool true, H') ∧ True := by
  obtain ⟨H1, u, g1, hmd⟩ := make_is (m := 18014398509481984 - 1) nodes room more joined h1 h2 h3 h4 hnx hu8 hnl (by omega)
  obtain ⟨ev, wv, nv, rfl, x1, hp⟩ := hmd.pv
  obtain ⟨p, hpp⟩ : ∃ p, p = mkP nodes room more joined next := ⟨_, rfl⟩
  have hok := mk_ok nodes room more joined next
  rw [← hpp] at hp g1 hok
  have cp := pl_copy hp H1
  obtain ⟨H2, hH2⟩ : ∃ H2, H2 = H1 ++ [plB p ev wv nv] := ⟨_, rfl⟩
  rw [← hH2] at cp
  have x2 : Ext H1 H2 := by rw [hH2]; exact Fr.app _ _ _
  have b2 : H2[H1.length]? = some (plB p ev wv nv) := by rw [hH2]; exact at_last _ _
  have l2 := ld_pl11 b2
  have hp2 := hp.ext x2
  have hk := fun H => known12_is (18014398509481984 - 1) (by omega) H
  obtain ⟨H3, g3, x3⟩ := check_is hp2 (m := 18014398509481984 - 1) (by omega) (by omega)
  rw [hok] at g3
  have en : (errno true != 0) = false := rfl
  have b3 := ld_of b2 x3
  have l3 := ld_pl11 b3
  have v1 := remU v 8 8 rfl (by omega)
  have v2 := fun H => cvU H (v % 8) (by omega)
  have w1 := remU w 8 8 rfl (by omega)
  have w2 := fun H => cvU H (w % 8) (by omega)
  have k1 := remU k 8 8 rfl (by omega)
  obtain ⟨H4, g4, x4⟩ := tells_is (hp2.ext x3) ((v % 8 : Nat) : Int) ((w % 8 : Nat) : Int) (m := 18014398509481984 - 1) (by omega) (by omega)
  have b4 := ld_of b3 x4
  have hx14 := (x2.tr x3).tr x4
  -- the turned plan
  have turn : ∀ (q : PlanD) (j : Nat) (z : Value) (wv' : Value), z.cells.toList = [z] → allCells [z] = true → j < 11 → (plC p ev wv nv).set j z = plC q ev wv' nv → q.edges = p.edges → q.next = p.next → (∀ H', Ext H1 H' → Is H' wv' q.weights) → q.weights.length ≤ 10 → checkOk q = false →
      stN 1 (.pointer (some ⟨H1.length, j, none⟩)) z H4 = some (undef, H4.set H1.length (plB q ev wv' nv)) ∧ ldN 11 (.pointer (some ⟨H1.length, 0, none⟩)) (H4.set H1.length (plB q ev wv' nv)) = some (plV q ev wv' nv, H4.set H1.length (plB q ev wv' nv)) ∧
      ∃ H', lvl Try.prog pk12 (18014398509481984 - 1) (.func 17) [plV q ev wv' nv] (H4.set H1.length (plB q ev wv' nv)) = some (.int .u16 (errno false), H') := by
    intro q j z wv' hz1 hz2 hj hq he hn hw hwl hbad
    have hl4 : H1.length < H4.length := (List.getElem?_eq_some_iff.mp b4).1
    have x5 : Ext H1 (H4.set H1.length (plB q ev wv' nv)) := set_ext hx14 (Nat.le_refl _)
    have hp5 : PV (H4.set H1.length (plB q ev wv' nv)) q ev wv' nv := by
      have hh := hp.ext x5
      exact ⟨by rw [he]; exact hh.e, hw _ x5, by rw [hn]; exact hh.n, by rw [he]; exact hh.be, by omega, by rw [hn]; exact hh.bn⟩
    obtain ⟨H6, g6, _⟩ := check_is hp5 (m := 18014398509481984 - 1) (by omega) (by omega)
    rw [hbad] at g6
    exact ⟨st_pl b4 hz1 hz2 hj hq, ld_pl11 (List.getElem?_set_self hl4), H6, g6⟩
  have hws : ∀ H', Ext H1 H' → Is H' wv p.weights := fun H' hx => (hp.ext hx).w
  have hwl : p.weights.length = 1 + more % 3 := by rw [hpp]; simp [mkP]
  have ee : (errno false == 120) = true := rfl
  have num : ∀ q : PlanD, (wi q.nodes 2 6 = false ∨ wi q.lanes 1 3 = false ∨ wi q.room 1 8 = false ∨ wi q.queue 1 8 = false ∨ wi q.rounds 1 4 = false ∨ wi q.every 1 8 = false ∨ wi q.bag 1 64 = false) → checkOk q = false := by
    intro q h
    refine ckBad (.inl ?_)
    unfold numOk
    rcases h with h | h | h | h | h | h | h <;> rw [h] <;> simp
  refine lvl_ex1 (pk_no rfl rfl) (by omega) ?_
  rw [f7_eq]
  unfold f7
  have c8 : k % 8 = 0 ∨ k % 8 = 1 ∨ k % 8 = 2 ∨ k % 8 = 3 ∨ k % 8 = 4 ∨ k % 8 = 5 ∨ k % 8 = 6 ∨ k % 8 = 7 := by omega
  rcases c8 with c | c | c | c | c | c | c | c
  · obtain ⟨s1, s2, H6, s3⟩ := turn { p with nodes := 7 } 0 (.int .i64 7) wv rfl rfl (by omega) rfl rfl rfl hws (by simp only; omega) (num _ (.inl rfl))
    rw [c] at k1
    have d0 : ((((0 : Nat) : Int)) == 0) = true := rfl
    refine ⟨H6, ?_, trivial⟩
    simp -implicitDefEqProofs only [r_opt, r_ret, ob_some, ifB_true, iteV_true, iteV_false, r_gdt, r_gdt2, r_gdtf, r_gdtf2, r_gdff, r_gdff2, r_gdft, r_gdft2, r_gdu, r_gdu2, pick_t, pick_f, ext_0, ext_1, x_newB, r_nil, r_fAddr, Nat.zero_add, b_lss, b_leq, b_gtr, b_geq, b_eql, b_neq, u_not, Bool.not_true, Bool.not_false, oneOf_one, oneOf_two, again_normal, again_exit, again_ret, Bool.and_true, g1, plZ_is, cp, hk, l2, g3, en, l3, v1, v2, w1, w2, g4, k1, d0, s1, s2, s3, ee]
  · obtain ⟨s1, s2, H6, s3⟩ := turn { p with lanes := 0 } 2 (.int .i64 0) wv rfl rfl (by omega) rfl rfl rfl hws (by simp only; omega) (num _ (.inr (.inl rfl)))
    rw [c] at k1
    have d0 : ((((1 : Nat) : Int)) == 0) = false := rfl
    have d1 : ((((1 : Nat) : Int)) == 1) = true := rfl
    refine ⟨H6, ?_, trivial⟩
    simp -implicitDefEqProofs only [r_opt, r_ret, ob_some, ifB_true, iteV_true, iteV_false, r_gdt, r_gdt2, r_gdtf, r_gdtf2, r_gdff, r_gdff2, r_gdft, r_gdft2, r_gdu, r_gdu2, pick_t, pick_f, ext_0, ext_1, x_newB, r_nil, r_fAddr, Nat.zero_add, b_lss, b_leq, b_gtr, b_geq, b_eql, b_neq, u_not, Bool.not_true, Bool.not_false, oneOf_one, oneOf_two, again_normal, again_exit, again_ret, Bool.and_true, g1, plZ_is, cp, hk, l2, g3, en, l3, v1, v2, w1, w2, g4, k1, d0, d1, s1, s2, s3, ee]
  · obtain ⟨s1, s2, H6, s3⟩ := turn { p with room := 9 } 3 (.int .i64 9) wv rfl rfl (by omega) rfl rfl rfl hws (by simp only; omega) (num _ (.inr (.inr (.inl rfl))))
    rw [c] at k1
    have d0 : ((((2 : Nat) : Int)) == 0) = false := rfl
    have d1 : ((((2 : Nat) : Int)) == 1) = false := rfl
    have d2 : ((((2 : Nat) : Int)) == 2) = true := rfl
    refine ⟨H6, ?_, trivial⟩
    simp -implicitDefEqProofs only [r_opt, r_ret, ob_some, ifB_true, iteV_true, iteV_false, r_gdt, r_gdt2, r_gdtf, r_gdtf2, r_gdff, r_gdff2, r_gdft, r_gdft2, r_gdu, r_gdu2, pick_t, pick_f, ext_0, ext_1, x_newB, r_nil, r_fAddr, Nat.zero_add, b_lss, b_leq, b_gtr, b_geq, b_eql, b_neq, u_not, Bool.not_true, Bool.not_false, oneOf_one, oneOf_two, again_normal, again_exit, again_ret, Bool.and_true, g1, plZ_is, cp, hk, l2, g3, en, l3, v1, v2, w1, w2, g4, k1, d0, d1, d2, s1, s2, s3, ee]
  · obtain ⟨s1, s2, H6, s3⟩ := turn { p with queue := 0 } 4 (.int .i64 0) wv rfl rfl (by omega) rfl rfl rfl hws (by simp only; omega) (num _ (.inr (.inr (.inr (.inl rfl)))))
    rw [c] at k1
    have d0 : ((((3 : Nat) : Int)) == 0) = false := rfl
    have d1 : ((((3 : Nat) : Int)) == 1) = false := rfl
    have d2 : ((((3 : Nat) : Int)) == 2) = false := rfl
    have d3 : ((((3 : Nat) : Int)) == 3) = true := rfl
    refine ⟨H6, ?_, trivial⟩
    simp -implicitDefEqProofs only [r_opt, r_ret, ob_some, ifB_true, iteV_true, iteV_false, r_gdt, r_gdt2, r_gdtf, r_gdtf2, r_gdff, r_gdff2, r_gdft, r_gdft2, r_gdu, r_gdu2, pick_t, pick_f, ext_0, ext_1, x_newB, r_nil, r_fAddr, Nat.zero_add, b_lss, b_leq, b_gtr, b_geq, b_eql, b_neq, u_not, Bool.not_true, Bool.not_false, oneOf_one, oneOf_two, again_normal, again_exit, again_ret, Bool.and_true, g1, plZ_is, cp, hk, l2, g3, en, l3, v1, v2, w1, w2, g4, k1, d0, d1, d2, d3, s1, s2, s3, ee]
  · obtain ⟨s1, s2, H6, s3⟩ := turn { p with rounds := 5 } 5 (.int .i64 5) wv rfl rfl (by omega) rfl rfl rfl hws (by simp only; omega) (num _ (.inr (.inr (.inr (.inr (.inl rfl))))))
    rw [c] at k1
    have d0 : ((((4 : Nat) : Int)) == 0) = false := rfl
    have d1 : ((((4 : Nat) : Int)) == 1) = false := rfl
    have d2 : ((((4 : Nat) : Int)) == 2) = false := rfl
    have d3 : ((((4 : Nat) : Int)) == 3) = false := rfl
    have d4 : ((((4 : Nat) : Int)) == 4) = true := rfl
    refine ⟨H6, ?_, trivial⟩
    simp -implicitDefEqProofs only [r_opt, r_ret, ob_some, ifB_true, iteV_true, iteV_false, r_gdt, r_gdt2, r_gdtf, r_gdtf2, r_gdff, r_gdff2, r_gdft, r_gdft2, r_gdu, r_gdu2, pick_t, pick_f, ext_0, ext_1, x_newB, r_nil, r_fAddr, Nat.zero_add, b_lss, b_leq, b_gtr, b_geq, b_eql, b_neq, u_not, Bool.not_true, Bool.not_false, oneOf_one, oneOf_two, again_normal, again_exit, again_ret, Bool.and_true, g1, plZ_is, cp, hk, l2, g3, en, l3, v1, v2, w1, w2, g4, k1, d0, d1, d2, d3, d4, s1, s2, s3, ee]
  · obtain ⟨s1, s2, H6, s3⟩ := turn { p with every := 9 } 6 (.int .i64 9) wv rfl rfl (by omega) rfl rfl rfl hws (by simp only; omega) (num _ (.inr (.inr (.inr (.inr (.inr (.inl rfl)))))))
    rw [c] at k1
    have d0 : ((((5 : Nat) : Int)) == 0) = false := rfl
    have d1 : ((((5 : Nat) : Int)) == 1) = false := rfl
    have d2 : ((((5 : Nat) : Int)) == 2) = false := rfl
    have d3 : ((((5 : Nat) : Int)) == 3) = false := rfl
    have d4 : ((((5 : Nat) : Int)) == 4) = false := rfl
    have d5 : ((((5 : Nat) : Int)) == 5) = true := rfl
    refine ⟨H6, ?_, trivial⟩
    simp -implicitDefEqProofs only [r_opt, r_ret, ob_some, ifB_true, iteV_true, iteV_false, r_gdt, r_gdt2, r_gdtf, r_gdtf2, r_gdff, r_gdff2, r_gdft, r_gdft2, r_gdu, r_gdu2, pick_t, pick_f, ext_0, ext_1, x_newB, r_nil, r_fAddr, Nat.zero_add, b_lss, b_leq, b_gtr, b_geq, b_eql, b_neq, u_not, Bool.not_true, Bool.not_false, oneOf_one, oneOf_two, again_normal, again_exit, again_ret, Bool.and_true, g1, plZ_is, cp, hk, l2, g3, en, l3, v1, v2, w1, w2, g4, k1, d0, d1, d2, d3, d4, d5, s1, s2, s3, ee]
  · obtain ⟨s1, s2, H6, s3⟩ := turn { p with bag := 65 } 7 (.int .i64 65) wv rfl rfl (by omega) rfl rfl rfl hws (by simp only; omega) (num _ (.inr (.inr (.inr (.inr (.inr (.inr (rfl))))))))
    rw [c] at k1
    have d0 : ((((6 : Nat) : Int)) == 0) = false := rfl
    have d1 : ((((6 : Nat) : Int)) == 1) = false := rfl
    have d2 : ((((6 : Nat) : Int)) == 2) = false := rfl
    have d3 : ((((6 : Nat) : Int)) == 3) = false := rfl
    have d4 : ((((6 : Nat) : Int)) == 4) = false := rfl
    have d5 : ((((6 : Nat) : Int)) == 5) = false := rfl
    have d6 : ((((6 : Nat) : Int)) == 6) = true := rfl
    refine ⟨H6, ?_, trivial⟩
    simp -implicitDefEqProofs only [r_opt, r_ret, ob_some, ifB_true, iteV_true, iteV_false, r_gdt, r_gdt2, r_gdtf, r_gdtf2, r_gdff, r_gdff2, r_gdft, r_gdft2, r_gdu, r_gdu2, pick_t, pick_f, ext_0, ext_1, x_newB, r_nil, r_fAddr, Nat.zero_add, b_lss, b_leq, b_gtr, b_geq, b_eql, b_neq, u_not, Bool.not_true, Bool.not_false, oneOf_one, oneOf_two, again_normal, again_exit, again_ret, Bool.and_true, g1, plZ_is, cp, hk, l2, g3, en, l3, v1, v2, w1, w2, g4, k1, d0, d1, d2, d3, d4, d5, d6, s1, s2, s3, ee]
  · have hne : p.weights ≠ [] := fun h => by rw [h] at hwl; simp at hwl; omega
    have w4 := (hp.ext hx14).w
    have l8 := ld_pl b4 8 _ rfl
    have lw := w4.len
    have e1 : IntKind.i64.wrap ((p.weights.length : Int) - 1) = ((p.weights.length - 1 : Nat) : Int) := by rw [wrap_i64 (by omega) (by omega)]; omega
    obtain ⟨wv', t1, t2, t3⟩ := w4.sub (P := Try.prog) inC_len szI hne (lo := none) rfl (bnd_nat p.weights.length .i64 (p.weights.length - 1)) (Nat.zero_le _) (by omega)
    rw [List.drop_zero] at t2
    have hws' : ∀ H', Ext H1 H' → Is H' wv' (p.weights.take (p.weights.length - 1)) := fun H' hx => by
      obtain ⟨wv2, u1, u2, u3⟩ := ((hp.ext hx).w).sub (P := Try.prog) inC_len szI hne (lo := none) rfl (bnd_nat p.weights.length .i64 (p.weights.length - 1)) (Nat.zero_le _) (by omega)
      rw [List.drop_zero] at u2
      have : wv2 = wv' := sl_same u1 t1
      rw [← this]
      exact u2
    obtain ⟨r1, r2, _⟩ := Rs.shape t2
    obtain ⟨s1, s2, H6, s3⟩ := turn { p with weights := p.weights.take (p.weights.length - 1) } 8 wv' wv' r1 r2 (by omega) rfl rfl rfl hws' (by simp only [List.length_take]; omega) (ckBad (.inr (by
      have hl : p.lanes = ((1 + more % 3 : Nat) : Int) := by rw [hpp]; rfl
      simp only [List.length_take]
      omega)))
    rw [c] at k1
    have d0 : ((((7 : Nat) : Int)) == 0) = false := rfl
    have d1 : ((((7 : Nat) : Int)) == 1) = false := rfl
    have d2 : ((((7 : Nat) : Int)) == 2) = false := rfl
    have d3 : ((((7 : Nat) : Int)) == 3) = false := rfl
    have d4 : ((((7 : Nat) : Int)) == 4) = false := rfl
    have d5 : ((((7 : Nat) : Int)) == 5) = false := rfl
    have d6 : ((((7 : Nat) : Int)) == 6) = false := rfl
    refine ⟨H6, ?_, trivial⟩
    simp -implicitDefEqProofs only [r_opt, r_ret, ob_some, ifB_true, iteV_true, iteV_false, r_gdt, r_gdt2, r_gdtf, r_gdtf2, r_gdff, r_gdff2, r_gdft, r_gdft2, r_gdu, r_gdu2, pick_t, pick_f, ext_0, ext_1, x_newB, r_nil, r_fAddr, Nat.zero_add, b_lss, b_leq, b_gtr, b_geq, b_eql, b_neq, u_not, Bool.not_true, Bool.not_false, oneOf_one, oneOf_two, again_normal, again_exit, again_ret, Bool.and_true, g1, plZ_is, cp, hk, l2, g3, en, l3, v1, v2, w1, w2, g4, k1, d0, d1, d2, d3, d4, d5, d6, l8, lw, b_sub, e1, t1, s1, s2, s3, ee]
end

end Go.Proofs.Ytdobnaldfmpimaa
