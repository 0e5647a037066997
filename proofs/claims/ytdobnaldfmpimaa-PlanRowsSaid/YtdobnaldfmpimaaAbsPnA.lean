/-
  PLAN: PlanBeside answers true.
-/
import Derived.Test.YtdobnaldfmpimaaAbsPn9
set_option linter.unusedSectionVars false
set_option linter.unusedSimpArgs false
set_option linter.unusedVariables false
set_option maxRecDepth 100000
namespace Go.Proofs.Ytdobnaldfmpimaa
open Go.Abs

section
variable {H : Heap} {m : Nat} {p : PlanD} {ev wv nv : Value}

theorem sumB_le (E : List Ed) : ∀ n, sumB E n ≤ n * E.length
  | 0 => by simp [sumB]
  | n + 1 => by
    have ih := sumB_le E n
    have := cand_le (n : Int) E
    rw [Nat.succ_mul]
    unfold sumB
    omega
theorem us_nil (H : Heap) : Us H (.slice none 0 0) [] := .inl ⟨rfl, rfl⟩

theorem lbeside_loop1 {H0 : Heap} {a v : Nat} {n many : Int} {u : Value} {K : Ex → K (Value × Heap)} (hE : VE n p.edges) (hp : PV H0 p ev wv nv) (hb : H0[a]? = some (plB p ev wv nv)) (hm : 200 < m) (hm2 : m ≤ 72057594037927936) (hl : p.edges.length ≤ 15) (hv : v < 100)
    (hK : ∀ H', Ext H0 H' → ∀ (x0 x1 x2 x3 x4 x8 x9 x10 x11 x12 x13 x14 x15 x16 x17 x18 x19 x20 x21 x22 x23 x24 x25 x26 x27 x28 x29 x30 x31 x32 x33 x34 x35 x36 x37 x38 x39 x40 x41 x42 x43 x44 x45 x46 x47 x48 x49 x50 x51 x52 x53 x54 x55 x56 x57 x58 x59 x60 x61 x62 x63 x64 x65 x66 x67 x68 x69 x70 x71 x72 x73 x74 x75 x76 x77 x78 x79 x80 x81 x82 x83 x84 x85 x86 x87 x88 x89 x90 x91 : Value), ∃ H2, K .normal [x0, x1, x2, x3, x4, (.pointer (some ⟨a, 0, none⟩)), (.int .i64 many), (.int .i64 (v + 1 : Nat)), x8, x9, x10, x11, x12, x13, x14, x15, x16, x17, x18, x19, x20, x21, x22, x23, x24, x25, x26, x27, x28, x29, x30, x31, x32, x33, x34, x35, x36, x37, x38, x39, x40, x41, x42, x43, x44, x45, x46, x47, x48, x49, x50, x51, x52, x53, x54, x55, x56, x57, x58, x59, x60, x61, x62, x63, x64, x65, x66, x67, x68, x69, x70, x71, x72, x73, x74, x75, x76, x77, x78, x79, x80, x81, x82, x83, x84, x85, x86, x87, x88, x89, x90, x91] H' = some (.bool true, H2)) :
    ∀ (q i k : Nat) (H1 : Heap), (bes p.edges v).length - i = q → i ≤ (bes p.edges v).length → q < k → Ext H0 H1 → Is H1 u (bes p.edges v) → ∀ (x0 x1 x2 x3 x4 x10 x11 x12 x13 x14 x15 x16 x17 x18 x19 x20 x21 x22 x23 x24 x25 x26 x27 x28 x29 x30 x31 x32 x33 x34 x35 x36 x37 x38 x39 x40 x41 x42 x43 x44 x45 x46 x47 x48 x49 x50 x51 x52 x53 x54 x55 x56 x57 x58 x59 x60 x61 x62 x63 x64 x65 x66 x67 x68 x69 x70 x71 x72 x73 x74 x75 x76 x77 x78 x79 x80 x81 x82 x83 x84 x85 x86 x87 x88 x89 x90 x91 : Value),
    ∃ H', loopN k (runCode Try.prog (lvl Try.prog pk12 m) (loopN m) f8_c1) (f8_k1 (lvl Try.prog pk12 m) (loopN m) K) [x0, x1, x2, x3, x4, (.pointer (some ⟨a, 0, none⟩)), (.int .i64 many), (.int .i64 (v : Nat)), u, (.int .i64 (i : Nat)), x10, x11, x12, x13, x14, x15, x16, x17, x18, x19, x20, x21, x22, x23, x24, x25, x26, x27, x28, x29, x30, x31, x32, x33, x34, x35, x36, x37, x38, x39, x40, x41, x42, x43, x44, x45, x46, x47, x48, x49, x50, x51, x52, x53, x54, x55, x56, x57, x58, x59, x60, x61, x62, x63, x64, x65, x66, x67, x68, x69, x70, x71, x72, x73, x74, x75, x76, x77, x78, x79, x80, x81, x82, x83, x84, x85, x86, x87, x88, x89, x90, x91] H1 = some (.bool true, H') := by
  intro q
  have hbl := bes_le p.edges v
  induction q with
  | zero =>
    intro i k H1 hr hi hk he hu
    intros
    obtain ⟨k, rfl⟩ : ∃ n, k = n + 1 := ⟨k - 1, by omega⟩
    have e : decide ((i : Int) < ((bes p.edges v).length : Nat)) = false := decide_eq_false (by omega)
    have hlen := hu.len
    have e3 : IntKind.i64.wrap ((v : Int) + 1) = ((v + 1 : Nat) : Int) := by rw [wrap_i64 (by omega) (by omega)]; omega
    rw [loop_succ, f8_b1_eq]
    unfold f8_b1
    simp -implicitDefEqProofs only [r_opt, r_ret, ob_some, ifB_true, iteV_true, iteV_false, r_gdt, r_gdt2, r_gdtf, r_gdtf2, r_gdff, r_gdff2, r_gdft, r_gdft2, r_gdu, r_gdu2, pick_t, pick_f, ext_0, ext_1, x_newB, r_nil, r_fAddr, Nat.zero_add, b_lss, b_leq, b_gtr, b_geq, b_eql, b_neq, u_not, Bool.not_true, Bool.not_false, oneOf_one, oneOf_two, again_normal, again_exit, again_ret, Bool.and_true, hlen, e]
    rw [f8_e1_2_eq]
    unfold f8_e1_2
    simp -implicitDefEqProofs only [r_opt, r_ret, ob_some, ifB_true, iteV_true, iteV_false, r_gdt, r_gdt2, r_gdtf, r_gdtf2, r_gdff, r_gdff2, r_gdft, r_gdft2, r_gdu, r_gdu2, pick_t, pick_f, ext_0, ext_1, x_newB, r_nil, r_fAddr, Nat.zero_add, b_lss, b_leq, b_gtr, b_geq, b_eql, b_neq, u_not, Bool.not_true, Bool.not_false, oneOf_one, oneOf_two, again_normal, again_exit, again_ret, Bool.and_true, b_add, e3]
    exact hK H1 he ..
  | succ q ih =>
    intro i k H1 hr hi hk he hu
    intros
    obtain ⟨k, rfl⟩ : ∃ n, k = n + 1 := ⟨k - 1, by omega⟩
    have e : decide ((i : Int) < ((bes p.edges v).length : Nat)) = true := decide_eq_true (by omega)
    have hlen := hu.len
    have e3 : IntKind.i64.wrap ((i : Int) + 1) = ((i + 1 : Nat) : Int) := by rw [wrap_i64 (by omega) (by omega)]; omega
    obtain ⟨x, hxi⟩ : ∃ x, (bes p.edges v)[i]? = some x := ⟨_, List.getElem?_eq_getElem (by omega)⟩
    have hmem : x ∈ bes p.edges v := List.mem_of_getElem? hxi
    have l11 := ld_pl11 (ld_of hb he)
    have hp1 := hp.ext he
    obtain ⟨b, o, g1, g2, g3⟩ := hu.at_ inC_len hxi .i64
    have hbl1 : b < H1.length := by
      have := (g3 H1 rfl).1
      unfold ldN at this
      simp only at this
      cases hbb : H1[b]? with
      | none => rw [hbb] at this; simp at this
      | some y => exact (List.getElem?_eq_some_iff.mp hbb).1
    have l1 : ld1 (.pointer (some ⟨b, o, none⟩)) H1 = some (.int .i64 x, H1) := (g3 H1 rfl).2.1 0 _ rfl
    obtain ⟨H2, p1, x2⟩ := port_is hp1 (m := m) (by omega) (by omega) (v : Int) x
    rw [port_at hxi] at p1
    have l12 := ld_pl11 (ld_of (ld_of hb he) x2)
    have l2 : ld1 (.pointer (some ⟨b, o, none⟩)) H2 = some (.int .i64 x, H2) := (g3 H2 (x2.2 b hbl1 id)).2.1 0 _ rfl
    obtain ⟨H3, p2, x3⟩ := port_is (hp1.ext x2) (m := m) (by omega) (by omega) x (v : Int)
    have hpos := port_pos (E := p.edges) (v := x) (w := (v : Int)) (beside_sym hmem)
    have d1 : decide (portOf p.edges x v < 1) = false := decide_eq_false (by omega)
    have l3 : ld1 (.pointer (some ⟨b, o, none⟩)) H3 = some (.int .i64 x, H3) := (g3 H3 (by rw [x3.2 b (Nat.lt_of_lt_of_le hbl1 x2.1) id, x2.2 b hbl1 id])).2.1 0 _ rfl
    have d0 : (((i : Int) + 1) != ((i + 1 : Nat) : Int)) = false := by simp
    have dv : (x == (v : Int)) = false := by
      have := (beside_mem.mp hmem).1
      simp; omega
    have hx3 := (he.tr x2).tr x3
    have hu3 : Is H3 u (bes p.edges v) := (hu.ext x2).ext x3
    rw [loop_succ, f8_b1_eq]
    unfold f8_b1
    by_cases h0 : i = 0
    · subst h0
      have dp : decide ((0 : Int) < ((0 : Nat) : Int)) = false := rfl
      simp -implicitDefEqProofs only [r_opt, r_ret, ob_some, ifB_true, iteV_true, iteV_false, r_gdt, r_gdt2, r_gdtf, r_gdtf2, r_gdff, r_gdff2, r_gdft, r_gdft2, r_gdu, r_gdu2, pick_t, pick_f, ext_0, ext_1, x_newB, r_nil, r_fAddr, Nat.zero_add, b_lss, b_leq, b_gtr, b_geq, b_eql, b_neq, u_not, Bool.not_true, Bool.not_false, oneOf_one, oneOf_two, again_normal, again_exit, again_ret, Bool.and_true, hlen, e, l11, g1, l1, p1, b_add, e3, d0, l12, l2, p2, d1, l3, dv, dp]
      exact ih _ k H3 (by omega) (by omega) (by omega) hx3 hu3 ..
    · have dp : decide ((0 : Int) < (i : Int)) = true := decide_eq_true (by omega)
      obtain ⟨y, hyi⟩ : ∃ y, (bes p.edges v)[i - 1]? = some y := ⟨_, List.getElem?_eq_getElem (by omega)⟩
      obtain ⟨c, o2, g4, _, g6⟩ := hu3.at_ inC_len hyi .i64
      have l4 : ld1 (.pointer (some ⟨c, o2, none⟩)) H3 = some (.int .i64 y, H3) := (g6 H3 rfl).2.1 0 _ rfl
      have e4 : IntKind.i64.wrap ((i : Int) - 1) = ((i - 1 : Nat) : Int) := by rw [wrap_i64 (by omega) (by omega)]; omega
      have hlt : y < x := by
        have hpw := bes_pw p.edges v
        obtain ⟨hi1, e1⟩ := List.getElem?_eq_some_iff.mp hyi
        obtain ⟨hi2, e2⟩ := List.getElem?_eq_some_iff.mp hxi
        have := List.pairwise_iff_getElem.mp hpw (i - 1) i hi1 hi2 (by omega)
        omega
      have dy : decide (x ≤ y) = false := decide_eq_false (by omega)
      simp -implicitDefEqProofs only [r_opt, r_ret, ob_some, ifB_true, iteV_true, iteV_false, r_gdt, r_gdt2, r_gdtf, r_gdtf2, r_gdff, r_gdff2, r_gdft, r_gdft2, r_gdu, r_gdu2, pick_t, pick_f, ext_0, ext_1, x_newB, r_nil, r_fAddr, Nat.zero_add, b_lss, b_leq, b_gtr, b_geq, b_eql, b_neq, u_not, Bool.not_true, Bool.not_false, oneOf_one, oneOf_two, again_normal, again_exit, again_ret, Bool.and_true, hlen, e, l11, g1, l1, p1, b_add, b_sub, e3, d0, l12, l2, p2, d1, l3, dv, dp, g4, l4, e4, dy]
      exact ih _ k H3 (by omega) (by omega) (by omega) hx3 hu3 ..

theorem lbeside_loop0 {H0 : Heap} {a n : Nat} (hn : p.nodes = (n : Int)) (hn6 : n ≤ 6) (hE : VE n p.edges) (hp : PV H0 p ev wv nv) (hb : H0[a]? = some (plB p ev wv nv)) (hm : 200 < m) (hm2 : m ≤ 72057594037927936) (hl : p.edges.length ≤ 15) :
    ∀ (q i k : Nat) (H1 : Heap), n - i = q → i ≤ n → q < k → Ext H0 H1 → ∀ (x0 x1 x2 x3 x4 x8 x9 x10 x11 x12 x13 x14 x15 x16 x17 x18 x19 x20 x21 x22 x23 x24 x25 x26 x27 x28 x29 x30 x31 x32 x33 x34 x35 x36 x37 x38 x39 x40 x41 x42 x43 x44 x45 x46 x47 x48 x49 x50 x51 x52 x53 x54 x55 x56 x57 x58 x59 x60 x61 x62 x63 x64 x65 x66 x67 x68 x69 x70 x71 x72 x73 x74 x75 x76 x77 x78 x79 x80 x81 x82 x83 x84 x85 x86 x87 x88 x89 x90 x91 : Value),
    ∃ H', loopN k (runCode Try.prog (lvl Try.prog pk12 m) (loopN m) f8_c0) (f8_k0 (lvl Try.prog pk12 m) (loopN m)) [x0, x1, x2, x3, x4, (.pointer (some ⟨a, 0, none⟩)), (.int .i64 (sumB p.edges i : Nat)), (.int .i64 (i : Nat)), x8, x9, x10, x11, x12, x13, x14, x15, x16, x17, x18, x19, x20, x21, x22, x23, x24, x25, x26, x27, x28, x29, x30, x31, x32, x33, x34, x35, x36, x37, x38, x39, x40, x41, x42, x43, x44, x45, x46, x47, x48, x49, x50, x51, x52, x53, x54, x55, x56, x57, x58, x59, x60, x61, x62, x63, x64, x65, x66, x67, x68, x69, x70, x71, x72, x73, x74, x75, x76, x77, x78, x79, x80, x81, x82, x83, x84, x85, x86, x87, x88, x89, x90, x91] H1 = some (.bool true, H') := by
  intro q
  induction q with
  | zero =>
    intro i k H1 hr hi hk he
    intros
    obtain ⟨k, rfl⟩ : ∃ n, k = n + 1 := ⟨k - 1, by omega⟩
    obtain rfl : i = n := by omega
    have e : decide ((i : Int) < (i : Int)) = false := by simp
    have b1 := ld_of hb he
    have l0 := ld_pl b1 0 _ rfl
    rw [hn] at l0
    have le1 := ld_pl b1 1 _ rfl
    have hp1 := hp.ext he
    have hlen := hp1.e.len
    have l11 := ld_pl11 b1
    have hk := known12_is m (by omega) H1
    have hs := sumB_all p.edges (fun e he => hE.1 e he)
    obtain ⟨H2, u2, g2, x2, q2, _⟩ := hops_is hp1 (m := m) (by omega) (by omega)
    have hlen2 := q2.len
    have hN : hopN p = i := by unfold hopN; rw [hn]; omega
    have hh : (hopsOf p).length = sumB p.edges i := by unfold hopsOf; rw [hN]; exact hops_sum hE hn6 i
    have d1 : ((sumB p.edges i : Int) == IntKind.i64.wrap (2 * (p.edges.length : Int))) = true := by
      rw [wrap_i64 (by omega) (by omega), hs]
      simp
    have d2 : (((hopsOf p).length : Int) == (sumB p.edges i : Int)) = true := by rw [hh]; simp
    rw [loop_succ, f8_b0_eq]
    unfold f8_b0
    simp -implicitDefEqProofs only [r_opt, r_ret, ob_some, ifB_true, iteV_true, iteV_false, r_gdt, r_gdt2, r_gdtf, r_gdtf2, r_gdff, r_gdff2, r_gdft, r_gdft2, r_gdu, r_gdu2, pick_t, pick_f, ext_0, ext_1, x_newB, r_nil, r_fAddr, Nat.zero_add, b_lss, b_leq, b_gtr, b_geq, b_eql, b_neq, u_not, Bool.not_true, Bool.not_false, oneOf_one, oneOf_two, again_normal, again_exit, again_ret, Bool.and_true, l0, e]
    rw [f8_e0_0_eq]
    unfold f8_e0_0
    simp -implicitDefEqProofs only [r_opt, r_ret, ob_some, ifB_true, iteV_true, iteV_false, r_gdt, r_gdt2, r_gdtf, r_gdtf2, r_gdff, r_gdff2, r_gdft, r_gdft2, r_gdu, r_gdu2, pick_t, pick_f, ext_0, ext_1, x_newB, r_nil, r_fAddr, Nat.zero_add, b_lss, b_leq, b_gtr, b_geq, b_eql, b_neq, u_not, Bool.not_true, Bool.not_false, oneOf_one, oneOf_two, again_normal, again_exit, again_ret, Bool.and_true, hk, le1, hlen, b_mul, d1, l11, g2, hlen2, d2]
    exact ⟨_, rfl⟩
  | succ q ih =>
    intro i k H1 hr hi hk he
    intros
    obtain ⟨k, rfl⟩ : ∃ n, k = n + 1 := ⟨k - 1, by omega⟩
    have e : decide ((i : Int) < (n : Int)) = true := decide_eq_true (by omega)
    have b1 := ld_of hb he
    have l0 := ld_pl b1 0 _ rfl
    rw [hn] at l0
    have hp1 := hp.ext he
    have l11 := ld_pl11 b1
    obtain ⟨H2, u2, g2, x2, q2, _⟩ := beside_is hp1 (m := m) (by omega) (by omega) (i : Int)
    have hlen := q2.rs.len
    have hbl := bes_le p.edges i
    have hsl := sumB_le p.edges i
    have hsl2 : i * p.edges.length ≤ 6 * 15 := Nat.mul_le_mul (by omega) hl
    have e4 : IntKind.i64.wrap ((sumB p.edges i : Int) + ((bes p.edges i).length : Int)) = ((sumB p.edges (i + 1) : Nat) : Int) := by
      rw [wrap_i64 (by omega) (by omega)]
      have := bes_cand hE (i : Int)
      simp only [sumB]
      omega
    rw [loop_succ, f8_b0_eq]
    unfold f8_b0
    simp -implicitDefEqProofs only [r_opt, r_ret, ob_some, ifB_true, iteV_true, iteV_false, r_gdt, r_gdt2, r_gdtf, r_gdtf2, r_gdff, r_gdff2, r_gdft, r_gdft2, r_gdu, r_gdu2, pick_t, pick_f, ext_0, ext_1, x_newB, r_nil, r_fAddr, Nat.zero_add, b_lss, b_leq, b_gtr, b_geq, b_eql, b_neq, u_not, Bool.not_true, Bool.not_false, oneOf_one, oneOf_two, again_normal, again_exit, again_ret, Bool.and_true, l0, e, l11, g2, hlen, b_add, e4]
    refine lbeside_loop1 hE (hp1.ext x2) (ld_of b1 x2) hm hm2 hl (by omega) (fun H' hx => ?_) (bes p.edges i).length 0 m H2 (by omega) (by omega) (by omega) (Fr.refl _ _) q2.rs ..
    intros
    simp -implicitDefEqProofs only [r_opt, r_ret, ob_some, ifB_true, iteV_true, iteV_false, r_gdt, r_gdt2, r_gdtf, r_gdtf2, r_gdff, r_gdff2, r_gdft, r_gdft2, r_gdu, r_gdu2, pick_t, pick_f, ext_0, ext_1, x_newB, r_nil, r_fAddr, Nat.zero_add, b_lss, b_leq, b_gtr, b_geq, b_eql, b_neq, u_not, Bool.not_true, Bool.not_false, oneOf_one, oneOf_two, again_normal, again_exit, again_ret, Bool.and_true]
    exact ih (i + 1) k H' (by omega) (by omega) (by omega) ((he.tr x2).tr hx) ..

theorem planBeside_true (nodes joined : Nat) (h1 : nodes < 256) (h4 : joined < 65536) :
    ∃ H', lvl Try.prog pk12 18014398509481984 (.func 8) [.int .u8 nodes, .int .u16 joined] H = some (.bool true, H') ∧ True := by
  obtain ⟨H1, u, g1, hmd⟩ := make_is (m := 18014398509481984 - 1) nodes 0 0 joined h1 (by omega) (by omega) h4 (us_nil H) (by simp) (by simp) (by omega)
  obtain ⟨ev, wv, nv, rfl, x1, hp⟩ := hmd.pv
  obtain ⟨p, hpp⟩ : ∃ p, p = mkP nodes 0 0 joined [] := ⟨_, rfl⟩
  have hE := mk_ve nodes 0 0 joined []
  have hl := mk_e15 nodes 0 0 joined []
  have hn : (mkP nodes 0 0 joined []).nodes = (mkN nodes : Int) := rfl
  rw [← hpp] at hp g1 hE hl hn
  rw [hn] at hE
  have cp := pl_copy hp H1
  obtain ⟨H2, hH2⟩ : ∃ H2, H2 = H1 ++ [plB p ev wv nv] := ⟨_, rfl⟩
  rw [← hH2] at cp
  have x2 : Ext H1 H2 := by rw [hH2]; exact Fr.app _ _ _
  have b2 : H2[H1.length]? = some (plB p ev wv nv) := by rw [hH2]; exact at_last _ _
  have z0 : ((0 : Nat) : Int) = 0 := rfl
  simp only [z0] at g1
  refine lvl_ex1 (pk_no rfl rfl) (by omega) ?_
  rw [f8_eq]
  unfold f8
  simp -implicitDefEqProofs only [r_opt, r_ret, ob_some, ifB_true, iteV_true, iteV_false, r_gdt, r_gdt2, r_gdtf, r_gdtf2, r_gdff, r_gdff2, r_gdft, r_gdft2, r_gdu, r_gdu2, pick_t, pick_f, ext_0, ext_1, x_newB, r_nil, r_fAddr, Nat.zero_add, b_lss, b_leq, b_gtr, b_geq, b_eql, b_neq, u_not, Bool.not_true, Bool.not_false, oneOf_one, oneOf_two, again_normal, again_exit, again_ret, Bool.and_true, g1, plZ_is, cp]
  exact Exists.imp (fun H' h => ⟨h, trivial⟩) (lbeside_loop0 (m := 18014398509481984 - 1) hn (mkN_is nodes).2 hE (hp.ext x2) b2 (by omega) (by omega) hl (mkN nodes) 0 (18014398509481984 - 1) H2 (by omega) (by omega) (by have := (mkN_is nodes).2; omega) (Fr.refl _ _) ..)
end

end Go.Proofs.Ytdobnaldfmpimaa
