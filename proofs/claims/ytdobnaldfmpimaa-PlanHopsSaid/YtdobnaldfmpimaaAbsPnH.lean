/-
  PLAN: PlanHops answers true.
-/
import Derived.Test.YtdobnaldfmpimaaAbsPnA
set_option linter.unusedSectionVars false
set_option linter.unusedSimpArgs false
set_option linter.unusedVariables false
set_option maxRecDepth 100000
namespace Go.Proofs.Ytdobnaldfmpimaa
open Go.Abs

section
variable {H : Heap} {m : Nat} {p : PlanD} {ev wv nv : Value}

theorem hopAt_mem {n : Nat} {E : List Ed} (hE : VE n E) (hn : n ≤ 6) {v : Nat} {x : Ed} : x ∈ hopAt E v ↔ x.1 = v ∧ x.2 ∈ bes E v := by
  unfold hopAt
  simp only [List.mem_map, List.mem_filter]
  constructor
  · rintro ⟨w, ⟨h1, _⟩, rfl⟩
    exact ⟨rfl, h1⟩
  · rintro ⟨h1, h2⟩
    obtain ⟨a, b⟩ := x
    simp only at h1 h2
    refine ⟨b, ⟨h2, ?_⟩, by rw [h1]⟩
    have := beside_in hE h2
    unfold wi
    simp
    omega
theorem hops_mem {n : Nat} {E : List Ed} (hE : VE n E) (hn : n ≤ 6) {x : Ed} : x ∈ (List.range n).flatMap (hopAt E) ↔ x.2 ∈ bes E x.1 := by
  rw [List.mem_flatMap]
  constructor
  · rintro ⟨v, _, h2⟩
    obtain ⟨h3, h4⟩ := (hopAt_mem hE hn).mp h2
    rw [h3]; exact h4
  · intro h
    have := beside_in hE h
    have e : ((x.1.toNat : Nat) : Int) = x.1 := by omega
    refine ⟨x.1.toNat, List.mem_range.mpr (by omega), (hopAt_mem hE hn).mpr ⟨e.symm, ?_⟩⟩
    rw [e]; exact h
theorem hops_pw {n : Nat} {E : List Ed} (hE : VE n E) (hn : n ≤ 6) : ((List.range n).flatMap (hopAt E)).Pairwise (fun a b => a.1 < b.1 ∨ (a.1 = b.1 ∧ a.2 < b.2)) := by
  rw [List.pairwise_flatMap]
  constructor
  · intro v _
    unfold hopAt
    rw [List.pairwise_map]
    exact (List.Pairwise.filter _ (bes_pw E v)).imp fun h => .inr ⟨rfl, h⟩
  · refine List.pairwise_lt_range.imp fun {a b} hab x hx y hy => ?_
    have h1 := ((hopAt_mem hE hn).mp hx).1
    have h2 := ((hopAt_mem hE hn).mp hy).1
    left; omega

theorem lhops_loop1 {H0 : Heap} {a i : Nat} {u : Value} {hs : List Ed} {x : Ed} {K : Ex → K (Value × Heap)} (hu : Hs H0 u hs) (hl : hs.length ≤ 100) (hp : PV H0 p ev wv nv) (hb : H0[a]? = some (plB p ev wv nv)) (hpl : p.edges.length ≤ 15) (hm : 200 < m) (hm2 : m ≤ 72057594037927936) (hx : hs[i]? = some x) (hany : (hs.any fun y => (y.1 == x.2) && (y.2 == x.1)) = true) (hpt : 1 ≤ portOf p.edges x.1 x.2)
    (hK : ∀ H', Ext H0 H' → ∀ (x0 x1 x2 x3 x4 x8 x9 x10 x11 x12 x13 x14 x15 x16 x17 x18 x19 x20 x21 x22 x23 x24 x25 x26 x27 x28 x29 x30 x31 x32 x33 x34 x35 x36 x37 x38 x39 x40 x41 x42 x43 x44 x45 x46 x47 x48 x49 x50 x51 x52 x53 x54 x55 x56 x57 x58 x59 x60 x61 x62 x63 x64 x65 x66 x67 x68 x69 x70 x71 x72 x73 x74 x75 x76 x77 x78 x79 x80 x81 x82 x83 x84 x85 x86 x87 x88 x89 x90 x91 x92 x93 x94 x95 x96 x97 x98 x99 x100 x101 x102 x103 x104 x105 x106 x107 x108 x109 x110 x111 x112 x113 x114 x115 x116 x117 x118 x119 x120 x121 x122 x123 x124 : Value), ∃ H2, K .normal [x0, x1, x2, x3, x4, (.pointer (some ⟨a, 0, none⟩)), u, (.int .i64 (i + 1 : Nat)), x8, x9, x10, x11, x12, x13, x14, x15, x16, x17, x18, x19, x20, x21, x22, x23, x24, x25, x26, x27, x28, x29, x30, x31, x32, x33, x34, x35, x36, x37, x38, x39, x40, x41, x42, x43, x44, x45, x46, x47, x48, x49, x50, x51, x52, x53, x54, x55, x56, x57, x58, x59, x60, x61, x62, x63, x64, x65, x66, x67, x68, x69, x70, x71, x72, x73, x74, x75, x76, x77, x78, x79, x80, x81, x82, x83, x84, x85, x86, x87, x88, x89, x90, x91, x92, x93, x94, x95, x96, x97, x98, x99, x100, x101, x102, x103, x104, x105, x106, x107, x108, x109, x110, x111, x112, x113, x114, x115, x116, x117, x118, x119, x120, x121, x122, x123, x124] H' = some (.bool true, H2)) :
    ∀ (q j k : Nat) (c : Bool), hs.length - j = q → j ≤ hs.length → q < k → c = ((hs.take j).any fun y => (y.1 == x.2) && (y.2 == x.1)) → ∀ (x0 x1 x2 x3 x4 x10 x11 x12 x13 x14 x15 x16 x17 x18 x19 x20 x21 x22 x23 x24 x25 x26 x27 x28 x29 x30 x31 x32 x33 x34 x35 x36 x37 x38 x39 x40 x41 x42 x43 x44 x45 x46 x47 x48 x49 x50 x51 x52 x53 x54 x55 x56 x57 x58 x59 x60 x61 x62 x63 x64 x65 x66 x67 x68 x69 x70 x71 x72 x73 x74 x75 x76 x77 x78 x79 x80 x81 x82 x83 x84 x85 x86 x87 x88 x89 x90 x91 x92 x93 x94 x95 x96 x97 x98 x99 x100 x101 x102 x103 x104 x105 x106 x107 x108 x109 x110 x111 x112 x113 x114 x115 x116 x117 x118 x119 x120 x121 x122 x123 x124 : Value),
    ∃ H', loopN k (runCode Try.prog (lvl Try.prog pk12 m) (loopN m) f4_c1) (f4_k1 (lvl Try.prog pk12 m) (loopN m) K) [x0, x1, x2, x3, x4, (.pointer (some ⟨a, 0, none⟩)), u, (.int .i64 (i : Nat)), (.bool c), (.int .i64 (j : Nat)), x10, x11, x12, x13, x14, x15, x16, x17, x18, x19, x20, x21, x22, x23, x24, x25, x26, x27, x28, x29, x30, x31, x32, x33, x34, x35, x36, x37, x38, x39, x40, x41, x42, x43, x44, x45, x46, x47, x48, x49, x50, x51, x52, x53, x54, x55, x56, x57, x58, x59, x60, x61, x62, x63, x64, x65, x66, x67, x68, x69, x70, x71, x72, x73, x74, x75, x76, x77, x78, x79, x80, x81, x82, x83, x84, x85, x86, x87, x88, x89, x90, x91, x92, x93, x94, x95, x96, x97, x98, x99, x100, x101, x102, x103, x104, x105, x106, x107, x108, x109, x110, x111, x112, x113, x114, x115, x116, x117, x118, x119, x120, x121, x122, x123, x124] H0 = some (.bool true, H') := by
  intro q
  have hil := (List.getElem?_eq_some_iff.mp hx).1
  have hlen := hu.len
  obtain ⟨b, o, g1, _, g3⟩ := hu.at_ edC_len hx .i64
  have l0 : ld1 (.pointer (some ⟨b, o + 0, none⟩)) H0 = some (.int .i64 x.1, H0) := (g3 H0 rfl).2.1 0 _ rfl
  have l1 : ld1 (.pointer (some ⟨b, o + 1, none⟩)) H0 = some (.int .i64 x.2, H0) := (g3 H0 rfl).2.1 1 _ rfl
  induction q with
  | zero =>
    intro j k c hr hj hk hc
    intros
    obtain ⟨k, rfl⟩ : ∃ n, k = n + 1 := ⟨k - 1, by omega⟩
    obtain rfl : hs.length = j := by omega
    rw [List.take_of_length_le (Nat.le_refl _), hany] at hc
    subst hc
    have e : decide ((hs.length : Int) < (hs.length : Nat)) = false := by simp
    have e3 : IntKind.i64.wrap ((i : Int) + 1) = ((i + 1 : Nat) : Int) := by rw [wrap_i64 (by omega) (by omega)]; omega
    have l11 := ld_pl11 hb
    obtain ⟨H2, p1, x2⟩ := port_is hp (m := m) (by omega) (by omega) x.1 x.2
    have d1 : decide (portOf p.edges x.1 x.2 < 1) = false := decide_eq_false (by omega)
    rw [loop_succ, f4_b1_eq]
    unfold f4_b1
    simp -implicitDefEqProofs only [r_opt, r_ret, ob_some, ifB_true, iteV_true, iteV_false, r_gdt, r_gdt2, r_gdtf, r_gdtf2, r_gdff, r_gdff2, r_gdft, r_gdft2, r_gdu, r_gdu2, pick_t, pick_f, ext_0, ext_1, x_newB, r_nil, r_fAddr, Nat.zero_add, b_lss, b_leq, b_gtr, b_geq, b_eql, b_neq, u_not, Bool.not_true, Bool.not_false, oneOf_one, oneOf_two, again_normal, again_exit, again_ret, Bool.and_true, hlen, e]
    rw [f4_e1_2_eq]
    unfold f4_e1_2
    simp -implicitDefEqProofs only [r_opt, r_ret, ob_some, ifB_true, iteV_true, iteV_false, r_gdt, r_gdt2, r_gdtf, r_gdtf2, r_gdff, r_gdff2, r_gdft, r_gdft2, r_gdu, r_gdu2, pick_t, pick_f, ext_0, ext_1, x_newB, r_nil, r_fAddr, Nat.zero_add, b_lss, b_leq, b_gtr, b_geq, b_eql, b_neq, u_not, Bool.not_true, Bool.not_false, oneOf_one, oneOf_two, again_normal, again_exit, again_ret, Bool.and_true, l11, g1, l0, l1, p1, d1, b_add, e3]
    exact hK H2 x2 ..
  | succ q ih =>
    intro j k c hr hj hk hc
    intros
    obtain ⟨k, rfl⟩ : ∃ n, k = n + 1 := ⟨k - 1, by omega⟩
    have e : decide ((j : Int) < (hs.length : Nat)) = true := decide_eq_true (by omega)
    have e3 : IntKind.i64.wrap ((j : Int) + 1) = ((j + 1 : Nat) : Int) := by rw [wrap_i64 (by omega) (by omega)]; omega
    obtain ⟨y, hy⟩ : ∃ y, hs[j]? = some y := ⟨_, List.getElem?_eq_getElem (by omega)⟩
    obtain ⟨b', o', g1', _, g3'⟩ := hu.at_ edC_len hy .i64
    have l0' : ld1 (.pointer (some ⟨b', o' + 0, none⟩)) H0 = some (.int .i64 y.1, H0) := (g3' H0 rfl).2.1 0 _ rfl
    have l1' : ld1 (.pointer (some ⟨b', o' + 1, none⟩)) H0 = some (.int .i64 y.2, H0) := (g3' H0 rfl).2.1 1 _ rfl
    have ht : ((hs.take (j + 1)).any fun y => (y.1 == x.2) && (y.2 == x.1)) = (c || ((y.1 == x.2) && (y.2 == x.1))) := by
      rw [List.take_add_one, hy, hc]; simp
    rw [loop_succ, f4_b1_eq]
    unfold f4_b1
    cases c with
    | true =>
      simp -implicitDefEqProofs only [r_opt, r_ret, ob_some, ifB_true, iteV_true, iteV_false, r_gdt, r_gdt2, r_gdtf, r_gdtf2, r_gdff, r_gdff2, r_gdft, r_gdft2, r_gdu, r_gdu2, pick_t, pick_f, ext_0, ext_1, x_newB, r_nil, r_fAddr, Nat.zero_add, b_lss, b_leq, b_gtr, b_geq, b_eql, b_neq, u_not, Bool.not_true, Bool.not_false, oneOf_one, oneOf_two, again_normal, again_exit, again_ret, Bool.and_true, hlen, e, b_add, e3]
      exact ih (j + 1) k true (by omega) (by omega) (by omega) (by rw [ht]; rfl) ..
    | false =>
      cases c1 : (y.1 == x.2) with
      | false =>
        simp -implicitDefEqProofs only [r_opt, r_ret, ob_some, ifB_true, iteV_true, iteV_false, r_gdt, r_gdt2, r_gdtf, r_gdtf2, r_gdff, r_gdff2, r_gdft, r_gdft2, r_gdu, r_gdu2, pick_t, pick_f, ext_0, ext_1, x_newB, r_nil, r_fAddr, Nat.zero_add, b_lss, b_leq, b_gtr, b_geq, b_eql, b_neq, u_not, Bool.not_true, Bool.not_false, oneOf_one, oneOf_two, again_normal, again_exit, again_ret, Bool.and_true, hlen, e, g1', l0', g1, l1, c1, b_add, e3]
        exact ih (j + 1) k false (by omega) (by omega) (by omega) (by rw [ht, c1]; rfl) ..
      | true =>
        simp -implicitDefEqProofs only [r_opt, r_ret, ob_some, ifB_true, iteV_true, iteV_false, r_gdt, r_gdt2, r_gdtf, r_gdtf2, r_gdff, r_gdff2, r_gdft, r_gdft2, r_gdu, r_gdu2, pick_t, pick_f, ext_0, ext_1, x_newB, r_nil, r_fAddr, Nat.zero_add, b_lss, b_leq, b_gtr, b_geq, b_eql, b_neq, u_not, Bool.not_true, Bool.not_false, oneOf_one, oneOf_two, again_normal, again_exit, again_ret, Bool.and_true, hlen, e, g1', l0', l1', g1, l0, l1, c1, b_add, e3]
        exact ih (j + 1) k _ (by omega) (by omega) (by omega) (by rw [ht, c1]; rfl) ..

theorem lhops_loop0 {H0 : Heap} {a n : Nat} {u : Value} (hn : p.nodes = (n : Int)) (hn6 : n ≤ 6) (hE : VE n p.edges) (hp : PV H0 p ev wv nv) (hb : H0[a]? = some (plB p ev wv nv)) (hu : Hs H0 u (hopsOf p)) (hm : 200 < m) (hm2 : m ≤ 72057594037927936) (hl : p.edges.length ≤ 15) :
    ∀ (q i k : Nat) (H1 : Heap), (hopsOf p).length - i = q → i ≤ (hopsOf p).length → q < k → Ext H0 H1 → ∀ (x0 x1 x2 x3 x4 x8 x9 x10 x11 x12 x13 x14 x15 x16 x17 x18 x19 x20 x21 x22 x23 x24 x25 x26 x27 x28 x29 x30 x31 x32 x33 x34 x35 x36 x37 x38 x39 x40 x41 x42 x43 x44 x45 x46 x47 x48 x49 x50 x51 x52 x53 x54 x55 x56 x57 x58 x59 x60 x61 x62 x63 x64 x65 x66 x67 x68 x69 x70 x71 x72 x73 x74 x75 x76 x77 x78 x79 x80 x81 x82 x83 x84 x85 x86 x87 x88 x89 x90 x91 x92 x93 x94 x95 x96 x97 x98 x99 x100 x101 x102 x103 x104 x105 x106 x107 x108 x109 x110 x111 x112 x113 x114 x115 x116 x117 x118 x119 x120 x121 x122 x123 x124 : Value),
    ∃ H', loopN k (runCode Try.prog (lvl Try.prog pk12 m) (loopN m) f4_c0) (f4_k0 (lvl Try.prog pk12 m) (loopN m)) [x0, x1, x2, x3, x4, (.pointer (some ⟨a, 0, none⟩)), u, (.int .i64 (i : Nat)), x8, x9, x10, x11, x12, x13, x14, x15, x16, x17, x18, x19, x20, x21, x22, x23, x24, x25, x26, x27, x28, x29, x30, x31, x32, x33, x34, x35, x36, x37, x38, x39, x40, x41, x42, x43, x44, x45, x46, x47, x48, x49, x50, x51, x52, x53, x54, x55, x56, x57, x58, x59, x60, x61, x62, x63, x64, x65, x66, x67, x68, x69, x70, x71, x72, x73, x74, x75, x76, x77, x78, x79, x80, x81, x82, x83, x84, x85, x86, x87, x88, x89, x90, x91, x92, x93, x94, x95, x96, x97, x98, x99, x100, x101, x102, x103, x104, x105, x106, x107, x108, x109, x110, x111, x112, x113, x114, x115, x116, x117, x118, x119, x120, x121, x122, x123, x124] H1 = some (.bool true, H') := by
  intro q
  have hN : hopN p = n := by unfold hopN; rw [hn]; omega
  have hho : hopsOf p = (List.range n).flatMap (hopAt p.edges) := by unfold hopsOf; rw [hN]
  have hh : (hopsOf p).length = sumB p.edges n := by rw [hho]; exact hops_sum hE hn6 n
  have hs := sumB_all p.edges (fun e he => hE.1 e he)
  induction q with
  | zero =>
    intro i k H1 hr hi hk he
    intros
    obtain ⟨k, rfl⟩ : ∃ n, k = n + 1 := ⟨k - 1, by omega⟩
    have e : decide ((i : Int) < ((hopsOf p).length : Nat)) = false := decide_eq_false (by omega)
    have hlen := (hu.ext he).len
    have b1 := ld_of hb he
    have le1 := ld_pl b1 1 _ rfl
    have hlen1 := (hp.ext he).e.len
    have hk := known12_is m (by omega) H1
    have d1 : (((hopsOf p).length : Int) == IntKind.i64.wrap (2 * (p.edges.length : Int))) = true := by
      rw [wrap_i64 (by omega) (by omega), hh, hs]
      simp
    rw [loop_succ, f4_b0_eq]
    unfold f4_b0
    simp -implicitDefEqProofs only [r_opt, r_ret, ob_some, ifB_true, iteV_true, iteV_false, r_gdt, r_gdt2, r_gdtf, r_gdtf2, r_gdff, r_gdff2, r_gdft, r_gdft2, r_gdu, r_gdu2, pick_t, pick_f, ext_0, ext_1, x_newB, r_nil, r_fAddr, Nat.zero_add, b_lss, b_leq, b_gtr, b_geq, b_eql, b_neq, u_not, Bool.not_true, Bool.not_false, oneOf_one, oneOf_two, again_normal, again_exit, again_ret, Bool.and_true, hlen, e]
    rw [f4_e0_0_eq]
    unfold f4_e0_0
    simp -implicitDefEqProofs only [r_opt, r_ret, ob_some, ifB_true, iteV_true, iteV_false, r_gdt, r_gdt2, r_gdtf, r_gdtf2, r_gdff, r_gdff2, r_gdft, r_gdft2, r_gdu, r_gdu2, pick_t, pick_f, ext_0, ext_1, x_newB, r_nil, r_fAddr, Nat.zero_add, b_lss, b_leq, b_gtr, b_geq, b_eql, b_neq, u_not, Bool.not_true, Bool.not_false, oneOf_one, oneOf_two, again_normal, again_exit, again_ret, Bool.and_true, hk, le1, hlen, hlen1, b_mul, d1]
    exact ⟨_, rfl⟩
  | succ q ih =>
    intro i k H1 hr hi hk he
    intros
    obtain ⟨k, rfl⟩ : ∃ n, k = n + 1 := ⟨k - 1, by omega⟩
    have e : decide ((i : Int) < ((hopsOf p).length : Nat)) = true := decide_eq_true (by omega)
    have hu1 : Hs H1 u (hopsOf p) := hu.ext he
    have hlen := hu1.len
    have b1 := ld_of hb he
    have hp1 := hp.ext he
    obtain ⟨x, hxi⟩ : ∃ x, (hopsOf p)[i]? = some x := ⟨_, List.getElem?_eq_getElem (by omega)⟩
    have hxm : x.2 ∈ bes p.edges x.1 := by
      have := List.mem_of_getElem? hxi
      rw [hho] at this
      exact (hops_mem hE hn6).mp this
    have hany : ((hopsOf p).any fun y => (y.1 == x.2) && (y.2 == x.1)) = true := by
      rw [List.any_eq_true]
      refine ⟨(x.2, x.1), ?_, by simp⟩
      rw [hho]
      exact (hops_mem hE hn6).mpr (beside_sym hxm)
    have next := lhops_loop1 (a := a) (i := i) (K := again k (runCode Try.prog (lvl Try.prog pk12 m) (loopN m) f4_c0) (f4_k0 (lvl Try.prog pk12 m) (loopN m))) hu1 (by omega) hp1 b1 hl hm hm2 hxi hany (port_pos hxm) (by
      intro H' hx
      intros
      simp -implicitDefEqProofs only [r_opt, r_ret, ob_some, ifB_true, iteV_true, iteV_false, r_gdt, r_gdt2, r_gdtf, r_gdtf2, r_gdff, r_gdff2, r_gdft, r_gdft2, r_gdu, r_gdu2, pick_t, pick_f, ext_0, ext_1, x_newB, r_nil, r_fAddr, Nat.zero_add, b_lss, b_leq, b_gtr, b_geq, b_eql, b_neq, u_not, Bool.not_true, Bool.not_false, oneOf_one, oneOf_two, again_normal, again_exit, again_ret, Bool.and_true]
      exact ih (i + 1) k H' (by omega) (by omega) (by omega) (he.tr hx) ..) (hopsOf p).length 0 m false (by omega) (by omega) (by omega) rfl
    rw [loop_succ, f4_b0_eq]
    unfold f4_b0
    by_cases h0 : i = 0
    · subst h0
      have dp : decide ((0 : Int) < ((0 : Nat) : Int)) = false := rfl
      simp -implicitDefEqProofs only [r_opt, r_ret, ob_some, ifB_true, iteV_true, iteV_false, r_gdt, r_gdt2, r_gdtf, r_gdtf2, r_gdff, r_gdff2, r_gdft, r_gdft2, r_gdu, r_gdu2, pick_t, pick_f, ext_0, ext_1, x_newB, r_nil, r_fAddr, Nat.zero_add, b_lss, b_leq, b_gtr, b_geq, b_eql, b_neq, u_not, Bool.not_true, Bool.not_false, oneOf_one, oneOf_two, again_normal, again_exit, again_ret, Bool.and_true, hlen, e, dp]
      exact next ..
    · have dp : decide ((0 : Int) < (i : Int)) = true := decide_eq_true (by omega)
      obtain ⟨y, hyi⟩ : ∃ y, (hopsOf p)[i - 1]? = some y := ⟨_, List.getElem?_eq_getElem (by omega)⟩
      obtain ⟨b, o, g1, _, g3⟩ := hu1.at_ edC_len hxi .i64
      have l0 : ld1 (.pointer (some ⟨b, o + 0, none⟩)) H1 = some (.int .i64 x.1, H1) := (g3 H1 rfl).2.1 0 _ rfl
      have l1 : ld1 (.pointer (some ⟨b, o + 1, none⟩)) H1 = some (.int .i64 x.2, H1) := (g3 H1 rfl).2.1 1 _ rfl
      obtain ⟨b', o', g1', _, g3'⟩ := hu1.at_ edC_len hyi .i64
      have l0' : ld1 (.pointer (some ⟨b', o' + 0, none⟩)) H1 = some (.int .i64 y.1, H1) := (g3' H1 rfl).2.1 0 _ rfl
      have l1' : ld1 (.pointer (some ⟨b', o' + 1, none⟩)) H1 = some (.int .i64 y.2, H1) := (g3' H1 rfl).2.1 1 _ rfl
      have e4 : IntKind.i64.wrap ((i : Int) - 1) = ((i - 1 : Nat) : Int) := by rw [wrap_i64 (by omega) (by omega)]; omega
      have hlt : y.1 < x.1 ∨ (y.1 = x.1 ∧ y.2 < x.2) := by
        have hpw := hops_pw hE hn6
        rw [← hho] at hpw
        obtain ⟨hi1, e1⟩ := List.getElem?_eq_some_iff.mp hyi
        obtain ⟨hi2, e2⟩ := List.getElem?_eq_some_iff.mp hxi
        have := List.pairwise_iff_getElem.mp hpw (i - 1) i hi1 hi2 (by omega)
        rw [e1, e2] at this
        exact this
      have d1 : decide (x.1 < y.1) = false := decide_eq_false (by omega)
      rcases hlt with hlt | ⟨h1, h2⟩
      · have d2 : (x.1 == y.1) = false := by simp; omega
        simp -implicitDefEqProofs only [r_opt, r_ret, ob_some, ifB_true, iteV_true, iteV_false, r_gdt, r_gdt2, r_gdtf, r_gdtf2, r_gdff, r_gdff2, r_gdft, r_gdft2, r_gdu, r_gdu2, pick_t, pick_f, ext_0, ext_1, x_newB, r_nil, r_fAddr, Nat.zero_add, b_lss, b_leq, b_gtr, b_geq, b_eql, b_neq, u_not, Bool.not_true, Bool.not_false, oneOf_one, oneOf_two, again_normal, again_exit, again_ret, Bool.and_true, hlen, e, dp, b_sub, e4, g1, l0, g1', l0', d1, d2]
        exact next ..
      · have d2 : (x.1 == y.1) = true := by simp; omega
        have d3 : decide (x.2 ≤ y.2) = false := decide_eq_false (by omega)
        simp -implicitDefEqProofs only [r_opt, r_ret, ob_some, ifB_true, iteV_true, iteV_false, r_gdt, r_gdt2, r_gdtf, r_gdtf2, r_gdff, r_gdff2, r_gdft, r_gdft2, r_gdu, r_gdu2, pick_t, pick_f, ext_0, ext_1, x_newB, r_nil, r_fAddr, Nat.zero_add, b_lss, b_leq, b_gtr, b_geq, b_eql, b_neq, u_not, Bool.not_true, Bool.not_false, oneOf_one, oneOf_two, again_normal, again_exit, again_ret, Bool.and_true, hlen, e, dp, b_sub, e4, g1, l0, l1, g1', l0', l1', d1, d2, d3]
        exact next ..

theorem planHops_true (nodes joined : Nat) (h1 : nodes < 256) (h4 : joined < 65536) :
    ∃ H', lvl Try.prog pk12 18014398509481984 (.func 4) [.int .u8 nodes, .int .u16 joined] H = some (.bool true, H') ∧ True := by
  obtain ⟨H1, u, g1, hmd⟩ := make_is (m := 18014398509481984 - 1) nodes 0 0 joined h1 (by omega) (by omega) h4 (us_nil H) (by simp) (by simp) (by omega)
  obtain ⟨ev, wv, nv, rfl, x1, hp⟩ := hmd.pv
  obtain ⟨p, hpp⟩ : ∃ p, p = mkP nodes 0 0 joined [] := ⟨_, rfl⟩
  have hE := mk_ve nodes 0 0 joined []
  have hl := mk_e15 nodes 0 0 joined []
  have hn : (mkP nodes 0 0 joined []).nodes = (mkN nodes : Int) := rfl
  rw [← hpp] at hp g1 hE hl hn
  rw [hn] at hE
  have cp := pl_copy hp H1
  obtain ⟨H2, hH2⟩ : ∃ H2, H2 = H1 ++ [plB p ev wv nv] := ⟨_, rfl⟩
  rw [← hH2] at cp
  have x2 : Ext H1 H2 := by rw [hH2]; exact Fr.app _ _ _
  have b2 : H2[H1.length]? = some (plB p ev wv nv) := by rw [hH2]; exact at_last _ _
  have l2 := ld_pl11 b2
  have z0 : ((0 : Nat) : Int) = 0 := rfl
  simp only [z0] at g1
  obtain ⟨H3, u3, g3, x3, q3, _⟩ := hops_is (hp.ext x2) (m := 18014398509481984 - 1) (by omega) (by omega)
  have hhl := hops_len p
  refine lvl_ex1 (pk_no rfl rfl) (by omega) ?_
  rw [f4_eq]
  unfold f4
  simp -implicitDefEqProofs only [r_opt, r_ret, ob_some, ifB_true, iteV_true, iteV_false, r_gdt, r_gdt2, r_gdtf, r_gdtf2, r_gdff, r_gdff2, r_gdft, r_gdft2, r_gdu, r_gdu2, pick_t, pick_f, ext_0, ext_1, x_newB, r_nil, r_fAddr, Nat.zero_add, b_lss, b_leq, b_gtr, b_geq, b_eql, b_neq, u_not, Bool.not_true, Bool.not_false, oneOf_one, oneOf_two, again_normal, again_exit, again_ret, Bool.and_true, g1, plZ_is, cp, l2, g3]
  exact Exists.imp (fun H' h => ⟨h, trivial⟩) (lhops_loop0 (m := 18014398509481984 - 1) hn (mkN_is nodes).2 hE ((hp.ext x2).ext x3) (ld_of b2 x3) q3.rs (by omega) (by omega) hl (hopsOf p).length 0 (18014398509481984 - 1) H3 (by omega) (by omega) (by omega) (Fr.refl _ _) ..)
end

end Go.Proofs.Ytdobnaldfmpimaa
