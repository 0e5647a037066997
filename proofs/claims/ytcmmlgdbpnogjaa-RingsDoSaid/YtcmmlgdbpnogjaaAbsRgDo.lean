/-
  RingsDo answers true.
-/
import Derived.Test.YtcmmlgdbpnogjaaAbsRgRef2
set_option linter.unusedSectionVars false
set_option linter.unusedSimpArgs false
set_option linter.unusedVariables false
set_option maxRecDepth 100000
namespace Go.Proofs.Ytcmmlgdbpnogjaa
open Go.Abs

def AB (x : Blk) : Prop := AR x ∨ AE x
theorem nB_op (y : ROp) : ¬ AB (opB y) := by simp [AB, AR, AE, opB]
theorem nE_op (y : ROp) : ¬ AE (opB y) := by simp [AE, opB]
theorem nE_pk (y : Pkt) : ¬ AE (pkB y) := by simp [AE, pkB]
theorem nB_ro (cs : List Value) (e : TypeId) : ¬ AB (.cells cs e .ro) := by simp [AB, AR, AE]
theorem AR_E (x : Blk) (h : AR x) : ¬ AE x := fun h' => AE_S x h' (.inl h)
theorem rf_len (L : List En) : (rf L).length = L.length := by simp [rf]

section
variable {H : Heap} {a r n ports lanes m : Nat} {L : List En}

theorem does8_is (hR : IsRings H a L n ports lanes) (hF : RRef H r (rf L) n ports lanes) (hm : 400 < m) (y : ROp) (hy : y.kind < 256) : ∃ H', lvl Try.prog pk8 m (.func 37) [.pointer (some ⟨a, 0, none⟩), .pointer (some ⟨r, 0, none⟩), y.val] H = some (.bool true, H') ∧ Ch AB H H' ∧ ∃ L', IsRings H' a L' n ports lanes ∧ RRef H' r (rf L') n ports lanes := by
  have hfew := hR.few
  have hl := rf_len L
  have c0 : Blk.cells y.val.cells.toList 58 .fix = opB y := rfl
  have i1 := hR.app [opB y]
  have r1 := hF.ext (H' := H ++ [opB y]) (Fr.app _ _ _)
  have f0 := ld_opj (H := H ++ [opB y]) (b := H.length) (y := y) (by simp) 0 _ rfl
  have f1 := ld_opj (H := H ++ [opB y]) (b := H.length) (y := y) (by simp) 1 _ rfl
  have f2 := ld_opj (H := H ++ [opB y]) (b := H.length) (y := y) (by simp) 2 _ rfl
  have f3 := ld_opj (H := H ++ [opB y]) (b := H.length) (y := y) (by simp) 3 _ rfl
  have f5 := ld_opx (H := H ++ [opB y]) (b := H.length) (y := y) (by simp)
  have r6 : bin Try.prog .rem 5 (.int .u8 y.kind) (.int .u8 6) = some (.int .u8 (y.kind % 6 : Nat)) := by rw [b_rem _ _ _ _ (by omega), Int.tmod_eq_emod_of_nonneg (by omega)]; congr 2
  have hob : (H ++ [opB y])[H.length]? = some (opB y) := by simp
  have hp : pkR (rf L) y.w = pkOf L y.w := pkR_rf L y.w
  obtain ⟨x, hx⟩ : ∃ x, x = (pkOf L y.w).headD pk0 := ⟨_, rfl⟩
  obtain ⟨bb, hbb⟩ : ∃ bb, bb = !(pkOf L y.w).isEmpty := ⟨_, rfl⟩
  have hv : headV (pkOf L y.w) = .tuple #[x.val, .bool bb] := by rw [hx, hbb]; rfl
  have eb : (bb == bb) = true := by simp
  have hp' : pkOf L (y.i, y.o, y.l) = pkOf L y.w := rfl
  have hp2 : pkR (rf L) (y.i, y.o, y.l) = pkOf L y.w := hp
  -- the taking out
  have pops : ∃ H2 H4, lvl Try.prog pk8 (m - 1) (.func 35) [.pointer (some ⟨a, 0, none⟩), .int .i64 y.i, .int .i64 y.o, .int .i64 y.l] (H ++ [opB y]) = some (.tuple #[x.val, .bool bb], H2) ∧
      lvl Try.prog pk8 (m - 1) (.func 51) [.pointer (some ⟨r, 0, none⟩), .int .i64 y.i, .int .i64 y.o, .int .i64 y.l] (H2 ++ [pkB x]) = some (.tuple #[x.val, .bool bb], H4) ∧
      (∀ G, (H2 ++ [pkB x] ++ G)[H.length]? = some (opB y)) ∧ (∀ G, (H4 ++ G)[H2.length]? = some (pkB x)) ∧ Ch AB H H4 ∧ ∃ L', IsRings H4 a L' n ports lanes ∧ RRef H4 r (rf L') n ports lanes := by
    obtain ⟨H2, p1, p2, p3⟩ := pop_any i1 (m := m - 1) (by omega) y.w
    rw [hv] at p1
    have r2 := (r1.keep p2 AR_E).ext (H' := H2 ++ [pkB x]) (Fr.app _ _ _)
    obtain ⟨H4, q1, q2, q3⟩ := rPop_is r2 (by omega) (m := m - 1) (by omega) y.w
    rw [hp, hv] at q1
    have ho := p2.2 _ _ hob (nA_op y)
    have hx4 := q2.2 H2.length _ (by simp) (nE_pk x)
    refine ⟨H2, H4, p1, q1, fun G => ?_, fun G => ?_, (((Ch.app AB H _).trans (p2.weak fun _ h => .inl h)).trans (Ch.app _ _ _)).trans (q2.weak fun _ h => .inr h), popL L y.w, ?_, ?_⟩
    · rw [List.append_assoc, List.getElem?_append_left (List.getElem?_eq_some_iff.mp ho).1, ho]
    · rw [List.getElem?_append_left (List.getElem?_eq_some_iff.mp hx4).1, hx4]
    · exact (p3.app _).keep q2 AE_S
    · rw [rf_pop]
      exact q3
  have heads : ∃ H2 H4, lvl Try.prog pk8 (m - 1) (.func 31) [.pointer (some ⟨a, 0, none⟩), .int .i64 y.i, .int .i64 y.o, .int .i64 y.l] (H ++ [opB y]) = some (.tuple #[x.val, .bool bb], H2) ∧
      lvl Try.prog pk8 (m - 1) (.func 52) [.pointer (some ⟨r, 0, none⟩), .int .i64 y.i, .int .i64 y.o, .int .i64 y.l] (H2 ++ [pkB x]) = some (.tuple #[x.val, .bool bb], H4) ∧
      (∀ G, (H2 ++ [pkB x] ++ G)[H.length]? = some (opB y)) ∧ (∀ G, (H4 ++ G)[H2.length]? = some (pkB x)) ∧ Ch AB H H4 ∧ ∃ L', IsRings H4 a L' n ports lanes ∧ RRef H4 r (rf L') n ports lanes := by
    obtain ⟨H2, p1, p2⟩ := rgHead_is i1 (m := m - 1) (by omega) y.i y.o y.l
    rw [hp', hv] at p1
    have r2 := (r1.ext p2).ext (H' := H2 ++ [pkB x]) (Fr.app _ _ _)
    obtain ⟨H4, q1, q2⟩ := rHead_is r2 (by omega) (m := m - 1) (by omega) y.w
    rw [hp, hv] at q1
    have ho := (Ch.ext (A := AB) p2).2 _ _ hob (nB_op y)
    have hx4 := (Ch.ext (A := AE) q2).2 H2.length _ (by simp) (nE_pk x)
    refine ⟨H2, H4, p1, q1, fun G => ?_, fun G => ?_, (((Ch.app AB H _).trans (Ch.ext p2)).trans (Ch.app _ _ _)).trans (Ch.ext q2), L, ?_, ?_⟩
    · rw [List.append_assoc, List.getElem?_append_left (List.getElem?_eq_some_iff.mp ho).1, ho]
    · rw [List.getElem?_append_left (List.getElem?_eq_some_iff.mp hx4).1, hx4]
    · exact ((i1.ext p2).app _).ext q2
    · exact r2.ext q2
  by_cases k3 : y.kind % 6 = 3 ∨ y.kind % 6 = 4
  · obtain ⟨H2, H4, p1, p2, p3, p4, p5, L', p6, p7⟩ := pops
    have g1 := ld_opj (p3 []) 1 _ rfl
    have g2 := ld_opj (p3 []) 2 _ rfl
    have g3 := ld_opj (p3 []) 3 _ rfl
    rw [List.append_nil] at g1 g2 g3
    have s1 : stN 4 (.pointer (some ⟨H2.length, 0, none⟩)) x.val (H2 ++ [pkB pk0]) = some (undef, H2 ++ [pkB x]) := st_pk0 H2 x
    have s2 : stN 4 (.pointer (some ⟨H4.length, 0, none⟩)) x.val (H4 ++ [pkB pk0]) = some (undef, H4 ++ [pkB x]) := st_pk0 H4 x
    have x1 : ldN 4 (.pointer (some ⟨H2.length, 0, none⟩)) (H4 ++ [pkB x]) = some (x.val, H4 ++ [pkB x]) := ld_pkAt (p4 _)
    have x2 : ldN 4 (.pointer (some ⟨H4.length, 0, none⟩)) (H4 ++ [pkB x]) = some (x.val, H4 ++ [pkB x]) := ld_pkAt (by simp)
    refine ⟨H4 ++ [pkB x], lvl_at (flatPr_no rfl) (by omega) ?_, p5.trans (Ch.app _ _ _), L', p6.app _, p7.ext (Fr.app _ _ _)⟩
    rw [f37_eq]
    unfold f37
    rcases k3 with k3 | k3
    · have e3 : (((3 : Nat) : Int) == 3) = true := rfl
      rw [k3] at r6
      simp -implicitDefEqProofs only [r_opt, r_ret, ob_some, ifB_true, iteV_true, iteV_false, r_gdt, r_gdt2, r_gdtf, r_gdtf2, r_gdff, r_gdff2, r_gdft, r_gdft2, r_gdu, r_gdu2, pick_t, pick_f, ext_0, ext_1, x_newB, r_nil, r_fAddr, Nat.zero_add, b_lss, b_leq, b_gtr, b_geq, b_eql, b_neq, u_not, Bool.not_true, Bool.not_false, oneOf_one, oneOf_two, again_normal, again_exit, again_ret, Bool.and_true, c0, f0, f1, f2, f3, r6, e3, p1, pkB_zero, s1, g1, g2, g3, p2, s2, x1, x2, ePk, pkEq_self, beql8, eb]
    · have e3 : (((4 : Nat) : Int) == 3) = false := rfl
      have e4 : (((4 : Nat) : Int) == 4) = true := rfl
      rw [k3] at r6
      simp -implicitDefEqProofs only [r_opt, r_ret, ob_some, ifB_true, iteV_true, iteV_false, r_gdt, r_gdt2, r_gdtf, r_gdtf2, r_gdff, r_gdff2, r_gdft, r_gdft2, r_gdu, r_gdu2, pick_t, pick_f, ext_0, ext_1, x_newB, r_nil, r_fAddr, Nat.zero_add, b_lss, b_leq, b_gtr, b_geq, b_eql, b_neq, u_not, Bool.not_true, Bool.not_false, oneOf_one, oneOf_two, again_normal, again_exit, again_ret, Bool.and_true, c0, f0, f1, f2, f3, r6, e3, e4, p1, pkB_zero, s1, g1, g2, g3, p2, s2, x1, x2, ePk, pkEq_self, beql8, eb]
  · have e3 : (((y.kind % 6 : Nat) : Int) == 3) = false := by simp; omega
    have e4 : (((y.kind % 6 : Nat) : Int) == 4) = false := by simp; omega
    by_cases k5 : y.kind % 6 = 5
    · have e5 : (((y.kind % 6 : Nat) : Int) == 5) = true := by simp; omega
      obtain ⟨H2, H4, p1, p2, p3, p4, p5, L', p6, p7⟩ := heads
      have g1 := ld_opj (p3 []) 1 _ rfl
      have g2 := ld_opj (p3 []) 2 _ rfl
      have g3 := ld_opj (p3 []) 3 _ rfl
      rw [List.append_nil] at g1 g2 g3
      have s1 : stN 4 (.pointer (some ⟨H2.length, 0, none⟩)) x.val (H2 ++ [pkB pk0]) = some (undef, H2 ++ [pkB x]) := st_pk0 H2 x
      have s2 : stN 4 (.pointer (some ⟨H4.length, 0, none⟩)) x.val (H4 ++ [pkB pk0]) = some (undef, H4 ++ [pkB x]) := st_pk0 H4 x
      have x1 : ldN 4 (.pointer (some ⟨H2.length, 0, none⟩)) (H4 ++ [pkB x]) = some (x.val, H4 ++ [pkB x]) := ld_pkAt (p4 _)
      have x2 : ldN 4 (.pointer (some ⟨H4.length, 0, none⟩)) (H4 ++ [pkB x]) = some (x.val, H4 ++ [pkB x]) := ld_pkAt (by simp)
      refine ⟨H4 ++ [pkB x], lvl_at (flatPr_no rfl) (by omega) ?_, p5.trans (Ch.app _ _ _), L', p6.app _, p7.ext (Fr.app _ _ _)⟩
      rw [f37_eq]
      unfold f37
      simp -implicitDefEqProofs only [r_opt, r_ret, ob_some, ifB_true, iteV_true, iteV_false, r_gdt, r_gdt2, r_gdtf, r_gdtf2, r_gdff, r_gdff2, r_gdft, r_gdft2, r_gdu, r_gdu2, pick_t, pick_f, ext_0, ext_1, x_newB, r_nil, r_fAddr, Nat.zero_add, b_lss, b_leq, b_gtr, b_geq, b_eql, b_neq, u_not, Bool.not_true, Bool.not_false, oneOf_one, oneOf_two, again_normal, again_exit, again_ret, Bool.and_true, c0, f0, f1, f2, f3, r6, e3, e4, e5, p1, pkB_zero, s1, g1, g2, g3, p2, s2, x1, x2, ePk, pkEq_self, beql8, eb]
    · have e5 : (((y.kind % 6 : Nat) : Int) == 5) = false := by simp; omega
      obtain ⟨H2, L', p1, p2, p3, p4⟩ := push_any i1 (m := m - 1) (by omega) y.w y.x
      have r2 := r1.keep p2 AR_E
      obtain ⟨H3, q1, q2, q3⟩ := rPush_is r2 (by omega) (m := m - 1) (by omega) y.w y.x
      rw [hl] at q1 q3
      have p1' : lvl Try.prog pk8 (m - 1) (.func 33) [.pointer (some ⟨a, 0, none⟩), .int .i64 y.i, .int .i64 y.o, .int .i64 y.l, y.x.val] (H ++ [opB y]) = some (.bool (valid y.w ports lanes && decide (L.length < n)), H2) := p1
      have q1' : lvl Try.prog pk8 (m - 1) (.func 53) [.pointer (some ⟨r, 0, none⟩), .int .i64 y.i, .int .i64 y.o, .int .i64 y.l, y.x.val] H2 = some (.bool (valid y.w ports lanes && decide (L.length < n)), H3) := q1
      have ho := p2.2 _ _ hob (nA_op y)
      have g1 := ld_opj ho 1 _ rfl
      have g2 := ld_opj ho 2 _ rfl
      have g3 := ld_opj ho 3 _ rfl
      have g5 := ld_opx ho
      have ec : ((valid y.w ports lanes && decide (L.length < n)) == (valid y.w ports lanes && decide (L.length < n))) = true := by simp
      refine ⟨H3, lvl_at (flatPr_no rfl) (by omega) ?_, ((Ch.app AB H _).trans (p2.weak fun _ h => .inl h)).trans (q2.weak fun _ h => .inr h), L', p3.keep q2 AE_S, ?_⟩
      · rw [f37_eq]
        unfold f37
        simp -implicitDefEqProofs only [r_opt, r_ret, ob_some, ifB_true, iteV_true, iteV_false, r_gdt, r_gdt2, r_gdtf, r_gdtf2, r_gdff, r_gdff2, r_gdft, r_gdft2, r_gdu, r_gdu2, pick_t, pick_f, ext_0, ext_1, x_newB, r_nil, r_fAddr, Nat.zero_add, b_lss, b_leq, b_gtr, b_geq, b_eql, b_neq, u_not, Bool.not_true, Bool.not_false, oneOf_one, oneOf_two, again_normal, again_exit, again_ret, Bool.and_true, c0, f0, f1, f2, f3, f5, r6, e3, e4, e5, p1', g1, g2, g3, g5, chk_int, chk_pk, q1', beql8, ec]
      · rcases p4 with ⟨h1, k, rfl⟩ | ⟨h1, rfl⟩
        · rw [if_pos h1] at q3
          have : rf (L ++ [(y.w, k, y.x)]) = rf L ++ [(y.w, y.x)] := by simp [rf]
          rw [this]
          exact q3
        · rw [h1] at q3
          exact q3

/-- the rows of both are held against each other -/
theorem alls_is (hR : IsRings H a L n ports lanes) (hF : RRef H r (rf L) n ports lanes) (hm : 400 < m) (i o k : Int) : ∃ H1 H2 u1 u2, lvl Try.prog pk8 m (.func 40) [.pointer (some ⟨a, 0, none⟩), .int .i64 i, .int .i64 o, .int .i64 k] H = some (u1, H1) ∧
    lvl Try.prog pk8 m (.func 41) [.pointer (some ⟨r, 0, none⟩), .int .i64 i, .int .i64 o, .int .i64 k] H1 = some (u2, H2) ∧ lvl Try.prog pk8 m (.func 39) [u1, u2] H2 = some (.bool true, H2) ∧ Ext H H1 ∧ Ext H H2 := by
  have hfew := hR.few
  have hl := rf_len L
  obtain ⟨H1, u1, p1, p2, p3, p4⟩ := rgAll_is hR (m := m) (by omega) i o k
  obtain ⟨H2, u2, q1, q2, q3, q4⟩ := rAll_is (hF.ext p2) (by omega) (m := m) (by omega) (i, o, k)
  rw [pkR_rf] at q3
  have hle : (pkOf L (i, o, k)).length ≤ L.length := by rw [← qp_len]; exact q_le L _
  have e := same_is (m := m) (p3.keep fun b hb => q2.2 b (p3.lt hb) id) q3 (by omega) (by omega)
  rw [decide_eq_true rfl] at e
  exact ⟨H1, H2, u1, u2, p1, q1, e, p2, p2.trans (q2.weak fun _ h => h.elim)⟩

/-- the last rows -/
theorem do_loop2 (hm : 400 < m) {i : Int} {K : Ex → K (Value × Heap)} (hK : ∀ (H : Heap), IsRings H a L n ports lanes → RRef H r (rf L) n ports lanes → ∀ (x0 x1 x2 x3 x4 x5 x6 x7 x8 x11 x12 x13 x15 x16 x17 x18 x19 x20 x21 x22 x23 x24 x25 x26 x27 x28 x29 x30 x31 x32 x33 x34 x35 x36 x37 x38 x39 x40 x41 x42 x43 x44 x45 x46 x47 x48 x49 x50 x51 x52 x53 x54 x55 x56 x57 x58 x59 x60 x61 x62 x63 x64 x65 x66 x67 x68 x69 x70 x71 x72 x73 x74 x75 x76 x77 x78 x79 x80 x81 x82 x83 x84 x85 x86 x87 x88 x89 x90 x91 x92 x93 x94 x95 x96 x97 x98 x99 x100 x101 x102 x103 x104 x105 x106 x107 x108 x109 x110 x111 x112 x113 x114 x115 x116 x117 : Value), ∃ H', K .normal [x0, x1, x2, x3, x4, x5, x6, x7, x8, (.pointer (some ⟨a, 0, none⟩)), (.pointer (some ⟨r, 0, none⟩)), x11, x12, x13, (.int .i64 (IntKind.i64.wrap (i + 1))), x15, x16, x17, x18, x19, x20, x21, x22, x23, x24, x25, x26, x27, x28, x29, x30, x31, x32, x33, x34, x35, x36, x37, x38, x39, x40, x41, x42, x43, x44, x45, x46, x47, x48, x49, x50, x51, x52, x53, x54, x55, x56, x57, x58, x59, x60, x61, x62, x63, x64, x65, x66, x67, x68, x69, x70, x71, x72, x73, x74, x75, x76, x77, x78, x79, x80, x81, x82, x83, x84, x85, x86, x87, x88, x89, x90, x91, x92, x93, x94, x95, x96, x97, x98, x99, x100, x101, x102, x103, x104, x105, x106, x107, x108, x109, x110, x111, x112, x113, x114, x115, x116, x117] H = some (.bool true, H')) :
    ∀ (q j k : Nat) (H : Heap), 4 - j = q → j ≤ 4 → q < k → IsRings H a L n ports lanes → RRef H r (rf L) n ports lanes → ∀ (x0 x1 x2 x3 x4 x5 x6 x7 x8 x11 x12 x13 x16 x17 x18 x19 x20 x21 x22 x23 x24 x25 x26 x27 x28 x29 x30 x31 x32 x33 x34 x35 x36 x37 x38 x39 x40 x41 x42 x43 x44 x45 x46 x47 x48 x49 x50 x51 x52 x53 x54 x55 x56 x57 x58 x59 x60 x61 x62 x63 x64 x65 x66 x67 x68 x69 x70 x71 x72 x73 x74 x75 x76 x77 x78 x79 x80 x81 x82 x83 x84 x85 x86 x87 x88 x89 x90 x91 x92 x93 x94 x95 x96 x97 x98 x99 x100 x101 x102 x103 x104 x105 x106 x107 x108 x109 x110 x111 x112 x113 x114 x115 x116 x117 : Value),
    ∃ H', loopN k (runCode Try.prog (lvl Try.prog pk8 m) (loopN m) f12_c2) (f12_k2 (lvl Try.prog pk8 m) (loopN m) K) [x0, x1, x2, x3, x4, x5, x6, x7, x8, (.pointer (some ⟨a, 0, none⟩)), (.pointer (some ⟨r, 0, none⟩)), x11, x12, x13, (.int .i64 i), (.int .i64 (j : Nat)), x16, x17, x18, x19, x20, x21, x22, x23, x24, x25, x26, x27, x28, x29, x30, x31, x32, x33, x34, x35, x36, x37, x38, x39, x40, x41, x42, x43, x44, x45, x46, x47, x48, x49, x50, x51, x52, x53, x54, x55, x56, x57, x58, x59, x60, x61, x62, x63, x64, x65, x66, x67, x68, x69, x70, x71, x72, x73, x74, x75, x76, x77, x78, x79, x80, x81, x82, x83, x84, x85, x86, x87, x88, x89, x90, x91, x92, x93, x94, x95, x96, x97, x98, x99, x100, x101, x102, x103, x104, x105, x106, x107, x108, x109, x110, x111, x112, x113, x114, x115, x116, x117] H = some (.bool true, H') := by
  intro q
  induction q with
  | zero =>
    intro j k H hr hj hk hR hF
    intros
    obtain ⟨k, rfl⟩ : ∃ n, k = n + 1 := ⟨k - 1, by omega⟩
    obtain rfl : j = 4 := by omega
    have e : decide (((4 : Nat) : Int) < 4) = false := rfl
    rw [loop_succ, f12_b2_eq]
    unfold f12_b2
    simp -implicitDefEqProofs only [r_opt, r_ret, ob_some, ifB_true, iteV_true, iteV_false, r_gdt, r_gdt2, r_gdtf, r_gdtf2, r_gdff, r_gdff2, r_gdft, r_gdft2, r_gdu, r_gdu2, pick_t, pick_f, ext_0, ext_1, x_newB, r_nil, r_fAddr, Nat.zero_add, b_lss, b_leq, b_gtr, b_geq, b_eql, b_neq, u_not, Bool.not_true, Bool.not_false, oneOf_one, oneOf_two, again_normal, again_exit, again_ret, Bool.and_true, e]
    rw [f12_e2_4_eq]
    unfold f12_e2_4
    simp -implicitDefEqProofs only [r_opt, r_ret, ob_some, ifB_true, iteV_true, iteV_false, r_gdt, r_gdt2, r_gdtf, r_gdtf2, r_gdff, r_gdff2, r_gdft, r_gdft2, r_gdu, r_gdu2, pick_t, pick_f, ext_0, ext_1, x_newB, r_nil, r_fAddr, Nat.zero_add, b_lss, b_leq, b_gtr, b_geq, b_eql, b_neq, u_not, Bool.not_true, Bool.not_false, oneOf_one, oneOf_two, again_normal, again_exit, again_ret, Bool.and_true, b_add]
    exact hK H hR hF ..
  | succ q ih =>
    intro j k H hr hj hk hR hF
    intros
    obtain ⟨k, rfl⟩ : ∃ n, k = n + 1 := ⟨k - 1, by omega⟩
    have e : decide ((j : Int) < 4) = true := by simp; omega
    have e3 : IntKind.i64.wrap ((j : Int) + 1) = ((j + 1 : Nat) : Int) := by rw [wrap_i64 (by omega) (by omega)]; omega
    obtain ⟨H1, H2, u1, u2, g1, g2, g3, g4, g5⟩ := alls_is hR hF hm i j 0
    rw [loop_succ, f12_b2_eq]
    unfold f12_b2
    simp -implicitDefEqProofs only [r_opt, r_ret, ob_some, ifB_true, iteV_true, iteV_false, r_gdt, r_gdt2, r_gdtf, r_gdtf2, r_gdff, r_gdff2, r_gdft, r_gdft2, r_gdu, r_gdu2, pick_t, pick_f, ext_0, ext_1, x_newB, r_nil, r_fAddr, Nat.zero_add, b_lss, b_leq, b_gtr, b_geq, b_eql, b_neq, u_not, Bool.not_true, Bool.not_false, oneOf_one, oneOf_two, again_normal, again_exit, again_ret, Bool.and_true, e, g1, g2, g3, b_add, e3]
    exact ih (j + 1) k H2 (by omega) (by omega) (by omega) (hR.ext g5) (hF.ext g5) ..

theorem do_loop1 (hm : 400 < m) : ∀ (q j k : Nat) (H : Heap), 5 - j = q → j ≤ 5 → q < k → IsRings H a L n ports lanes → RRef H r (rf L) n ports lanes → ∀ (x0 x1 x2 x3 x4 x5 x6 x7 x8 x11 x12 x13 x15 x16 x17 x18 x19 x20 x21 x22 x23 x24 x25 x26 x27 x28 x29 x30 x31 x32 x33 x34 x35 x36 x37 x38 x39 x40 x41 x42 x43 x44 x45 x46 x47 x48 x49 x50 x51 x52 x53 x54 x55 x56 x57 x58 x59 x60 x61 x62 x63 x64 x65 x66 x67 x68 x69 x70 x71 x72 x73 x74 x75 x76 x77 x78 x79 x80 x81 x82 x83 x84 x85 x86 x87 x88 x89 x90 x91 x92 x93 x94 x95 x96 x97 x98 x99 x100 x101 x102 x103 x104 x105 x106 x107 x108 x109 x110 x111 x112 x113 x114 x115 x116 x117 : Value),
    ∃ H', loopN k (runCode Try.prog (lvl Try.prog pk8 m) (loopN m) f12_c1) (f12_k1 (lvl Try.prog pk8 m) (loopN m)) [x0, x1, x2, x3, x4, x5, x6, x7, x8, (.pointer (some ⟨a, 0, none⟩)), (.pointer (some ⟨r, 0, none⟩)), x11, x12, x13, (.int .i64 ((j : Int) - 1)), x15, x16, x17, x18, x19, x20, x21, x22, x23, x24, x25, x26, x27, x28, x29, x30, x31, x32, x33, x34, x35, x36, x37, x38, x39, x40, x41, x42, x43, x44, x45, x46, x47, x48, x49, x50, x51, x52, x53, x54, x55, x56, x57, x58, x59, x60, x61, x62, x63, x64, x65, x66, x67, x68, x69, x70, x71, x72, x73, x74, x75, x76, x77, x78, x79, x80, x81, x82, x83, x84, x85, x86, x87, x88, x89, x90, x91, x92, x93, x94, x95, x96, x97, x98, x99, x100, x101, x102, x103, x104, x105, x106, x107, x108, x109, x110, x111, x112, x113, x114, x115, x116, x117] H = some (.bool true, H') := by
  intro q
  induction q with
  | zero =>
    intro j k H hr hj hk hR hF
    intros
    obtain ⟨k, rfl⟩ : ∃ n, k = n + 1 := ⟨k - 1, by omega⟩
    obtain rfl : j = 5 := by omega
    have e : decide (((5 : Nat) : Int) - 1 < 4) = false := rfl
    refine ⟨H, ?_⟩
    rw [loop_succ, f12_b1_eq]
    unfold f12_b1
    simp -implicitDefEqProofs only [r_opt, r_ret, ob_some, ifB_true, iteV_true, iteV_false, r_gdt, r_gdt2, r_gdtf, r_gdtf2, r_gdff, r_gdff2, r_gdft, r_gdft2, r_gdu, r_gdu2, pick_t, pick_f, ext_0, ext_1, x_newB, r_nil, r_fAddr, Nat.zero_add, b_lss, b_leq, b_gtr, b_geq, b_eql, b_neq, u_not, Bool.not_true, Bool.not_false, oneOf_one, oneOf_two, again_normal, again_exit, again_ret, Bool.and_true, e]
    rw [f12_e1_2_eq]
    unfold f12_e1_2
    rfl
  | succ q ih =>
    intro j k H hr hj hk hR hF
    intros
    obtain ⟨k, rfl⟩ : ∃ n, k = n + 1 := ⟨k - 1, by omega⟩
    have e : decide ((j : Int) - 1 < 4) = true := by simp; omega
    have e3 : IntKind.i64.wrap ((j : Int) - 1 + 1) = ((j + 1 : Nat) : Int) - 1 := by rw [wrap_i64 (by omega) (by omega)]; omega
    rw [loop_succ, f12_b1_eq]
    unfold f12_b1
    simp -implicitDefEqProofs only [r_opt, r_ret, ob_some, ifB_true, iteV_true, iteV_false, r_gdt, r_gdt2, r_gdtf, r_gdtf2, r_gdff, r_gdff2, r_gdft, r_gdft2, r_gdu, r_gdu2, pick_t, pick_f, ext_0, ext_1, x_newB, r_nil, r_fAddr, Nat.zero_add, b_lss, b_leq, b_gtr, b_geq, b_eql, b_neq, u_not, Bool.not_true, Bool.not_false, oneOf_one, oneOf_two, again_normal, again_exit, again_ret, Bool.and_true, e]
    refine do_loop2 hm ?_ 4 0 m H (by omega) (by omega) (by omega) hR hF ..
    intro H2 hR2 hF2
    intros
    rw [again_normal, e3]
    exact ih (j + 1) k H2 (by omega) (by omega) (by omega) hR2 hF2 ..

theorem do_loop0 {v : Value} {b : Nat} {xs : List ROp} (hm : 500 ≤ m) (hx : xs.length ≤ 100) : ∀ (q i k : Nat) (H : Heap) (L : List En), xs.length - i = q → i ≤ xs.length → q < k → ROps H v b xs → IsRings H a L n ports lanes → RRef H r (rf L) n ports lanes → ∀ (x0 x1 x2 x4 x5 x6 x7 x12 x13 x14 x15 x16 x17 x18 x19 x20 x21 x22 x23 x24 x25 x26 x27 x28 x29 x30 x31 x32 x33 x34 x35 x36 x37 x38 x39 x40 x41 x42 x43 x44 x45 x46 x47 x48 x49 x50 x51 x52 x53 x54 x55 x56 x57 x58 x59 x60 x61 x62 x63 x64 x65 x66 x67 x68 x69 x70 x71 x72 x73 x74 x75 x76 x77 x78 x79 x80 x81 x82 x83 x84 x85 x86 x87 x88 x89 x90 x91 x92 x93 x94 x95 x96 x97 x98 x99 x100 x101 x102 x103 x104 x105 x106 x107 x108 x109 x110 x111 x112 x113 x114 x115 x116 x117 : Value),
    ∃ H', loopN k (runCode Try.prog (lvl Try.prog pk8 m) (loopN m) f12_c0) (f12_k0 (lvl Try.prog pk8 m) (loopN m)) [x0, x1, x2, v, x4, x5, x6, x7, (.bool false), (.pointer (some ⟨a, 0, none⟩)), (.pointer (some ⟨r, 0, none⟩)), (.int .i64 (i : Nat)), x12, x13, x14, x15, x16, x17, x18, x19, x20, x21, x22, x23, x24, x25, x26, x27, x28, x29, x30, x31, x32, x33, x34, x35, x36, x37, x38, x39, x40, x41, x42, x43, x44, x45, x46, x47, x48, x49, x50, x51, x52, x53, x54, x55, x56, x57, x58, x59, x60, x61, x62, x63, x64, x65, x66, x67, x68, x69, x70, x71, x72, x73, x74, x75, x76, x77, x78, x79, x80, x81, x82, x83, x84, x85, x86, x87, x88, x89, x90, x91, x92, x93, x94, x95, x96, x97, x98, x99, x100, x101, x102, x103, x104, x105, x106, x107, x108, x109, x110, x111, x112, x113, x114, x115, x116, x117] H = some (.bool true, H') := by
  intro q
  induction q with
  | zero =>
    intro i k H L hr hi hk hO hR hF
    intros
    obtain ⟨k, rfl⟩ : ∃ n, k = n + 1 := ⟨k - 1, by omega⟩
    obtain rfl : i = xs.length := by omega
    have hlen := hO.len
    have e : decide ((xs.length : Int) < xs.length) = false := by simp
    rw [loop_succ, f12_b0_eq]
    unfold f12_b0
    simp -implicitDefEqProofs only [r_opt, r_ret, ob_some, ifB_true, iteV_true, iteV_false, r_gdt, r_gdt2, r_gdtf, r_gdtf2, r_gdff, r_gdff2, r_gdft, r_gdft2, r_gdu, r_gdu2, pick_t, pick_f, ext_0, ext_1, x_newB, r_nil, r_fAddr, Nat.zero_add, b_lss, b_leq, b_gtr, b_geq, b_eql, b_neq, u_not, Bool.not_true, Bool.not_false, oneOf_one, oneOf_two, again_normal, again_exit, again_ret, Bool.and_true, hlen, e]
    rw [f12_e0_0_eq]
    unfold f12_e0_0
    exact do_loop1 (by omega) 5 0 m H (by omega) (by omega) (by omega) hR hF ..
  | succ q ih =>
    intro i k H L hr hi hk hO hR hF
    intros
    obtain ⟨k, rfl⟩ : ∃ n, k = n + 1 := ⟨k - 1, by omega⟩
    have hlen := hO.len
    have e : decide ((i : Int) < xs.length) = true := by simp; omega
    obtain ⟨y, hy⟩ : ∃ y, xs[i]? = some y := ⟨xs[i], List.getElem?_eq_getElem (by omega)⟩
    have hat := hO.sl.at_ i .i64 (by rw [List.length_map]; omega)
    have hld := hO.sl.ldN (el := ROp.cells) ROp.len hy
    have hval : Value.agg ⟨y.cells⟩ = y.val := rfl
    rw [hval] at hld
    have hin := hO.ok y (List.mem_of_getElem? hy)
    have hnr := near_is (H := H) (m := m) (by omega) y hin.1
    have e3 : IntKind.i64.wrap ((i : Int) + 1) = ((i + 1 : Nat) : Int) := by rw [wrap_i64 (by omega) (by omega)]; omega
    obtain ⟨t, ht⟩ : ∃ t, t = nearO y := ⟨_, rfl⟩
    have hkt : t.kind < 256 := by
      have := hin.2
      rw [ht]
      unfold nearO
      split <;> exact this
    rw [← ht] at hnr
    obtain ⟨H0, hH0⟩ : ∃ H0, H0 = H ++ [opB t] ++ [opB t] := ⟨_, rfl⟩
    rw [← hH0] at hnr
    have hst : stN 9 (.pointer (some ⟨H0.length, 0, none⟩)) t.val (H0 ++ [.cells ROp.z 58 .fix]) = some (undef, H0 ++ [opB t]) := st_op0 H0 t
    have hl0 := ld_op0 H0 t
    have c1 : Ch AB H (H0 ++ [opB t]) := by rw [hH0, List.append_assoc, List.append_assoc]; exact Ch.app _ _ _
    have x1 : Ext H (H0 ++ [opB t]) := by rw [hH0, List.append_assoc, List.append_assoc]; exact Fr.app _ _ _
    obtain ⟨G2, d1, d2, L2, d3, d4⟩ := does8_is (hR.ext x1) (hF.ext x1) (m := m) (by omega) t hkt
    have ho := d2.2 H0.length _ (by simp) (nB_op t)
    have f1 := ld_opj ho 1 _ rfl
    have f2 := ld_opj ho 2 _ rfl
    have f3 := ld_opj ho 3 _ rfl
    have t1 := rgLen_is d3 (m := m) (by omega) t.i t.o t.l
    have hfew := d3.few
    have hll := rf_len L2
    obtain ⟨G3, t2, x3⟩ := rLen_is d4 (by omega) (m := m) (by omega) t.w
    rw [pkR_rf, ← qp_len] at t2
    have t2' : lvl Try.prog pk8 m (.func 38) [.pointer (some ⟨r, 0, none⟩), .int .i64 t.i, .int .i64 t.o, .int .i64 t.l] G2 = some (.int .i64 (qOf L2 (t.i, t.o, t.l)).length, G3) := t2
    have en : (((qOf L2 (t.i, t.o, t.l)).length : Int) != ((qOf L2 (t.i, t.o, t.l)).length : Int)) = false := by simp
    have ho3 := (Ch.ext (A := AB) x3).2 _ _ ho (nB_op t)
    have h1 := ld_opj ho3 1 _ rfl
    have h2 := ld_opj ho3 2 _ rfl
    have h3 := ld_opj ho3 3 _ rfl
    obtain ⟨G4, G5, u1, u2, s1, s2, s3, x4, x5⟩ := alls_is (d3.ext x3) (d4.ext x3) (m := m) (by omega) t.i t.o t.l
    have ho4 := (Ch.ext (A := AB) x4).2 _ _ ho3 (nB_op t)
    have j1 := ld_opj ho4 1 _ rfl
    have j2 := ld_opj ho4 2 _ rfl
    have j3 := ld_opj ho4 3 _ rfl
    have c5 : Ch AB H G5 := ((c1.trans d2).trans (Ch.ext x3)).trans (Ch.ext x5)
    rw [loop_succ, f12_b0_eq]
    unfold f12_b0
    simp -implicitDefEqProofs only [r_opt, r_ret, ob_some, ifB_true, iteV_true, iteV_false, r_gdt, r_gdt2, r_gdtf, r_gdtf2, r_gdff, r_gdff2, r_gdft, r_gdft2, r_gdu, r_gdu2, pick_t, pick_f, ext_0, ext_1, x_newB, r_nil, r_fAddr, Nat.zero_add, b_lss, b_leq, b_gtr, b_geq, b_eql, b_neq, u_not, Bool.not_true, Bool.not_false, oneOf_one, oneOf_two, again_normal, again_exit, again_ret, Bool.and_true, hlen, e, hat, hld, hnr, zOp, hst, hl0, d1, f1, f2, f3, t1, chk_int, t2', en, h1, h2, h3, s1, j1, j2, j3, s2, s3, b_add, e3]
    exact ih (i + 1) k G5 L2 (by omega) (by omega) (by omega) (hO.ch c5 nB_ro) ((d3.ext x3).ext x5) ((d4.ext x3).ext x5) ..
end

theorem eRf (a : Addr) : bin Try.prog .eql 61 (.pointer (some a)) (.pointer none) = some (.bool false) := x_eqNil 61 89 (by kernel_rfl) a
theorem eRf0 : bin Try.prog .eql 61 (.pointer none) (.pointer none) = some (.bool true) := x_eqNil0 61 89 (by kernel_rfl)

theorem ringsDo_true {H : Heap} {v : Value} {b : Nat} {xs : List ROp} (po la sl : Int) (ho : ROps H v b xs) : ∃ H', lvl Try.prog pk8 1000 (.func 12) [.int .i64 po, .int .i64 la, .int .i64 sl, v] H = some (.bool true, H') := by
  have hk := fun H => known8_is 999 (by omega) H
  have hlen := ho.len
  by_cases hx : xs.length ≤ 100
  · have e0 : decide ((100 : Int) < xs.length) = false := by simp; omega
    by_cases h : 1 ≤ po ∧ po ≤ 16 ∧ 1 ≤ la ∧ la ≤ 3 ∧ 1 ≤ sl ∧ sl ≤ 200
    · obtain ⟨po, rfl⟩ : ∃ n : Nat, po = n := ⟨po.toNat, by omega⟩
      obtain ⟨la, rfl⟩ : ∃ n : Nat, la = n := ⟨la.toNat, by omega⟩
      obtain ⟨sl, rfl⟩ : ∃ n : Nat, sl = n := ⟨sl.toNat, by omega⟩
      obtain ⟨a, H1, g1, g2, g3, g4⟩ := rgNew_ok (H := H) (m := 999) (by omega) po la sl (by omega)
      obtain ⟨H2, r, q1, q2, q3⟩ := rNew_ok (H := H1) (m := 999) (by omega) po la sl (by omega)
      obtain ⟨H', hl⟩ : ∃ H', lvl Try.prog pk8 1000 (.func 12) [.int .i64 po, .int .i64 la, .int .i64 sl, v] H = some (.bool true, H') ∧ True := by
        refine lvl_ex1 (flatPr_no rfl) (by omega) ?_
        rw [f12_eq]
        unfold f12
        simp -implicitDefEqProofs only [show 1000 - 1 = 999 from rfl, r_opt, r_ret, ob_some, ifB_true, iteV_true, iteV_false, r_gdt, r_gdt2, r_gdtf, r_gdtf2, r_gdff, r_gdff2, r_gdft, r_gdft2, r_gdu, r_gdu2, pick_t, pick_f, ext_0, ext_1, x_newB, r_nil, r_fAddr, Nat.zero_add, b_lss, b_leq, b_gtr, b_geq, b_eql, b_neq, u_not, Bool.not_true, Bool.not_false, oneOf_one, oneOf_two, again_normal, again_exit, again_ret, Bool.and_true, hlen, e0, hk, g1, q1, eRg, eRf, and_true]
        exact do_loop0 (by omega) hx xs.length 0 999 H2 [] (by omega) (by omega) (by omega) (ho.ch ((Ch.ext g2).trans (Ch.ext q2)) nB_ro) (g3.ext q2) q3 ..
      exact ⟨H', hl.1⟩
    · obtain ⟨H1, g1, g2⟩ := rgNew_no (H := H) (m := 999) (by omega) po la sl h
      have q1 := rNew_no (H := H1) (m := 999) (by omega) po la sl h
      refine ⟨H1, lvl_at (flatPr_no rfl) (by omega) ?_⟩
      rw [f12_eq]
      unfold f12
      simp -implicitDefEqProofs only [show 1000 - 1 = 999 from rfl, r_opt, r_ret, ob_some, ifB_true, iteV_true, iteV_false, r_gdt, r_gdt2, r_gdtf, r_gdtf2, r_gdff, r_gdff2, r_gdft, r_gdft2, r_gdu, r_gdu2, pick_t, pick_f, ext_0, ext_1, x_newB, r_nil, r_fAddr, Nat.zero_add, b_lss, b_leq, b_gtr, b_geq, b_eql, b_neq, u_not, Bool.not_true, Bool.not_false, oneOf_one, oneOf_two, again_normal, again_exit, again_ret, Bool.and_true, hlen, e0, hk, g1, q1, eRg0, eRf0]
  · have e0 : decide ((100 : Int) < xs.length) = true := by simp; omega
    refine ⟨H, lvl_at (flatPr_no rfl) (by omega) ?_⟩
    rw [f12_eq]
    unfold f12
    simp -implicitDefEqProofs only [show 1000 - 1 = 999 from rfl, r_opt, r_ret, ob_some, ifB_true, iteV_true, iteV_false, r_gdt, r_gdt2, r_gdtf, r_gdtf2, r_gdff, r_gdff2, r_gdft, r_gdft2, r_gdu, r_gdu2, pick_t, pick_f, ext_0, ext_1, x_newB, r_nil, r_fAddr, Nat.zero_add, b_lss, b_leq, b_gtr, b_geq, b_eql, b_neq, u_not, Bool.not_true, Bool.not_false, oneOf_one, oneOf_two, again_normal, again_exit, again_ret, Bool.and_true, hlen, e0, hk]

end Go.Proofs.Ytcmmlgdbpnogjaa
