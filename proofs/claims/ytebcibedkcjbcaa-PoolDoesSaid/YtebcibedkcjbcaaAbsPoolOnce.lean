import Derived.Test.YtebcibedkcjbcaaAbsFill
set_option linter.unusedSimpArgs false
set_option linter.unusedVariables false
set_option maxRecDepth 100000
namespace Go.Proofs.Ytebcibedkcjbcaa
open Go.Abs

theorem cv53 (H : Heap) (n : Int) (h0 : 0 ≤ n) (h1 : n < 256) : conv Try.prog 5 3 (.int .u8 n) H = some (.int .i64 n, H) := by
  rw [c_int 5 3 (k1 := .u8) (k2 := .i64) (by kernel_rfl) (by kernel_rfl), wrap_i64 (by omega) (by omega)]
theorem cv325 (H : Heap) (n : Int) (h0 : 0 ≤ n) (h1 : n < 4294967296) : conv Try.prog 3 25 (.int .i64 n) H = some (.int .u32 n, H) := by
  rw [c_int 3 25 (k1 := .i64) (k2 := .u32) (by kernel_rfl) (by kernel_rfl), wrap_u32 (by omega) (by omega)]
theorem bld3 (k : Int) : bld Try.prog 27 [(3, .int .u32 k)] = some (Pkt.val ⟨0, 0, 0, k⟩) := by kernel_rfl
@[simp] theorem ld_pk3 (H : Heap) (x : Pkt) : ldC (some (pkB x)) 3 H = some (.int .u32 x.body, H) := rfl

/-- new blocks, and the pool's own turned -/
structure More (p s : Nat) (H H' : Heap) : Prop where
  len : H.length ≤ H'.length
  same : ∀ b, b < H.length → b ≠ p → b ≠ s → H'[b]? = H[b]?

theorem drop_yes' {pr : Prims} {H : Heap} {p s : Nat} {l : List Slot} {top free : Int} (hn : pr (.func 40) = none) (hn' : pr (.func 19) = none) (h : IsPool H p s l top free) {m : Nat} (hm : 1 < m) (i : Nat) (q : Nat × Pkt) (d : Int) (hi : l[i]? = some (some q, d)) (hf0 : 0 ≤ free) (hf1 : free < 1000) :
    ∃ H', lvl Try.prog pr m (.func 19) [.pointer (some ⟨p, 0, none⟩), .int .i64 i] H = some (.bool true, H') ∧ IsPool H' p s (l.set i (none, top)) i (free + 1) ∧ More p s H H' := by
  refine ⟨_, drop_yes hn hn' h hm i q d hi hf0 hf1, ?_, by simp, ?_⟩
  · refine h.turn _ (by simp) _ _ fun j q y d hj => ?_
    by_cases ej : i = j
    · subst ej
      have hl : i < l.length := (List.getElem?_eq_some_iff.mp hi).1
      rw [List.getElem?_set_self hl] at hj
      simp at hj
    · rw [List.getElem?_set_ne ej] at hj
      exact h.hq j q y d hj
  · intro b hb h1 h2
    rw [List.getElem?_set_ne (by omega), List.getElem?_set_ne (by omega)]

/-- the packets of the law -/
def X5 (i : Nat) : Pkt := ⟨0, 0, 0, i⟩

theorem once_end (a b : Nat) (ha : a < 256) (hb : b < 256) (p s : Nat) (l : List Slot) (H : Heap) (h : IsPool H p s l (topOf 10 (1 + a % 10)) ((10 : Int) - (1 + a % 10 : Nat))) (hf : Filled l 10 (1 + a % 10) X5) : ∀ (x2 x3 x4 x6 x7 x8 x9 x10 x11 x12 x13 x14 x15 x16 x17 x18 x19 x20 x21 x22 x23 x24 x25 x26 x27 x28 x29 x30 x31 x32 x33 x34 x35 x36 x37 x38 x39 x40 x41 x42 x43 x44 x45 x46 x47 x48 x49 x50 x51 x52 x53 x54 x55 x56 x57 x58 x59 x60 x61 x62 x63 x64 x65 x66 x67 x68 x69 x70 x71 x72 x73 x74 x75 x76 x77 x78 x79 x80 x81 x82 x83 x84 x85 : Value),
    ∃ H', f5_e0_0 (lvl Try.prog pk 299) (loopN 299) (.int .u8 (a : Nat)) (.int .u8 (b : Nat)) x2 x3 x4 (.pointer (some ⟨p, 0, none⟩)) x6 x7 x8 x9 x10 x11 x12 x13 x14 x15 x16 x17 x18 x19 x20 x21 x22 x23 x24 x25 x26 x27 x28 x29 x30 x31 x32 x33 x34 x35 x36 x37 x38 x39 x40 x41 x42 x43 x44 x45 x46 x47 x48 x49 x50 x51 x52 x53 x54 x55 x56 x57 x58 x59 x60 x61 x62 x63 x64 x65 x66 x67 x68 x69 x70 x71 x72 x73 x74 x75 x76 x77 x78 x79 x80 x81 x82 x83 x84 x85 H = some (.bool true, H') := by
  intro x2 x3 x4 x6 x7 x8 x9 x10 x11 x12 x13 x14 x15 x16 x17 x18 x19 x20 x21 x22 x23 x24 x25 x26 x27 x28 x29 x30 x31 x32 x33 x34 x35 x36 x37 x38 x39 x40 x41 x42 x43 x44 x45 x46 x47 x48 x49 x50 x51 x52 x53 x54 x55 x56 x57 x58 x59 x60 x61 x62 x63 x64 x65 x66 x67 x68 x69 x70 x71 x72 x73 x74 x75 x76 x77 x78 x79 x80 x81 x82 x83 x84 x85
  have hk : b % (1 + a % 10) < 1 + a % 10 := Nat.mod_lt _ (by omega)
  obtain ⟨q, hq⟩ := hf.lo (b % (1 + a % 10)) hk (by omega)
  obtain ⟨k, hkk⟩ : ∃ k, b % (1 + a % 10) = k := ⟨_, rfl⟩
  rw [hkk] at hk hq
  have e1 : ((a : Nat) : Int).tmod 10 = ((a % 10 : Nat) : Int) := by rw [Int.tmod_eq_emod_of_nonneg (by omega)]; omega
  have e2 : IntKind.i64.wrap ((1 : Int) + (a % 10 : Nat)) = ((1 + a % 10 : Nat) : Int) := by rw [wrap_i64 (by omega) (by omega)]; omega
  have e3 : ((b : Nat) : Int).tmod ((1 + a % 10 : Nat) : Int) = (k : Int) := by
    rw [← hkk, Int.tmod_eq_emod_of_nonneg (by omega)]
    exact (Int.natCast_emod _ _).symm
  have e4 : IntKind.i64.wrap ((10 : Int) - (a % 10 : Nat)) = (10 : Int) - (a % 10 : Nat) := wrap_i64 (by omega) (by omega)
  have lk : l.length = 10 := hf.len
  have g1 := get_yes (pr := pk) (flatPr_no rfl) (flatPr_no rfl) h (m := 299) (by omega) k q (X5 k) _ hq
  have i1 := h.app [pkB (X5 k)]
  have i2 := i1.app [pkB (X5 k)]
  obtain ⟨H3, g2, i3, m3⟩ := drop_yes' (pr := pk) (flatPr_no rfl) (flatPr_no rfl) i2 (m := 299) (by omega) k _ _ hq (by omega) (by omega)
  have hno : (l.set k (none, topOf 10 (1 + a % 10)))[k]? = some (none, topOf 10 (1 + a % 10)) := List.getElem?_set_self (by omega)
  have g3 := drop_no (pr := pk) (flatPr_no rfl) (flatPr_no rfl) i3 (m := 299) (by omega) (k : Int) (.inr (.inr ⟨_, by rw [Int.toNat_natCast]; exact hno⟩))
  have g4 := get_no (pr := pk) (flatPr_no rfl) (flatPr_no rfl) i3 (m := 299) (by omega) (k : Int) (.inr (.inr ⟨_, by rw [Int.toNat_natCast]; exact hno⟩))
  have i4 := i3.app [pkB pk0]
  have i5 := i4.app [pkB pk0]
  have g5 := free_is (pr := pk) (flatPr_no rfl) i5 (m := 299) (by omega)
  have g6 := fun H => flat_call (P := Try.prog) (ids := [16, 27]) (g := 16) rfl (n := 299) (by omega) H
  have hps := h.pl
  have hss := h.sl
  have hr : (H3 ++ [pkB pk0] ++ [pkB pk0])[(H ++ [pkB (X5 k)]).length]? = some (pkB (X5 k)) := by
    have hl := m3.len
    rw [List.getElem?_append_left (by simp at hl ⊢; omega), List.getElem?_append_left (by simp at hl ⊢; omega), m3.same _ (by simp) (by simp; omega) (by simp; omega)]
    simp
  refine ⟨H3 ++ [pkB pk0] ++ [pkB pk0], ?_⟩
  unfold f5_e0_0
  have c1 := fun H => cv53 H (b : Int) (by omega) (by omega)
  have c2 := fun H => cv53 H ((a % 10 : Nat) : Int) (by omega) (by omega)
  have c3 := fun H => cv325 H (k : Int) (by omega) (by omega)
  have r1 := b_rem (P := Try.prog) 5 .u8 (a : Int) 10 (by omega)
  have r2 := b_rem (P := Try.prog) 3 .i64 (b : Int) ((1 + a % 10 : Nat) : Int) (by omega)
  rw [e1] at r1
  rw [e3] at r2
  have hb5 : (X5 k).body = (k : Int) := rfl
  have z : ((10 : Int) - (1 + a % 10 : Nat) + 1 == 10 - (a % 10 : Nat)) = true := by simp; omega
  simp -implicitDefEqProofs only [r1, r2, c1, c2, c3, e2, e4, b_add, b_sub, r_opt, r_ret, ob_some, g1, g2, g3, g4, g5, g6, ext_0, ext_1, x_newB, pkB_zero, st_pk, x_last, stC_pk, set_last, r_gdt, r_gdt2, pick_t, r_fAddr, Nat.zero_add, x_ld1, hr, ld_pk3, hb5, b_eql, beq_self_eq_true, u_not, Bool.not_false, z, oneOf_one]

theorem once_loop (a b : Nat) (ha : a < 256) (hb : b < 256) (p s : Nat) : ∀ (r i m : Nat) (l : List Slot) (H : Heap), 1 + a % 10 - i = r → i ≤ 1 + a % 10 → r < m → IsPool H p s l (topOf 10 i) ((10 : Int) - i) → Filled l 10 i X5 → ∀ (x2 x3 x4 x7 x8 x9 x10 x11 x12 x13 x14 x15 x16 x17 x18 x19 x20 x21 x22 x23 x24 x25 x26 x27 x28 x29 x30 x31 x32 x33 x34 x35 x36 x37 x38 x39 x40 x41 x42 x43 x44 x45 x46 x47 x48 x49 x50 x51 x52 x53 x54 x55 x56 x57 x58 x59 x60 x61 x62 x63 x64 x65 x66 x67 x68 x69 x70 x71 x72 x73 x74 x75 x76 x77 x78 x79 x80 x81 x82 x83 x84 x85 : Value),
    ∃ H', loopN m (runCode Try.prog (lvl Try.prog pk 299) (loopN 299) f5_c0) (f5_k0 (lvl Try.prog pk 299) (loopN 299)) [.int .u8 (a : Nat), .int .u8 (b : Nat), x2, x3, x4, .pointer (some ⟨p, 0, none⟩), .int .i64 (i : Nat), x7, x8, x9, x10, x11, x12, x13, x14, x15, x16, x17, x18, x19, x20, x21, x22, x23, x24, x25, x26, x27, x28, x29, x30, x31, x32, x33, x34, x35, x36, x37, x38, x39, x40, x41, x42, x43, x44, x45, x46, x47, x48, x49, x50, x51, x52, x53, x54, x55, x56, x57, x58, x59, x60, x61, x62, x63, x64, x65, x66, x67, x68, x69, x70, x71, x72, x73, x74, x75, x76, x77, x78, x79, x80, x81, x82, x83, x84, x85] H = some (.bool true, H') := by
  intro r
  induction r with
  | zero =>
    intro i m l H hr hi hm h hf x2 x3 x4 x7 x8 x9 x10 x11 x12 x13 x14 x15 x16 x17 x18 x19 x20 x21 x22 x23 x24 x25 x26 x27 x28 x29 x30 x31 x32 x33 x34 x35 x36 x37 x38 x39 x40 x41 x42 x43 x44 x45 x46 x47 x48 x49 x50 x51 x52 x53 x54 x55 x56 x57 x58 x59 x60 x61 x62 x63 x64 x65 x66 x67 x68 x69 x70 x71 x72 x73 x74 x75 x76 x77 x78 x79 x80 x81 x82 x83 x84 x85
    obtain ⟨m, rfl⟩ : ∃ k, m = k + 1 := ⟨m - 1, by omega⟩
    obtain rfl : i = 1 + a % 10 := by omega
    have e1 : ((a : Nat) : Int).tmod 10 = ((a % 10 : Nat) : Int) := by rw [Int.tmod_eq_emod_of_nonneg (by omega)]; omega
    have e2 : IntKind.i64.wrap ((1 : Int) + (a % 10 : Nat)) = ((1 + a % 10 : Nat) : Int) := by rw [wrap_i64 (by omega) (by omega)]; omega
    have c2 := fun H => cv53 H ((a % 10 : Nat) : Int) (by omega) (by omega)
    have r1 := b_rem (P := Try.prog) 5 .u8 (a : Int) 10 (by omega)
    rw [e1] at r1
    have e : decide (((1 + a % 10 : Nat) : Int) < (1 + a % 10 : Nat)) = false := by simp
    rw [loop_succ, f5_b0_eq]
    unfold f5_b0
    simp -implicitDefEqProofs only [r1, c2, e2, b_add, b_lss, e, r_opt, ob_some, iteV_false, again_exit]
    rw [f5_e0_0_eq]
    exact once_end a b ha hb p s l H h hf ..
  | succ r ih =>
    intro i m l H hr hi hm h hf x2 x3 x4 x7 x8 x9 x10 x11 x12 x13 x14 x15 x16 x17 x18 x19 x20 x21 x22 x23 x24 x25 x26 x27 x28 x29 x30 x31 x32 x33 x34 x35 x36 x37 x38 x39 x40 x41 x42 x43 x44 x45 x46 x47 x48 x49 x50 x51 x52 x53 x54 x55 x56 x57 x58 x59 x60 x61 x62 x63 x64 x65 x66 x67 x68 x69 x70 x71 x72 x73 x74 x75 x76 x77 x78 x79 x80 x81 x82 x83 x84 x85
    obtain ⟨m, rfl⟩ : ∃ k, m = k + 1 := ⟨m - 1, by omega⟩
    have e1 : ((a : Nat) : Int).tmod 10 = ((a % 10 : Nat) : Int) := by rw [Int.tmod_eq_emod_of_nonneg (by omega)]; omega
    have e2 : IntKind.i64.wrap ((1 : Int) + (a % 10 : Nat)) = ((1 + a % 10 : Nat) : Int) := by rw [wrap_i64 (by omega) (by omega)]; omega
    have e3 : IntKind.i64.wrap ((i : Int) + 1) = ((i + 1 : Nat) : Int) := by rw [wrap_i64 (by omega) (by omega)]; omega
    have c2 := fun H => cv53 H ((a % 10 : Nat) : Int) (by omega) (by omega)
    have c3 := fun H => cv325 H (i : Int) (by omega) (by omega)
    have r1 := b_rem (P := Try.prog) 5 .u8 (a : Int) 10 (by omega)
    rw [e1] at r1
    have e : decide ((i : Int) < (1 + a % 10 : Nat)) = true := by simp; omega
    obtain ⟨H1, l1, g, i1, f1, _⟩ := put_fill (pr := pk) (flatPr_no rfl) (n := 10) h hf (by omega) (by omega) (m := 299) (by omega)
    have gx : (X5 i).val = Pkt.val ⟨0, 0, 0, (i : Int)⟩ := rfl
    rw [gx] at g
    rw [loop_succ, f5_b0_eq]
    unfold f5_b0
    simp -implicitDefEqProofs only [r1, c2, c3, e2, e3, b_add, b_lss, e, r_opt, ob_some, iteV_true, again_normal, bld3, g]
    exact ih (i + 1) m l1 H1 (by omega) (by omega) (by omega) i1 f1 _ _ _ _ _ _ _ _ _ _ _ _ _ _ _ _ _ _ _ _ _ _ _ _ _ _ _ _ _ _ _ _ _ _ _ _ _ _ _ _ _ _ _ _ _ _ _ _ _ _ _ _ _ _ _ _ _ _ _ _ _ _ _ _ _ _ _ _ _ _ _ _ _ _ _ _ _ _ _ _ _ _

theorem poolOnce_true (a b : Nat) (ha : a < 256) (hb : b < 256) : ∃ H', lvl Try.prog pk 300 (.func 5) [.int .u8 (a : Nat), .int .u8 (b : Nat)] [] = some (.bool true, H') := by
  have h1 := new_ok (H := []) (pr := pk) (flatPr_no rfl) 10 (by omega) (by omega) (m := 299) (by omega)
  have i0 := made_pool (H := []) 10
  simp only [List.length_nil, Nat.zero_add] at h1 i0
  obtain ⟨H', hl⟩ := once_loop a b ha hb 1 0 (1 + a % 10) 0 299 (made 10) (heapN [] (made 10)) (by omega) (by omega) (by omega) i0 (Filled.made 10 X5) undef undef (.bool false) undef undef undef undef undef undef undef (.pointer (some ⟨1, 0, none⟩)) (.pointer (some ⟨1, 0, none⟩)) (.bool false) undef undef undef undef undef undef undef undef undef undef undef undef undef undef undef undef undef undef undef undef undef undef undef undef undef undef undef undef undef undef undef undef undef undef undef undef undef undef undef undef undef undef undef undef undef undef undef undef undef undef undef undef undef undef undef undef undef undef undef undef undef undef undef undef undef undef undef undef undef
  refine ⟨H', ?_⟩
  refine lvl_at (flatPr_no rfl) (by omega) ?_
  rw [f5_eq]
  unfold f5
  have h1' : lvl Try.prog pk 299 (.func 15) [.int .i64 10] [] = some (.pointer (some ⟨1, 0, none⟩), heapN [] (made 10)) := h1
  simp -implicitDefEqProofs only [h1', e22, r_opt, ob_some, iteV_false]
  exact hl

theorem wf_u8 {a : Int} (h : (Lit.int .u8 a).wf = true) : ∃ x : Nat, a = x ∧ x < 256 := by
  have e : ∀ z : Int, (Lit.int .u8 z).wf = (decide (0 ≤ z) && decide (z ≤ 255)) := fun z => rfl
  rw [e] at h
  simp only [Bool.and_eq_true, decide_eq_true_eq] at h
  exact ⟨a.toNat, by omega, by omega⟩

theorem poolOnce_row (a b : Int) (ha : (Lit.int .u8 a).wf = true) (hb : (Lit.int .u8 b).wf = true) : ∃ H', lvl Try.prog pk 300 (.func 5) [.int .u8 a, .int .u8 b] [] = some (.bool true, H') := by
  obtain ⟨x, rfl, hx⟩ := wf_u8 ha
  obtain ⟨y, rfl, hy⟩ := wf_u8 hb
  exact poolOnce_true x y hx hy

end Go.Proofs.Ytebcibedkcjbcaa
