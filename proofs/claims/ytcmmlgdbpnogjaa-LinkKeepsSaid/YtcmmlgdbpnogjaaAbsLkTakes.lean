/-
  LinkTakes and LinkKeeps answer true.
-/
import Derived.Test.YtcmmlgdbpnogjaaAbsLkRoom
set_option linter.unusedSimpArgs false
set_option linter.unusedVariables false
set_option maxRecDepth 100000
namespace Go.Proofs.Ytcmmlgdbpnogjaa
open Go.Abs

section
variable {N : Nat} {H : Heap} {v : Value} {b : Nat} {xs : List LOp} {a n m : Nat} {w w2 : Value} {bss : List (List UInt8)} {G G2 : Nat → Prop}

theorem takes_loop1 (q : Nat) (hw : RowL H w bss G) (hw2 : RowL H w2 (bss.eraseIdx q) G2) (hq : q < bss.length) (hl : bss.length ≤ 64) : ∀ (r j k : Nat), (bss.length - 1) - j = r → j ≤ bss.length - 1 → r < k → ∀ (x0 x1 x2 x3 x5 x6 x9 x10 x13 x14 x15 x16 x17 x18 x19 x20 x21 x22 x23 x24 x25 x26 x27 x28 x29 x30 x31 x32 x33 x34 x35 x36 x37 x38 x39 x40 x41 x42 x43 x44 x45 x46 x47 x48 x49 x50 x51 x52 x53 x54 x55 x56 x57 x58 x59 x60 x61 x62 x63 x64 x65 x66 x67 x68 x69 x70 x71 x72 x73 x74 x75 x76 x77 x78 x79 x80 x81 x82 x83 x84 x85 x86 x87 x88 x89 x90 x91 x92 x93 x94 x95 x96 x97 x98 x99 : Value),
    loopN k (runCode Try.prog (lvl Try.prog pk m) (loopN m) f4_c1) (f4_k1 (lvl Try.prog pk m) (loopN m)) [x0, x1, x2, x3, (.bool false), x5, x6, w, (.int .i64 (q : Nat)), x9, x10, w2, (.int .i64 (j : Nat)), x13, x14, x15, x16, x17, x18, x19, x20, x21, x22, x23, x24, x25, x26, x27, x28, x29, x30, x31, x32, x33, x34, x35, x36, x37, x38, x39, x40, x41, x42, x43, x44, x45, x46, x47, x48, x49, x50, x51, x52, x53, x54, x55, x56, x57, x58, x59, x60, x61, x62, x63, x64, x65, x66, x67, x68, x69, x70, x71, x72, x73, x74, x75, x76, x77, x78, x79, x80, x81, x82, x83, x84, x85, x86, x87, x88, x89, x90, x91, x92, x93, x94, x95, x96, x97, x98, x99] H = some (.bool true, H) := by
  intro r
  have hlen := hw2.len
  rw [List.length_eraseIdx_of_lt hq] at hlen
  induction r with
  | zero =>
    intro j k hr hi hk
    intros
    obtain ⟨k, rfl⟩ : ∃ n, k = n + 1 := ⟨k - 1, by omega⟩
    have e : decide ((j : Int) < (bss.length - 1 : Nat)) = false := decide_eq_false (by omega)
    rw [loop_succ, f4_b1_eq]
    unfold f4_b1
    simp -implicitDefEqProofs only [hlen, b_lss, e, r_opt, ob_some, iteV_false, again_exit]
    rw [f4_e1_2_eq]
    unfold f4_e1_2
    simp -implicitDefEqProofs only [oneOf_one]
  | succ r ih =>
    intro j k hr hi hk
    intros
    obtain ⟨k, rfl⟩ : ∃ n, k = n + 1 := ⟨k - 1, by omega⟩
    have e : decide ((j : Int) < (bss.length - 1 : Nat)) = true := decide_eq_true (by omega)
    have e3 : IntKind.i64.wrap ((j : Int) + 1) = ((j + 1 : Nat) : Int) := by rw [wrap_i64 (by omega) (by omega)]; omega
    by_cases hj : j < q
    · have hb : bss[j]? = some bss[j] := List.getElem?_eq_getElem (by omega)
      have hb2 : (bss.eraseIdx q)[j]? = some bss[j] := by rw [List.getElem?_eraseIdx, if_pos hj, hb]
      obtain ⟨u, p, g1, g2, g3, g4, g5⟩ := hw.get hb .i64
      obtain ⟨u', p', q1, q2, q3, q4, q5⟩ := hw2.get hb2 .i64
      have e1 : decide ((q : Int) ≤ j) = false := decide_eq_false (by omega)
      have c1 := cB u _ g4.rd
      have c2 := cB u' _ q4.rd
      have e2 : (bss[j] != bss[j]) = false := by simp
      rw [loop_succ, f4_b1_eq]
      unfold f4_b1
      simp -implicitDefEqProofs only [hlen, b_lss, b_geq, e, e1, r_opt, ob_some, ifB_true, iteV_true, iteV_false, g1, g3 H rfl, q1, q3 H rfl, c1, c2, b_strNe, e2, b_add, e3, again_normal]
      exact ih (j + 1) k (by omega) (by omega) (by omega) ..
    · have hb : bss[j + 1]? = some bss[j + 1] := List.getElem?_eq_getElem (by omega)
      have hb2 : (bss.eraseIdx q)[j]? = some bss[j + 1] := by rw [List.getElem?_eraseIdx, if_neg hj, hb]
      obtain ⟨u, p, g1, g2, g3, g4, g5⟩ := hw.get hb .i64
      obtain ⟨u', p', q1, q2, q3, q4, q5⟩ := hw2.get hb2 .i64
      have e1 : decide ((q : Int) ≤ j) = true := decide_eq_true (by omega)
      have c1 := cB u _ g4.rd
      have c2 := cB u' _ q4.rd
      have e2 : (bss[j + 1] != bss[j + 1]) = false := by simp
      rw [loop_succ, f4_b1_eq]
      unfold f4_b1
      simp -implicitDefEqProofs only [hlen, b_lss, b_geq, e, e1, r_opt, ob_some, ifB_true, iteV_true, iteV_false, b_add, e3, g1, g3 H rfl, q1, q3 H rfl, c1, c2, b_strNe, e2, again_normal]
      exact ih (j + 1) k (by omega) (by omega) (by omega) ..

theorem takes_loop0 (i8 : Nat) (h8 : i8 < 256) (hm : 500 ≤ m) (hx0 : 0 < xs.length) : ∀ (r i k : Nat) (H : Heap) (F : Nat → Prop), xs.length - i = r → i ≤ xs.length → xs.length ≤ 100 → r < k → Inv N H v b xs a (senT 64 xs i) 64 F → ∀ (x2 x3 x7 x8 x9 x10 x11 x12 x13 x14 x15 x16 x17 x18 x19 x20 x21 x22 x23 x24 x25 x26 x27 x28 x29 x30 x31 x32 x33 x34 x35 x36 x37 x38 x39 x40 x41 x42 x43 x44 x45 x46 x47 x48 x49 x50 x51 x52 x53 x54 x55 x56 x57 x58 x59 x60 x61 x62 x63 x64 x65 x66 x67 x68 x69 x70 x71 x72 x73 x74 x75 x76 x77 x78 x79 x80 x81 x82 x83 x84 x85 x86 x87 x88 x89 x90 x91 x92 x93 x94 x95 x96 x97 x98 x99 : Value),
    ∃ H', loopN k (runCode Try.prog (lvl Try.prog pk m) (loopN m) f4_c0) (f4_k0 (lvl Try.prog pk m) (loopN m)) [v, (.int .u8 i8), x2, x3, (.bool false), (.pointer (some ⟨a, 0, none⟩)), (.int .i64 (i : Nat)), x7, x8, x9, x10, x11, x12, x13, x14, x15, x16, x17, x18, x19, x20, x21, x22, x23, x24, x25, x26, x27, x28, x29, x30, x31, x32, x33, x34, x35, x36, x37, x38, x39, x40, x41, x42, x43, x44, x45, x46, x47, x48, x49, x50, x51, x52, x53, x54, x55, x56, x57, x58, x59, x60, x61, x62, x63, x64, x65, x66, x67, x68, x69, x70, x71, x72, x73, x74, x75, x76, x77, x78, x79, x80, x81, x82, x83, x84, x85, x86, x87, x88, x89, x90, x91, x92, x93, x94, x95, x96, x97, x98, x99] H = some (.bool true, H') := by
  intro r
  induction r with
  | zero =>
    intro i k H F hr hi hx hk hI
    intros
    obtain ⟨k, rfl⟩ : ∃ n, k = n + 1 := ⟨k - 1, by omega⟩
    obtain rfl : i = xs.length := by omega
    have hlen := hI.ops.len
    have e : decide ((xs.length : Int) < xs.length) = false := by simp
    have hL := senT_len (room := 64) (xs := xs) xs.length (Nat.le_refl _)
    obtain ⟨bss, hbss⟩ : ∃ bss, bss = senT 64 xs xs.length := ⟨_, rfl⟩
    rw [← hbss] at hI hL
    obtain ⟨w, H1, G, g1, g2, g3, g4⟩ := hI.all (m := m) (by omega)
    have wl := g4.row.len
    have cf := fun H => cvU H i8 h8
    have e1 : ((i8 : Nat) : Int).tmod bss.length = ((i8 % bss.length : Nat) : Int) := by rw [Int.tmod_eq_emod_of_nonneg (by omega)]; omega
    have r1 := b_rem (P := Try.prog) 3 .i64 (i8 : Int) bss.length (by omega)
    rw [e1] at r1
    have hq : i8 % bss.length < bss.length := Nat.mod_lt _ (by omega)
    have hb : bss[i8 % bss.length]? = some bss[i8 % bss.length] := List.getElem?_eq_getElem hq
    obtain ⟨u, H2, t1, t2, t3, t4, t5⟩ := g3.take_yes (m := m) (by omega) (i8 % bss.length) hb
    obtain ⟨w2, H3, G2, q1, q2, q3, q4⟩ := t3.all (m := m) (by omega)
    have kw := (g4.step t2).step (St.ext q2)
    have hu : Br H3 u bss[i8 % bss.length] := t4.keep fun c hc => by
      exact q2.2 c (t5 c hc).2 id
    obtain ⟨uw, p, k1, k2, k3, k4, k5⟩ := kw.row.get hb .i64
    have c1 := cB u _ hu
    have c2 := cB uw _ k4.rd
    have e2 : (bss[i8 % bss.length] != bss[i8 % bss.length]) = false := by simp
    have wl2 := q4.row.len
    rw [List.length_eraseIdx_of_lt hq] at wl2
    have e4 : IntKind.i64.wrap ((bss.length : Int) - 1) = ((bss.length - 1 : Nat) : Int) := by rw [wrap_i64 (by omega) (by omega)]; omega
    have e5 : (((bss.length - 1 : Nat) : Int) != ((bss.length - 1 : Nat) : Int)) = false := by simp
    refine ⟨H3, ?_⟩
    rw [loop_succ, f4_b0_eq]
    unfold f4_b0
    simp -implicitDefEqProofs only [hlen, b_lss, e, r_opt, ob_some, iteV_false, again_exit]
    rw [f4_e0_0_eq]
    unfold f4_e0_0
    simp -implicitDefEqProofs only [g1, cf, wl, r1, t1, ext_0, ext_1, q1, u_not, Bool.not_true, r_gdff, r_gdff2, r_opt, r_ret, ob_some, ifB_true, c1, k1, k3 H3 rfl, c2, b_strNe, e2, pick_f, wl2, b_sub, e4, b_neq, e5, iteV_false]
    exact takes_loop1 _ kw.row q4.row hq (by omega) (bss.length - 1) 0 m (by omega) (by omega) (by omega) ..
  | succ r ih =>
    intro i k H F hr hi hx hk hI
    intros
    obtain ⟨k, rfl⟩ : ∃ n, k = n + 1 := ⟨k - 1, by omega⟩
    have hlen := hI.ops.len
    have e : decide ((i : Int) < xs.length) = true := by simp; omega
    obtain ⟨y, hy⟩ : ∃ y, xs[i]? = some y := ⟨xs[i], List.getElem?_eq_getElem (by omega)⟩
    have hat := hI.ops.sl.at_ i .i64 (by rw [List.length_map]; omega)
    have hld1 := hI.ops.sl.ld1 (el := LOp.cells) LOp.len (j := 1) hy rfl
    have e3 : IntKind.i64.wrap ((i : Int) + 1) = ((i + 1 : Nat) : Int) := by rw [wrap_i64 (by omega) (by omega)]; omega
    obtain ⟨H2, F2, s1, s2, s3⟩ := hI.send (m := m) (by omega) hy
    rw [sent_T hy] at s3
    rw [loop_succ, f4_b0_eq]
    unfold f4_b0
    simp -implicitDefEqProofs only [hlen, b_lss, e, r_opt, r_ret, ob_some, iteV_true, hat, r_fAddr, hld1, s1, b_add, e3, again_normal]
    exact ih (i + 1) k H2 _ (by omega) (by omega) hx (by omega) s3 ..

theorem linkTakes_true {H : Heap} (i8 : Int) (h8 : 0 ≤ i8 ∧ i8 < 256) (ho : Ops N H v b xs) (hN : N ≤ H.length) : ∃ H', lvl Try.prog pk (xs.length + 600) (.func 4) [v, .int .u8 i8] H = some (.bool true, H') := by
  obtain ⟨i8, rfl⟩ : ∃ n : Nat, i8 = n := ⟨i8.toNat, by omega⟩
  have h1 := heavy_is (pr := pk) (flatPr_no rfl) ho (m := xs.length + 599) (by omega)
  have h2 := fun H => known_is (xs.length + 599) (by omega) H
  have hlen := ho.len
  by_cases hh : hvy xs = true
  · refine ⟨H, lvl_at (flatPr_no rfl) (by omega) ?_⟩
    rw [f4_eq]
    unfold f4
    rw [hh] at h1
    simp -implicitDefEqProofs only [show xs.length + 600 - 1 = xs.length + 599 by omega, h1, h2, r_opt, r_ret, ob_some, r_gdtf, r_gdtf2, r_gdu, r_gdu2, pick_t, iteV_true, oneOf_one]
  · have hh' : hvy xs = false := by simpa using hh
    obtain ⟨hx, hs⟩ := hvy_no ho hh'
    rw [hh'] at h1
    by_cases h0 : xs.length = 0
    · have e1 : ((xs.length : Int) == 0) = true := by simp; exact List.length_eq_zero_iff.mp h0
      refine ⟨H, lvl_at (flatPr_no rfl) (by omega) ?_⟩
      rw [f4_eq]
      unfold f4
      simp -implicitDefEqProofs only [show xs.length + 600 - 1 = xs.length + 599 by omega, h1, h2, hlen, b_eql, e1, r_opt, r_ret, ob_some, r_gdff, r_gdff2, r_gdtf, r_gdtf2, r_gdu, r_gdu2, pick_f, pick_t, iteV_true, oneOf_one]
    · have e1 : ((xs.length : Int) == 0) = false := by simp; exact fun h => h0 (by rw [h]; rfl)
      obtain ⟨H1, F, g1, g2, g3, g4⟩ := Inv.new (m := xs.length + 599) ho hN hs (by omega) 64 (by omega)
      have := takes_loop0 (m := xs.length + 599) (a := H.length) i8 (by omega) (by omega) (by omega) xs.length 0 (xs.length + 599) H1 F (by omega) (by omega) hx (by omega) (by simpa [senT] using g3)
      have fin : ∃ H', body Try.prog (lvl Try.prog pk (xs.length + 599)) (loopN (xs.length + 599)) 4 [v, .int .u8 i8] H = some (.bool true, H') := by
        rw [f4_eq]
        unfold f4
        have g1' : lvl Try.prog pk (xs.length + 599) (.func 17) [.int .i64 64] H = some (.pointer (some ⟨H.length, 0, none⟩), H1) := g1
        simp -implicitDefEqProofs only [h1, h2, hlen, b_eql, e1, g1', eL, r_opt, r_ret, ob_some, r_gdff, r_gdff2, u_not, Bool.not_true, pick_f, iteV_false]
        exact this ..
      obtain ⟨H', hf⟩ := fin
      exact ⟨H', lvl_at (flatPr_no rfl) (by omega) hf⟩

/-! ### LinkKeeps -/

theorem keeps_loop3 (hn : 1 ≤ n ∧ n ≤ 64) (hm : 500 ≤ m) : ∀ (r i k : Nat) (H : Heap) (F : Nat → Prop), min xs.length n - i = r → i ≤ min xs.length n → xs.length ≤ 100 → r < k → Inv N H v b xs a ((senT n xs xs.length).drop i) n F → ∀ (x1 x2 x3 x7 x8 x9 x10 x12 x13 x14 x15 x16 x17 x18 x19 x20 x21 x22 x23 x24 x25 x26 x27 x28 x29 x30 x31 x32 x33 x34 x35 x36 x37 x38 x39 x40 x41 x42 x43 x44 x45 x46 x47 x48 x49 x50 x51 x52 x53 x54 x55 x56 x57 x58 x59 x60 x61 x62 x63 x64 x65 x66 x67 x68 x69 x70 x71 x72 x73 x74 x75 x76 x77 x78 x79 x80 x81 x82 x83 x84 x85 x86 x87 x88 x89 x90 x91 x92 x93 x94 x95 x96 x97 x98 x99 x100 x101 x102 x103 : Value),
    ∃ H', loopN k (runCode Try.prog (lvl Try.prog pk m) (loopN m) f7_c3) (f7_k3 (lvl Try.prog pk m) (loopN m)) [v, x1, x2, x3, (.bool false), (.int .i64 (n : Nat)), (.pointer (some ⟨a, 0, none⟩)), x7, x8, x9, x10, (.int .i64 (i : Nat)), x12, x13, x14, x15, x16, x17, x18, x19, x20, x21, x22, x23, x24, x25, x26, x27, x28, x29, x30, x31, x32, x33, x34, x35, x36, x37, x38, x39, x40, x41, x42, x43, x44, x45, x46, x47, x48, x49, x50, x51, x52, x53, x54, x55, x56, x57, x58, x59, x60, x61, x62, x63, x64, x65, x66, x67, x68, x69, x70, x71, x72, x73, x74, x75, x76, x77, x78, x79, x80, x81, x82, x83, x84, x85, x86, x87, x88, x89, x90, x91, x92, x93, x94, x95, x96, x97, x98, x99, x100, x101, x102, x103] H = some (.bool true, H') := by
  intro r
  induction r with
  | zero =>
    intro i k H F hr hi hx hk hI
    intros
    obtain ⟨k, rfl⟩ : ∃ n, k = n + 1 := ⟨k - 1, by omega⟩
    have hlen := hI.ops.len
    have hmin : min ((xs.length : Nat) : Int) (n : Int) = ((min xs.length n : Nat) : Int) := by omega
    have e : decide ((i : Int) < ((min xs.length n : Nat) : Int)) = false := decide_eq_false (by omega)
    have hL := senT_len (room := n) (xs := xs) xs.length (Nat.le_refl _)
    have t1 := hI.take_no (m := m) (by omega) 0 (.inr (by rw [List.length_drop, hL]; omega))
    refine ⟨H, ?_⟩
    rw [loop_succ, f7_b3_eq]
    unfold f7_b3
    simp -implicitDefEqProofs only [hlen, minI, hmin, b_lss, e, r_opt, ob_some, iteV_false, again_exit]
    rw [f7_e3_6_eq]
    unfold f7_e3_6
    simp -implicitDefEqProofs only [t1, ext_0, ext_1, u_not, Bool.not_false, r_opt, ob_some, oneOf_one]
  | succ r ih =>
    intro i k H F hr hi hx hk hI
    intros
    obtain ⟨k, rfl⟩ : ∃ n, k = n + 1 := ⟨k - 1, by omega⟩
    have hlen := hI.ops.len
    have hmin : min ((xs.length : Nat) : Int) (n : Int) = ((min xs.length n : Nat) : Int) := by omega
    have e : decide ((i : Int) < ((min xs.length n : Nat) : Int)) = true := decide_eq_true (by omega)
    obtain ⟨y, hy⟩ : ∃ y, xs[i]? = some y := ⟨xs[i], List.getElem?_eq_getElem (by omega)⟩
    have hb : ((senT n xs xs.length).drop i)[0]? = some y.b := by
      rw [List.getElem?_drop]
      unfold senT
      rw [List.getElem?_take_of_lt (by omega), List.getElem?_take_of_lt (by omega), List.getElem?_map, Nat.add_zero, hy]
      rfl
    obtain ⟨u, H2, t1, t2, t3, t4, t5⟩ := hI.take_yes (m := m) (by omega) 0 hb
    rw [List.eraseIdx_zero, List.tail_drop] at t3
    have hat := t3.ops.sl.at_ i .i64 (by rw [List.length_map]; omega)
    have hld1 := t3.ops.sl.ld1 (el := LOp.cells) LOp.len (j := 1) hy rfl
    have e3 : IntKind.i64.wrap ((i : Int) + 1) = ((i + 1 : Nat) : Int) := by rw [wrap_i64 (by omega) (by omega)]; omega
    have c1 := cB u _ t4
    have c2 := cB y.bv _ (t3.ops.ok y (List.mem_of_getElem? hy)).br
    have e2 : (y.b != y.b) = false := by simp
    have t1' : lvl Try.prog pk m (.func 20) [.pointer (some ⟨a, 0, none⟩), .int .i64 0] H = some (.tuple #[u, .bool true], H2) := t1
    rw [loop_succ, f7_b3_eq]
    unfold f7_b3
    simp -implicitDefEqProofs only [hlen, minI, hmin, b_lss, e, r_opt, r_ret, ob_some, ifB_true, iteV_true, t1', ext_0, ext_1, u_not, Bool.not_true, r_gdff, r_gdff2, c1, hat, r_fAddr, hld1, c2, b_strNe, e2, pick_f, iteV_false, b_add, e3, again_normal]
    exact ih (i + 1) k H2 _ (by omega) (by omega) hx (by omega) t3 ..

/-- one row is written over -/
theorem keeps_loop2 {K : Ex → K (Value × Heap)} (i : Nat) {F : Nat → Prop}
    (hK : ∀ (H' : Heap) (bss' : List (List UInt8)) (x1 x2 x3 x7 x10 x11 x12 x13 x14 x15 x16 x17 x18 x19 x20 x21 x22 x23 x24 x25 x26 x27 x28 x29 x30 x31 x32 x33 x34 x35 x36 x37 x38 x39 x40 x41 x42 x43 x44 x45 x46 x47 x48 x49 x50 x51 x52 x53 x54 x55 x56 x57 x58 x59 x60 x61 x62 x63 x64 x65 x66 x67 x68 x69 x70 x71 x72 x73 x74 x75 x76 x77 x78 x79 x80 x81 x82 x83 x84 x85 x86 x87 x88 x89 x90 x91 x92 x93 x94 x95 x96 x97 x98 x99 x100 x101 x102 x103 : Value), bss'.map List.length = bss.map List.length → Inv N H' v b xs a (senT n xs xs.length) n F → Kp N F H' w bss' G →
      ∃ Hf, K .normal [v, x1, x2, x3, (.bool false), (.int .i64 (n : Nat)), (.pointer (some ⟨a, 0, none⟩)), x7, w, (.int .i64 (i + 1 : Nat)), x10, x11, x12, x13, x14, x15, x16, x17, x18, x19, x20, x21, x22, x23, x24, x25, x26, x27, x28, x29, x30, x31, x32, x33, x34, x35, x36, x37, x38, x39, x40, x41, x42, x43, x44, x45, x46, x47, x48, x49, x50, x51, x52, x53, x54, x55, x56, x57, x58, x59, x60, x61, x62, x63, x64, x65, x66, x67, x68, x69, x70, x71, x72, x73, x74, x75, x76, x77, x78, x79, x80, x81, x82, x83, x84, x85, x86, x87, x88, x89, x90, x91, x92, x93, x94, x95, x96, x97, x98, x99, x100, x101, x102, x103] H' = some (.bool true, Hf)) (hi : i < bss.length) (hl : bss.length ≤ 64) (hs : ∀ bs ∈ bss, bs.length ≤ 100000) :
    ∀ (r j k : Nat) (H : Heap) (bss' : List (List UInt8)), (bss.getD i []).length - j = r → j ≤ (bss.getD i []).length → r < k → bss'.map List.length = bss.map List.length → Inv N H v b xs a (senT n xs xs.length) n F → Kp N F H w bss' G → ∀ (x1 x2 x3 x7 x11 x12 x13 x14 x15 x16 x17 x18 x19 x20 x21 x22 x23 x24 x25 x26 x27 x28 x29 x30 x31 x32 x33 x34 x35 x36 x37 x38 x39 x40 x41 x42 x43 x44 x45 x46 x47 x48 x49 x50 x51 x52 x53 x54 x55 x56 x57 x58 x59 x60 x61 x62 x63 x64 x65 x66 x67 x68 x69 x70 x71 x72 x73 x74 x75 x76 x77 x78 x79 x80 x81 x82 x83 x84 x85 x86 x87 x88 x89 x90 x91 x92 x93 x94 x95 x96 x97 x98 x99 x100 x101 x102 x103 : Value),
    ∃ Hf, loopN k (runCode Try.prog (lvl Try.prog pk m) (loopN m) f7_c2) (f7_k2 (lvl Try.prog pk m) (loopN m) K) [v, x1, x2, x3, (.bool false), (.int .i64 (n : Nat)), (.pointer (some ⟨a, 0, none⟩)), x7, w, (.int .i64 (i : Nat)), (.int .i64 (j : Nat)), x11, x12, x13, x14, x15, x16, x17, x18, x19, x20, x21, x22, x23, x24, x25, x26, x27, x28, x29, x30, x31, x32, x33, x34, x35, x36, x37, x38, x39, x40, x41, x42, x43, x44, x45, x46, x47, x48, x49, x50, x51, x52, x53, x54, x55, x56, x57, x58, x59, x60, x61, x62, x63, x64, x65, x66, x67, x68, x69, x70, x71, x72, x73, x74, x75, x76, x77, x78, x79, x80, x81, x82, x83, x84, x85, x86, x87, x88, x89, x90, x91, x92, x93, x94, x95, x96, x97, x98, x99, x100, x101, x102, x103] H = some (.bool true, Hf) := by
  intro r
  have hgd : bss.getD i [] = bss[i] := by rw [List.getD_eq_getElem?_getD, List.getElem?_eq_getElem hi]; rfl
  rw [hgd]
  have hsi := hs bss[i] (List.getElem_mem hi)
  induction r with
  | zero =>
    intro j k H bss' hr hj hk hmap hI hk'
    intros
    obtain ⟨k, rfl⟩ : ∃ n, k = n + 1 := ⟨k - 1, by omega⟩
    have hl' : bss'.length = bss.length := by have := congrArg List.length hmap; simpa using this
    have hb : bss'[i]? = some bss'[i] := List.getElem?_eq_getElem (by omega)
    have hlb : bss'[i].length = bss[i].length := by
      have := congrArg (fun l : List Nat => l[i]?) hmap
      simp only [List.getElem?_map, hb, List.getElem?_eq_getElem hi, Option.map_some, Option.some.injEq] at this
      exact this
    obtain ⟨u, p, g1, g2, g3, g4, g5⟩ := hk'.row.get hb .i64
    have ul := g4.rd.len
    have e : decide ((j : Int) < (bss'[i].length : Int)) = false := decide_eq_false (by omega)
    have e3 : IntKind.i64.wrap ((i : Int) + 1) = ((i + 1 : Nat) : Int) := by rw [wrap_i64 (by omega) (by omega)]; omega
    rw [loop_succ, f7_b2_eq]
    unfold f7_b2
    simp -implicitDefEqProofs only [g1, g3 H rfl, ul, b_lss, e, r_opt, ob_some, iteV_false, again_exit]
    rw [f7_e2_4_eq]
    unfold f7_e2_4
    simp -implicitDefEqProofs only [b_add, e3, r_opt, ob_some]
    exact hK _ _ _ _ _ _ _ _ _ _ _ _ _ _ _ _ _ _ _ _ _ _ _ _ _ _ _ _ _ _ _ _ _ _ _ _ _ _ _ _ _ _ _ _ _ _ _ _ _ _ _ _ _ _ _ _ _ _ _ _ _ _ _ _ _ _ _ _ _ _ _ _ _ _ _ _ _ _ _ _ _ _ _ _ _ _ _ _ _ _ _ _ _ _ _ _ _ _ _ _ hmap hI hk'
  | succ r ih =>
    intro j k H bss' hr hj hk hmap hI hk'
    intros
    obtain ⟨k, rfl⟩ : ∃ n, k = n + 1 := ⟨k - 1, by omega⟩
    have hl' : bss'.length = bss.length := by have := congrArg List.length hmap; simpa using this
    have hb : bss'[i]? = some bss'[i] := List.getElem?_eq_getElem (by omega)
    have hlb : bss'[i].length = bss[i].length := by
      have := congrArg (fun l : List Nat => l[i]?) hmap
      simp only [List.getElem?_map, hb, List.getElem?_eq_getElem hi, Option.map_some, Option.some.injEq] at this
      exact this
    obtain ⟨u, p, bb, o, H', k1, k2, k3, k4, k5, k6, k7, k8⟩ := hk'.row.set neRU hb (j := j) (by omega) .i64 255
    have ul := k3.rd.len
    have e : decide ((j : Int) < (bss'[i].length : Int)) = true := decide_eq_true (by omega)
    have e3 : IntKind.i64.wrap ((j : Int) + 1) = ((j + 1 : Nat) : Int) := by rw [wrap_i64 (by omega) (by omega)]; omega
    have e4 : Value.int .u8 255 = byteV 255 := rfl
    rw [loop_succ, f7_b2_eq]
    unfold f7_b2
    simp -implicitDefEqProofs only [k1, k2 H rfl, ul, b_lss, e, r_opt, ob_some, iteV_true, k4, e4, k5, b_add, e3, again_normal]
    refine ih (j + 1) k H' _ (by omega) (by omega) (by omega) ?_ (hI.other hk' k8) ⟨k7, hk'.apart, hk'.far⟩ ..
    rw [List.map_set, List.length_set, ← hmap]
    apply List.ext_getElem?
    intro q
    by_cases hq : i = q
    · subst hq
      rw [List.getElem?_set_self (by simp; omega), List.getElem?_map, hb]
      rfl
    · rw [List.getElem?_set_ne hq]

theorem keeps_loop1 (hn : 1 ≤ n ∧ n ≤ 64) (hm : 200000 ≤ m) (hx : xs.length ≤ 100) (hl : bss.length ≤ 64) (hs : ∀ bs ∈ bss, bs.length ≤ 100000) {F : Nat → Prop} : ∀ (r i k : Nat) (H : Heap) (bss' : List (List UInt8)), bss.length - i = r → i ≤ bss.length → r < k → bss'.map List.length = bss.map List.length → Inv N H v b xs a (senT n xs xs.length) n F → Kp N F H w bss' G → ∀ (x1 x2 x3 x7 x10 x11 x12 x13 x14 x15 x16 x17 x18 x19 x20 x21 x22 x23 x24 x25 x26 x27 x28 x29 x30 x31 x32 x33 x34 x35 x36 x37 x38 x39 x40 x41 x42 x43 x44 x45 x46 x47 x48 x49 x50 x51 x52 x53 x54 x55 x56 x57 x58 x59 x60 x61 x62 x63 x64 x65 x66 x67 x68 x69 x70 x71 x72 x73 x74 x75 x76 x77 x78 x79 x80 x81 x82 x83 x84 x85 x86 x87 x88 x89 x90 x91 x92 x93 x94 x95 x96 x97 x98 x99 x100 x101 x102 x103 : Value),
    ∃ H', loopN k (runCode Try.prog (lvl Try.prog pk m) (loopN m) f7_c1) (f7_k1 (lvl Try.prog pk m) (loopN m)) [v, x1, x2, x3, (.bool false), (.int .i64 (n : Nat)), (.pointer (some ⟨a, 0, none⟩)), x7, w, (.int .i64 (i : Nat)), x10, x11, x12, x13, x14, x15, x16, x17, x18, x19, x20, x21, x22, x23, x24, x25, x26, x27, x28, x29, x30, x31, x32, x33, x34, x35, x36, x37, x38, x39, x40, x41, x42, x43, x44, x45, x46, x47, x48, x49, x50, x51, x52, x53, x54, x55, x56, x57, x58, x59, x60, x61, x62, x63, x64, x65, x66, x67, x68, x69, x70, x71, x72, x73, x74, x75, x76, x77, x78, x79, x80, x81, x82, x83, x84, x85, x86, x87, x88, x89, x90, x91, x92, x93, x94, x95, x96, x97, x98, x99, x100, x101, x102, x103] H = some (.bool true, H') := by
  intro r
  induction r with
  | zero =>
    intro i k H bss' hr hi hk hmap hI hk'
    intros
    obtain ⟨k, rfl⟩ : ∃ n, k = n + 1 := ⟨k - 1, by omega⟩
    have hl' : bss'.length = bss.length := by have := congrArg List.length hmap; simpa using this
    have wl := hk'.row.len
    have e : decide ((i : Int) < (bss'.length : Int)) = false := decide_eq_false (by omega)
    rw [loop_succ, f7_b1_eq]
    unfold f7_b1
    simp -implicitDefEqProofs only [wl, b_lss, e, r_opt, ob_some, iteV_false, again_exit]
    rw [f7_e1_2_eq]
    unfold f7_e1_2
    exact keeps_loop3 hn (by omega) (min xs.length n) 0 m H F (by omega) (by omega) hx (by omega) (by simpa using hI) ..
  | succ r ih =>
    intro i k H bss' hr hi hk hmap hI hk'
    intros
    obtain ⟨k, rfl⟩ : ∃ n, k = n + 1 := ⟨k - 1, by omega⟩
    have hl' : bss'.length = bss.length := by have := congrArg List.length hmap; simpa using this
    have wl := hk'.row.len
    have e : decide ((i : Int) < (bss'.length : Int)) = true := decide_eq_true (by omega)
    rw [loop_succ, f7_b1_eq]
    unfold f7_b1
    simp -implicitDefEqProofs only [wl, b_lss, e, r_opt, ob_some, iteV_true]
    have hgd : (bss.getD i []).length ≤ 100000 := by
      rw [List.getD_eq_getElem?_getD, List.getElem?_eq_getElem (by omega)]
      exact hs _ (List.getElem_mem _)
    refine keeps_loop2 (m := m) i ?_ (by omega) hl hs (bss.getD i []).length 0 m H bss' (by omega) (by omega) (by omega) hmap hI hk' ..
    intro H' bss2
    intros
    rename_i h1 h2 h3
    exact ih (i + 1) k H' bss2 (by omega) (by omega) (by omega) h1 h2 h3 ..

theorem keeps_loop0 (hn : 1 ≤ n ∧ n ≤ 64) (hm : 200000 ≤ m) : ∀ (r i k : Nat) (H : Heap) (F : Nat → Prop), xs.length - i = r → i ≤ xs.length → xs.length ≤ 100 → r < k → Inv N H v b xs a (senT n xs i) n F → ∀ (x1 x2 x3 x8 x9 x10 x11 x12 x13 x14 x15 x16 x17 x18 x19 x20 x21 x22 x23 x24 x25 x26 x27 x28 x29 x30 x31 x32 x33 x34 x35 x36 x37 x38 x39 x40 x41 x42 x43 x44 x45 x46 x47 x48 x49 x50 x51 x52 x53 x54 x55 x56 x57 x58 x59 x60 x61 x62 x63 x64 x65 x66 x67 x68 x69 x70 x71 x72 x73 x74 x75 x76 x77 x78 x79 x80 x81 x82 x83 x84 x85 x86 x87 x88 x89 x90 x91 x92 x93 x94 x95 x96 x97 x98 x99 x100 x101 x102 x103 : Value),
    ∃ H', loopN k (runCode Try.prog (lvl Try.prog pk m) (loopN m) f7_c0) (f7_k0 (lvl Try.prog pk m) (loopN m)) [v, x1, x2, x3, (.bool false), (.int .i64 (n : Nat)), (.pointer (some ⟨a, 0, none⟩)), (.int .i64 (i : Nat)), x8, x9, x10, x11, x12, x13, x14, x15, x16, x17, x18, x19, x20, x21, x22, x23, x24, x25, x26, x27, x28, x29, x30, x31, x32, x33, x34, x35, x36, x37, x38, x39, x40, x41, x42, x43, x44, x45, x46, x47, x48, x49, x50, x51, x52, x53, x54, x55, x56, x57, x58, x59, x60, x61, x62, x63, x64, x65, x66, x67, x68, x69, x70, x71, x72, x73, x74, x75, x76, x77, x78, x79, x80, x81, x82, x83, x84, x85, x86, x87, x88, x89, x90, x91, x92, x93, x94, x95, x96, x97, x98, x99, x100, x101, x102, x103] H = some (.bool true, H') := by
  intro r
  induction r with
  | zero =>
    intro i k H F hr hi hx hk hI
    intros
    obtain ⟨k, rfl⟩ : ∃ n, k = n + 1 := ⟨k - 1, by omega⟩
    obtain rfl : i = xs.length := by omega
    have hlen := hI.ops.len
    have e : decide ((xs.length : Int) < xs.length) = false := by simp
    obtain ⟨w, H1, G, g1, g2, g3, g4⟩ := hI.all (m := m) (by omega)
    have hL := senT_len (room := n) (xs := xs) xs.length (Nat.le_refl _)
    rw [loop_succ, f7_b0_eq]
    unfold f7_b0
    simp -implicitDefEqProofs only [hlen, b_lss, e, r_opt, ob_some, iteV_false, again_exit]
    rw [f7_e0_0_eq]
    unfold f7_e0_0
    simp -implicitDefEqProofs only [g1, ob_some]
    exact keeps_loop1 hn hm hx (by omega) hI.lk.small (senT n xs xs.length).length 0 m H1 (senT n xs xs.length) (by omega) (by omega) (by omega) rfl g3 g4 ..
  | succ r ih =>
    intro i k H F hr hi hx hk hI
    intros
    obtain ⟨k, rfl⟩ : ∃ n, k = n + 1 := ⟨k - 1, by omega⟩
    have hlen := hI.ops.len
    have e : decide ((i : Int) < xs.length) = true := by simp; omega
    obtain ⟨y, hy⟩ : ∃ y, xs[i]? = some y := ⟨xs[i], List.getElem?_eq_getElem (by omega)⟩
    have hat := hI.ops.sl.at_ i .i64 (by rw [List.length_map]; omega)
    have hld1 := hI.ops.sl.ld1 (el := LOp.cells) LOp.len (j := 1) hy rfl
    have e3 : IntKind.i64.wrap ((i : Int) + 1) = ((i + 1 : Nat) : Int) := by rw [wrap_i64 (by omega) (by omega)]; omega
    obtain ⟨H2, F2, s1, s2, s3⟩ := hI.send (m := m) (by omega) hy
    rw [sent_T hy] at s3
    rw [senT_len i (by omega)] at s1
    have e4 : (decide (min i n < n) != decide ((i : Int) < n)) = false := by
      have : decide (min i n < n) = decide ((i : Int) < n) := by
        by_cases h : i < n
        · rw [decide_eq_true (show min i n < n by omega), decide_eq_true (show (i : Int) < n by omega)]
        · rw [decide_eq_false (show ¬ min i n < n by omega), decide_eq_false (show ¬ (i : Int) < n by omega)]
      rw [this]
      simp
    rw [loop_succ, f7_b0_eq]
    unfold f7_b0
    simp -implicitDefEqProofs only [hlen, b_lss, e, r_opt, r_ret, ob_some, iteV_true, hat, r_fAddr, hld1, s1, bneq, e4, iteV_false, b_add, e3, again_normal]
    exact ih (i + 1) k H2 _ (by omega) (by omega) hx (by omega) s3 ..

theorem linkKeeps_true {H : Heap} (i8 : Int) (h8 : 0 ≤ i8 ∧ i8 < 256) (ho : Ops N H v b xs) (hN : N ≤ H.length) : ∃ H', lvl Try.prog pk (xs.length + 200001) (.func 7) [v, .int .u8 i8] H = some (.bool true, H') := by
  obtain ⟨i8, rfl⟩ : ∃ n : Nat, i8 = n := ⟨i8.toNat, by omega⟩
  have h1 := heavy_is (pr := pk) (flatPr_no rfl) ho (m := xs.length + 200000) (by omega)
  have h2 := fun H => known_is (xs.length + 200000) (by omega) H
  have hlen := ho.len
  by_cases hh : hvy xs = true
  · refine ⟨H, lvl_at (flatPr_no rfl) (by omega) ?_⟩
    rw [f7_eq]
    unfold f7
    rw [hh] at h1
    simp -implicitDefEqProofs only [show xs.length + 200001 - 1 = xs.length + 200000 by omega, h1, h2, r_opt, r_ret, ob_some, r_gdtf, r_gdtf2, r_gdu, r_gdu2, pick_t, iteV_true, oneOf_one]
  · have hh' : hvy xs = false := by simpa using hh
    obtain ⟨hx, hs⟩ := hvy_no ho hh'
    rw [hh'] at h1
    have e1 : ((i8 : Nat) : Int).tmod 64 = ((i8 % 64 : Nat) : Int) := by rw [Int.tmod_eq_emod_of_nonneg (by omega)]; omega
    have r1 := b_rem (P := Try.prog) 5 .u8 (i8 : Int) 64 (by omega)
    rw [e1] at r1
    have cf := fun H => cvU H (i8 % 64) (by omega)
    have e2 : IntKind.i64.wrap (1 + ((i8 % 64 : Nat) : Int)) = ((1 + i8 % 64 : Nat) : Int) := by rw [wrap_i64 (by omega) (by omega)]; omega
    obtain ⟨H1, F, g1, g2, g3, g4⟩ := Inv.new (m := xs.length + 200000) ho hN hs (by omega) (1 + i8 % 64) (by omega)
    have := keeps_loop0 (m := xs.length + 200000) (n := 1 + i8 % 64) (a := H.length) (by omega) (by omega) xs.length 0 (xs.length + 200000) H1 F (by omega) (by omega) hx (by omega) (by simpa [senT] using g3)
    have fin : ∃ H', body Try.prog (lvl Try.prog pk (xs.length + 200000)) (loopN (xs.length + 200000)) 7 [v, .int .u8 i8] H = some (.bool true, H') := by
      rw [f7_eq]
      unfold f7
      simp -implicitDefEqProofs only [h1, h2, hlen, r1, cf, b_add, e2, g1, eL, r_opt, r_ret, ob_some, r_gdff, r_gdff2, u_not, Bool.not_true, pick_f, iteV_false]
      exact this ..
    obtain ⟨H', hf⟩ := fin
    exact ⟨H', lvl_at (flatPr_no rfl) (by omega) hf⟩
end

end Go.Proofs.Ytcmmlgdbpnogjaa
