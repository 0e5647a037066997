/-
  RingsNew, RingsHead, RingsRoom answer true.
-/
import Derived.Test.YtcmmlgdbpnogjaaAbsRgOps
set_option linter.unusedSectionVars false
set_option linter.unusedSimpArgs false
set_option linter.unusedVariables false
set_option maxRecDepth 100000
namespace Go.Proofs.Ytcmmlgdbpnogjaa
open Go.Abs

theorem bneq8 (a b : Bool) : bin Try.prog .neq 4 (.bool a) (.bool b) = some (.bool (a != b)) := by cases a <;> cases b <;> kernel_rfl
theorem beql8 (a b : Bool) : bin Try.prog .eql 4 (.bool a) (.bool b) = some (.bool (a == b)) := by cases a <;> cases b <;> kernel_rfl
theorem cvU8 (H : Heap) (n : Nat) (h : n < 256) : conv Try.prog 5 3 (.int .u8 n) H = some (.int .i64 n, H) := by
  have h1 : Try.prog.underlying 5 = some (.int .u8) := by kernel_rfl
  have h2 : Try.prog.underlying 3 = some (.int .i64) := by kernel_rfl
  rw [c_int _ _ h1 h2, wrap_i64 (by omega) (by omega)]

theorem ringsNew_true (po la sl : Int) : ∃ H', lvl Try.prog pk8 1000 (.func 10) [.int .i64 po, .int .i64 la, .int .i64 sl] [] = some (.bool true, H') := by
  have hk := fun H => known8_is 999 (by omega) H
  by_cases h : 1 ≤ po ∧ po ≤ 16 ∧ 1 ≤ la ∧ la ≤ 3 ∧ 1 ≤ sl ∧ sl ≤ 200
  · obtain ⟨po, rfl⟩ : ∃ n : Nat, po = n := ⟨po.toNat, by omega⟩
    obtain ⟨la, rfl⟩ : ∃ n : Nat, la = n := ⟨la.toNat, by omega⟩
    obtain ⟨sl, rfl⟩ : ∃ n : Nat, sl = n := ⟨sl.toNat, by omega⟩
    obtain ⟨a, H1, g1, g2, g3, g4⟩ := rgNew_ok (H := []) (m := 999) (by omega) po la sl (by omega)
    obtain ⟨H2, q1, q2⟩ := rgHead_is g3 (m := 999) (by omega) 0 0 0
    have hv : headV (pkOf [] (0, 0, 0)) = .tuple #[pk0.val, .bool false] := rfl
    rw [hv] at q1
    have i2 := (g3.ext q2).app [pkB pk0]
    have t1 := rgLen_is i2 (m := 999) (by omega) 0 0 0
    have hq : ((qOf [] (0, 0, 0)).length : Int) = 0 := rfl
    rw [hq] at t1
    obtain ⟨H3, p1, p2⟩ := rgPush_no i2 (m := 999) (by omega) (po, 0, 0) pk0 (.inl (by unfold valid; simp))
    obtain ⟨H4, r1, r2⟩ := rgPush_no (i2.ext p2) (m := 999) (by omega) (0, 0, la) pk0 (.inl (by unfold valid; simp))
    obtain ⟨H5, k, s1, s2, s3⟩ := rgPush_yes ((i2.ext p2).ext r2) (m := 999) (by omega) (0, 0, 0) pk0 (by unfold valid; simp; omega) (by simp; omega)
    simp only at p1 r1 s1
    have e1 : decide ((1 : Int) ≤ po) = true := decide_eq_true (by omega)
    have e2 : decide ((po : Int) ≤ 16) = true := decide_eq_true (by omega)
    have e3 : decide ((1 : Int) ≤ la) = true := decide_eq_true (by omega)
    have e4 : decide ((la : Int) ≤ 3) = true := decide_eq_true (by omega)
    have e5 : decide ((1 : Int) ≤ sl) = true := decide_eq_true (by omega)
    have e6 : decide ((sl : Int) ≤ 200) = true := decide_eq_true (by omega)
    have e7 : ((0 : Int) == 0) = true := rfl
    have hst : stN 4 (.pointer (some ⟨H2.length, 0, none⟩)) pk0.val (H2 ++ [pkB pk0]) = some (undef, H2 ++ [pkB pk0]) := st_pk0 H2 pk0
    refine ⟨H5, lvl_at (flatPr_no rfl) (by omega) ?_⟩
    rw [f10_eq]
    unfold f10
    simp -implicitDefEqProofs only [show 1000 - 1 = 999 from rfl, g1, b_geq, b_leq, e1, e2, e3, e4, e5, e6, r_opt, r_ret, ob_some, r_gdt, r_gdt2, pick_t, eRg, iteV_false, q1, ext_0, ext_1, pkB_zero, x_newB, hst, hk, u_not, Bool.not_false, t1, b_eql, e7, pk_bld, p1, r1, s1, oneOf_one]
  · obtain ⟨H1, g1, g2⟩ := rgNew_no (H := []) (m := 999) (by omega) po la sl h
    refine ⟨H1, lvl_at (flatPr_no rfl) (by omega) ?_⟩
    rw [f10_eq]
    unfold f10
    by_cases h1 : 1 ≤ po
    · have e1 : decide (1 ≤ po) = true := decide_eq_true h1
      by_cases h2 : po ≤ 16
      · have e2 : decide (po ≤ 16) = true := decide_eq_true h2
        by_cases h3 : 1 ≤ la
        · have e3 : decide (1 ≤ la) = true := decide_eq_true h3
          by_cases h4 : la ≤ 3
          · have e4 : decide (la ≤ 3) = true := decide_eq_true h4
            by_cases h5 : 1 ≤ sl
            · have e5 : decide (1 ≤ sl) = true := decide_eq_true h5
              have e6 : decide (sl ≤ 200) = false := decide_eq_false (by omega)
              simp -implicitDefEqProofs only [show 1000 - 1 = 999 from rfl, g1, b_geq, b_leq, e1, e2, e3, e4, e5, e6, r_opt, r_ret, ob_some, r_gdt, r_gdt2, r_gdft, r_gdft2, r_gdu, r_gdu2, pick_t, pick_f, eRg0, iteV_true, hk, u_not, Bool.not_false, oneOf_one]
            · have e5 : decide (1 ≤ sl) = false := decide_eq_false h5
              simp -implicitDefEqProofs only [show 1000 - 1 = 999 from rfl, g1, b_geq, b_leq, e1, e2, e3, e4, e5, r_opt, r_ret, ob_some, r_gdt, r_gdt2, r_gdft, r_gdft2, r_gdu, r_gdu2, pick_t, pick_f, eRg0, iteV_true, hk, u_not, Bool.not_false, oneOf_one]
          · have e4 : decide (la ≤ 3) = false := decide_eq_false h4
            simp -implicitDefEqProofs only [show 1000 - 1 = 999 from rfl, g1, b_geq, b_leq, e1, e2, e3, e4, r_opt, r_ret, ob_some, r_gdt, r_gdt2, r_gdft, r_gdft2, r_gdu, r_gdu2, pick_t, pick_f, eRg0, iteV_true, hk, u_not, Bool.not_false, oneOf_one]
        · have e3 : decide (1 ≤ la) = false := decide_eq_false h3
          simp -implicitDefEqProofs only [show 1000 - 1 = 999 from rfl, g1, b_geq, b_leq, e1, e2, e3, r_opt, r_ret, ob_some, r_gdt, r_gdt2, r_gdft, r_gdft2, r_gdu, r_gdu2, pick_t, pick_f, eRg0, iteV_true, hk, u_not, Bool.not_false, oneOf_one]
      · have e2 : decide (po ≤ 16) = false := decide_eq_false h2
        simp -implicitDefEqProofs only [show 1000 - 1 = 999 from rfl, g1, b_geq, b_leq, e1, e2, r_opt, r_ret, ob_some, r_gdt, r_gdt2, r_gdft, r_gdft2, r_gdu, r_gdu2, pick_t, pick_f, eRg0, iteV_true, hk, u_not, Bool.not_false, oneOf_one]
    · have e1 : decide (1 ≤ po) = false := decide_eq_false h1
      simp -implicitDefEqProofs only [show 1000 - 1 = 999 from rfl, g1, b_geq, b_leq, e1, r_opt, r_ret, ob_some, r_gdt, r_gdt2, r_gdft, r_gdft2, r_gdu, r_gdu2, pick_t, pick_f, eRg0, iteV_true, hk, u_not, Bool.not_false, oneOf_one]

/-! a call is taken over, near -/

def yN (y : ROp) : ROp := { y with nr := true }
theorem inR_N {y : ROp} (h : inR y) : inR (yN y) := h
theorem zOp : Blk.cells [Value.int .u8 0, .int .i64 0, .int .i64 0, .int .i64 0, .bool false, .int .i64 0, .int .i64 0, .int .i64 0, .int .u32 0] 58 .fix = .cells ROp.z 58 .fix := rfl
theorem st_op0 (H : Heap) (y : ROp) : stN 9 (.pointer (some ⟨H.length, 0, none⟩)) y.val (H ++ [.cells ROp.z 58 .fix]) = some (undef, H ++ [opB y]) := by
  have := st_op H ROp.z rfl y []
  simpa using this
theorem st_opN (H : Heap) (y : ROp) : stN 1 (.pointer (some ⟨H.length, 4, none⟩)) (.bool true) (H ++ [opB y]) = some (undef, H ++ [opB (yN y)]) := by
  rw [x_stN 1 _ _ _ rfl, x_last]
  unfold opB
  rw [x_stC _ _ _ _ _ _ (by decide) (by simp [ROp.len, Value.cells]) rfl, set_last]
  rfl
theorem ld_op0 (H : Heap) (y : ROp) : ldN 9 (.pointer (some ⟨H.length, 0, none⟩)) (H ++ [opB y]) = some (y.val, H ++ [opB y]) := ld_op9 (by simp)
theorem st_opG (H : Heap) (u t : ROp) (A B : Blk) : stN 9 (.pointer (some ⟨H.length, 0, none⟩)) t.val (H ++ [opB u] ++ [A] ++ [B]) = some (undef, H ++ [opB t] ++ [A] ++ [B]) := by
  have := st_op H u.cells rfl t ([A] ++ [B])
  rw [← List.append_assoc, ← List.append_assoc] at this
  exact this

section
variable {v : Value} {b : Nat} {xs : List ROp} {a n m : Nat}

theorem near_w (y : ROp) : valid (nearO (yN y)).w 3 2 = true := by
  unfold valid nearO yN ROp.w
  simp only [if_true]
  simp
  omega

theorem head_loop (i8 o8 l8 : Nat) (h1 : i8 < 256) (h2 : o8 < 256) (h3 : l8 < 256) (hm : 500 ≤ m) : ∀ (r i k : Nat) (H : Heap) (L : List En), xs.length - i = r → i ≤ xs.length → xs.length ≤ 60 → r < k → ROps H v b xs → IsRings H a L 100 3 2 → ∀ (x4 x5 x6 x7 x11 x12 x13 x14 x15 x16 x17 x18 x19 x20 x21 x22 x23 x24 x25 x26 x27 x28 x29 x30 x31 x32 x33 x34 x35 x36 x37 x38 x39 x40 x41 x42 x43 x44 x45 x46 x47 x48 x49 x50 x51 x52 x53 x54 x55 x56 x57 x58 x59 x60 x61 x62 x63 x64 x65 x66 x67 x68 x69 x70 x71 x72 x73 x74 x75 x76 x77 x78 x79 x80 x81 x82 x83 x84 x85 x86 x87 x88 x89 x90 x91 x92 x93 x94 x95 x96 x97 x98 x99 x100 x101 x102 x103 x104 x105 x106 x107 x108 x109 x110 x111 x112 x113 x114 x115 x116 x117 x118 x119 x120 x121 x122 x123 x124 x125 x126 x127 x128 : Value),
    ∃ H', loopN k (runCode Try.prog (lvl Try.prog pk8 m) (loopN m) f11_c0) (f11_k0 (lvl Try.prog pk8 m) (loopN m)) [v, (.int .u8 i8), (.int .u8 o8), (.int .u8 l8), x4, x5, x6, x7, (.bool false), (.pointer (some ⟨a, 0, none⟩)), (.int .i64 (i : Nat)), x11, x12, x13, x14, x15, x16, x17, x18, x19, x20, x21, x22, x23, x24, x25, x26, x27, x28, x29, x30, x31, x32, x33, x34, x35, x36, x37, x38, x39, x40, x41, x42, x43, x44, x45, x46, x47, x48, x49, x50, x51, x52, x53, x54, x55, x56, x57, x58, x59, x60, x61, x62, x63, x64, x65, x66, x67, x68, x69, x70, x71, x72, x73, x74, x75, x76, x77, x78, x79, x80, x81, x82, x83, x84, x85, x86, x87, x88, x89, x90, x91, x92, x93, x94, x95, x96, x97, x98, x99, x100, x101, x102, x103, x104, x105, x106, x107, x108, x109, x110, x111, x112, x113, x114, x115, x116, x117, x118, x119, x120, x121, x122, x123, x124, x125, x126, x127, x128] H = some (.bool true, H') := by
  intro r
  induction r with
  | zero =>
    intro i k H L hr hi hx hk hO hR
    intros
    obtain ⟨k, rfl⟩ : ∃ n, k = n + 1 := ⟨k - 1, by omega⟩
    obtain rfl : i = xs.length := by omega
    have hlen := hO.len
    have e : decide ((xs.length : Int) < xs.length) = false := by simp
    have r3 : ∀ c : Nat, c < 256 → bin Try.prog .rem 5 (.int .u8 c) (.int .u8 3) = some (.int .u8 (c % 3 : Nat)) := fun c hc => by rw [b_rem _ _ _ _ (by omega), Int.tmod_eq_emod_of_nonneg (by omega)]; congr 2
    have r2 : ∀ c : Nat, c < 256 → bin Try.prog .rem 5 (.int .u8 c) (.int .u8 2) = some (.int .u8 (c % 2 : Nat)) := fun c hc => by rw [b_rem _ _ _ _ (by omega), Int.tmod_eq_emod_of_nonneg (by omega)]; congr 2
    have c1 := fun H => cvU8 H (i8 % 3) (by omega)
    have c2 := fun H => cvU8 H (o8 % 3) (by omega)
    have c3 := fun H => cvU8 H (l8 % 2) (by omega)
    obtain ⟨w, hw⟩ : ∃ w : Way, w = (((i8 % 3 : Nat) : Int), ((o8 % 3 : Nat) : Int), ((l8 % 2 : Nat) : Int)) := ⟨_, rfl⟩
    have t1 := rgLen_is hR (m := m) (by omega) ((i8 % 3 : Nat) : Int) ((o8 % 3 : Nat) : Int) ((l8 % 2 : Nat) : Int)
    obtain ⟨H1, g1, g2⟩ := rgHead_is hR (m := m) (by omega) ((i8 % 3 : Nat) : Int) ((o8 % 3 : Nat) : Int) ((l8 % 2 : Nat) : Int)
    obtain ⟨x, hx0⟩ : ∃ x, x = (pkOf L w).headD pk0 := ⟨_, rfl⟩
    obtain ⟨bb, hb0⟩ : ∃ bb, bb = !(pkOf L w).isEmpty := ⟨_, rfl⟩
    have hv : headV (pkOf L (((i8 % 3 : Nat) : Int), ((o8 % 3 : Nat) : Int), ((l8 % 2 : Nat) : Int))) = .tuple #[x.val, .bool bb] := by rw [hx0, hb0, hw]; rfl
    rw [hv] at g1
    have i1 := (hR.ext g2).app [pkB x]
    obtain ⟨H2, q1, q2⟩ := rgHead_is i1 (m := m) (by omega) ((i8 % 3 : Nat) : Int) ((o8 % 3 : Nat) : Int) ((l8 % 2 : Nat) : Int)
    rw [hv] at q1
    have i2 := (i1.ext q2).app [pkB x]
    obtain ⟨H3, p1, p2, p3⟩ := pop_any i2 (m := m) (by omega) (((i8 % 3 : Nat) : Int), ((o8 % 3 : Nat) : Int), ((l8 % 2 : Nat) : Int))
    rw [hv] at p1
    simp only at p1
    have i3 := p3.app [pkB x]
    have t2 := rgLen_is i3 (m := m) (by omega) ((i8 % 3 : Nat) : Int) ((o8 % 3 : Nat) : Int) ((l8 % 2 : Nat) : Int)
    rw [q_pop, if_pos rfl] at t2
    rw [← hw] at t1 t2
    have s1 : stN 4 (.pointer (some ⟨H1.length, 0, none⟩)) x.val (H1 ++ [pkB pk0]) = some (undef, H1 ++ [pkB x]) := st_pk0 H1 x
    have s2 : stN 4 (.pointer (some ⟨H2.length, 0, none⟩)) x.val (H2 ++ [pkB pk0]) = some (undef, H2 ++ [pkB x]) := st_pk0 H2 x
    have s3 : stN 4 (.pointer (some ⟨H3.length, 0, none⟩)) x.val (H3 ++ [pkB pk0]) = some (undef, H3 ++ [pkB x]) := st_pk0 H3 x
    -- the packets, at the end
    have b1 : (H1 ++ [pkB x])[H1.length]? = some (pkB x) := by simp
    have b1' : H2[H1.length]? = some (pkB x) := by rw [q2.2 _ (by simp) id, b1]
    have b1'' : (H2 ++ [pkB x])[H1.length]? = some (pkB x) := by rw [List.getElem?_append_left (List.getElem?_eq_some_iff.mp b1').1, b1']
    have b1e : H3[H1.length]? = some (pkB x) := p2.2 _ _ b1'' (nA_pk x)
    have b2e : H3[H2.length]? = some (pkB x) := p2.2 _ _ (by simp) (nA_pk x)
    have l1 : ldN 4 (.pointer (some ⟨H1.length, 0, none⟩)) (H3 ++ [pkB x]) = some (x.val, H3 ++ [pkB x]) := ld_pkAt (by rw [List.getElem?_append_left (List.getElem?_eq_some_iff.mp b1e).1, b1e])
    have l2 : ldN 4 (.pointer (some ⟨H2.length, 0, none⟩)) (H3 ++ [pkB x]) = some (x.val, H3 ++ [pkB x]) := ld_pkAt (by rw [List.getElem?_append_left (List.getElem?_eq_some_iff.mp b2e).1, b2e])
    have l3 : ldN 4 (.pointer (some ⟨H3.length, 0, none⟩)) (H3 ++ [pkB x]) = some (x.val, H3 ++ [pkB x]) := ld_pkAt (by simp)
    have z1 : (bb == bb) = true := by simp
    have z2 : bb = decide ((0 : Int) < ((qOf L w).length : Int)) := by
      rw [hb0, qp_len]
      cases pkOf L w with
      | nil => rfl
      | cons y ys => simp
    have z3 : (bb == decide ((0 : Int) < ((qOf L w).length : Int))) = true := by rw [← z2]; simp
    have hqb : (qOf L w).length ≤ 200 := by
      obtain ⟨p, s, mb, l, top, free, fl, f, hi⟩ := hR
      have h1 : (qOf L w).length ≤ L.length := by simp [qOf, List.length_filter_le]
      have := hi.cnt
      have := hi.b1
      omega
    have z4 : IntKind.i64.wrap (((qOf L w).length : Int) - 1) = ((qOf L w).length : Int) - 1 := wrap_i64 (by omega) (by omega)
    have z5 : (((qOf L w).tail.length : Int) == max (((qOf L w).length : Int) - 1) 0) = true := by
      rw [List.length_tail]
      simp
      omega
    refine ⟨H3 ++ [pkB x], ?_⟩
    rw [loop_succ, f11_b0_eq]
    unfold f11_b0
    simp -implicitDefEqProofs only [hlen, b_lss, e, r_opt, ob_some, iteV_false, again_exit]
    rw [f11_e0_0_eq]
    unfold f11_e0_0
    simp -implicitDefEqProofs only [r3 i8 h1, r3 o8 h2, r2 l8 h3, c1, c2, c3, t1, g1, q1, p1, t2, pkB_zero, x_newB, s1, s2, s3, ext_0, ext_1, l1, l2, l3, ePk, pkEq_self, beql8, z1, b_gtr, z3, b_sub, z4, maxI2, b_eql, z5, r_gdt, r_gdt2, pick_t, r_opt, r_ret, ob_some, oneOf_one]
  | succ r ih =>
    intro i k H L hr hi hx hk hO hR
    intros
    obtain ⟨k, rfl⟩ : ∃ n, k = n + 1 := ⟨k - 1, by omega⟩
    have hlen := hO.len
    have e : decide ((i : Int) < xs.length) = true := by simp; omega
    obtain ⟨y, hy⟩ : ∃ y, xs[i]? = some y := ⟨xs[i], List.getElem?_eq_getElem (by omega)⟩
    have hat := hO.sl.at_ i .i64 (by rw [List.length_map]; omega)
    have hld := hO.sl.ldN (el := ROp.cells) ROp.len hy
    have hval : Value.agg ⟨y.cells⟩ = y.val := rfl
    rw [hval] at hld
    have hin := (hO.ok y (List.mem_of_getElem? hy)).1
    have hnr := near_is (H := H ++ [opB (yN y)]) (m := m) (by omega) (yN y) (inR_N hin)
    have e3 : IntKind.i64.wrap ((i : Int) + 1) = ((i + 1 : Nat) : Int) := by rw [wrap_i64 (by omega) (by omega)]; omega
    obtain ⟨H5, hH5⟩ : ∃ H5, H5 = H ++ [opB (nearO (yN y))] ++ [opB (nearO (yN y))] ++ [opB (nearO (yN y))] := ⟨_, rfl⟩
    have hstG := st_opG H (yN y) (nearO (yN y)) (opB (nearO (yN y))) (opB (nearO (yN y)))
    rw [← hH5] at hstG
    have c5 : Ch AR H H5 := by rw [hH5, List.append_assoc, List.append_assoc]; exact Ch.app _ _ _
    have i5 : IsRings H5 a L 100 3 2 := by rw [hH5]; exact ((hR.app _).app _).app _
    have at5 : H5[H.length]? = some (opB (nearO (yN y))) := by rw [hH5, List.append_assoc, List.append_assoc, List.getElem?_append_right (Nat.le_refl _)]; simp
    have f1 := ld_opj at5 1 _ rfl
    have f2 := ld_opj at5 2 _ rfl
    have f3 := ld_opj at5 3 _ rfl
    have f5 := ld_opx at5
    obtain ⟨H6, L6, p1, p2, p3, p4⟩ := push_any i5 (m := m) (by omega) (nearO (yN y)).w (nearO (yN y)).x
    have p1' : lvl Try.prog pk8 m (.func 33) [.pointer (some ⟨a, 0, none⟩), .int .i64 (nearO (yN y)).i, .int .i64 (nearO (yN y)).o, .int .i64 (nearO (yN y)).l, (nearO (yN y)).x.val] H5 = some (.bool (valid (nearO (yN y)).w 3 2 && decide (L.length < 100)), H6) := p1
    rw [loop_succ, f11_b0_eq]
    unfold f11_b0
    simp -implicitDefEqProofs only [hlen, b_lss, e, r_opt, r_ret, ob_some, iteV_true, hat, hld, zOp, x_newB, st_op0, r_fAddr, Nat.zero_add, st_opN, ld_op0, hnr, hstG, f1, f2, f3, f5, p1', b_add, e3, again_normal]
    exact ih (i + 1) k H6 L6 (by omega) (by omega) hx (by omega) ((hO.ch c5 nA_ro).ch p2 nA_ro) p3 ..

theorem ringsHead_true {H : Heap} (i8 o8 l8 : Int) (h1 : 0 ≤ i8 ∧ i8 < 256) (h2 : 0 ≤ o8 ∧ o8 < 256) (h3 : 0 ≤ l8 ∧ l8 < 256) (ho : ROps H v b xs) : ∃ H', lvl Try.prog pk8 1000 (.func 11) [v, .int .u8 i8, .int .u8 o8, .int .u8 l8] H = some (.bool true, H') := by
  obtain ⟨i8, rfl⟩ : ∃ n : Nat, i8 = n := ⟨i8.toNat, by omega⟩
  obtain ⟨o8, rfl⟩ : ∃ n : Nat, o8 = n := ⟨o8.toNat, by omega⟩
  obtain ⟨l8, rfl⟩ : ∃ n : Nat, l8 = n := ⟨l8.toNat, by omega⟩
  have hk := fun H => known8_is 999 (by omega) H
  have hlen := ho.len
  by_cases hx : 60 < xs.length
  · have e1 : decide (60 < (xs.length : Int)) = true := decide_eq_true (by omega)
    refine ⟨H, lvl_at (flatPr_no rfl) (by omega) ?_⟩
    rw [f11_eq]
    unfold f11
    simp -implicitDefEqProofs only [show 1000 - 1 = 999 from rfl, hlen, b_gtr, e1, hk, r_opt, r_ret, ob_some, r_gdtf, r_gdtf2, r_gdu, r_gdu2, pick_t, iteV_true, oneOf_one]
  · have e1 : decide (60 < (xs.length : Int)) = false := decide_eq_false (by omega)
    obtain ⟨a, H1, g1, g2, g3, g4⟩ := rgNew_ok (H := H) (m := 999) (by omega) 3 2 100 (by omega)
    have := head_loop (v := v) (b := b) (xs := xs) (a := a) (m := 999) i8 o8 l8 (by omega) (by omega) (by omega) (by omega) xs.length 0 999 H1 [] (by omega) (by omega) (by omega) (by omega) (ho.ch (Ch.ext g2) nA_ro) g3
    have g1' : lvl Try.prog pk8 999 (.func 29) [.int .i64 3, .int .i64 2, .int .i64 100] H = some (.pointer (some ⟨a, 0, none⟩), H1) := g1
    have fin : ∃ H', body Try.prog (lvl Try.prog pk8 999) (loopN 999) 11 [v, .int .u8 i8, .int .u8 o8, .int .u8 l8] H = some (.bool true, H') := by
      rw [f11_eq]
      unfold f11
      simp -implicitDefEqProofs only [hlen, b_gtr, e1, hk, g1', eRg, r_opt, r_ret, ob_some, r_gdff, r_gdff2, u_not, Bool.not_true, pick_f, iteV_false]
      exact this ..
    obtain ⟨H', hf⟩ := fin
    exact ⟨H', lvl_at (flatPr_no rfl) (by omega) hf⟩
end

end Go.Proofs.Ytcmmlgdbpnogjaa
