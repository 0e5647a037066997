/-
  The reference's Same; LinkBends and LinkTwice answer true.
-/
import Derived.Test.YtcmmlgdbpnogjaaAbsLkRoom
set_option linter.unusedSimpArgs false
set_option linter.unusedVariables false
set_option maxRecDepth 100000
namespace Go.Proofs.Ytcmmlgdbpnogjaa
open Go.Abs

/-- a row that can be read -/
structure RR (H : Heap) (v : Value) (bss : List (List UInt8)) : Prop where
  len : lenSl v = some (.int .i64 bss.length)
  get : ∀ (i : Nat) (bs : List UInt8), bss[i]? = some bs → ∃ u p, iAddr 1 v (.int .i64 i) = some p ∧ ld1 p H = some (u, H) ∧ Br H u bs

section
variable {N : Nat} {H : Heap} {v w : Value} {b : Nat} {xs : List LOp} {a n m : Nat} {bss bss2 : List (List UInt8)} {G : Nat → Prop}

theorem Row.rr (h : RowL H v bss G) : RR H v bss := ⟨h.len, fun i bs hb => by
  obtain ⟨u, p, g1, g2, g3, g4, g5⟩ := h.get hb .i64
  exact ⟨u, _, g1, g3 H rfl, g4.rd⟩⟩

theorem Row.cut (h : RowL H v bss G) {k : Nat} (hk : k ≤ bss.length) : ∃ v', slc Try.prog 1 v none (some (.int .i64 k)) none H = some (v', H) ∧ RR H v' (bss.take k) := by
  obtain ⟨us, hi⟩ := h
  have hlen := hi.len
  obtain ⟨hcs, ⟨rfl, h0⟩ | ⟨c, cap, rest, rfl, hcap, hrest, hb⟩⟩ := hi.row
  · obtain rfl : k = 0 := by omega
    refine ⟨.slice none 0 0, by simp [slc, bnd], ⟨rfl, fun i bs hb => by simp at hb⟩⟩
  · have g := slc_is (P := Try.prog) (H := H) (o := 0) (sz := 1) hb (fun _ => szRow) (len := us.length) (cap := cap) (lo := none) (mx := none) rfl (bnd_nat us.length .i64 k) rfl (by omega) (by omega) (Nat.le_refl _)
    simp only [Nat.zero_mul, Nat.add_zero, Nat.sub_zero] at g
    refine ⟨_, g, ⟨by rw [r_lenSl, List.length_take, Nat.min_eq_left hk], fun i bs hbs => ?_⟩⟩
    have hik : i < k := by
      have := (List.getElem?_eq_some_iff.mp hbs).1
      simp at this
      omega
    rw [List.getElem?_take_of_lt hik] at hbs
    have hlt : i < us.length := by omega
    have hu : us[i]? = some us[i] := List.getElem?_eq_getElem hlt
    refine ⟨us[i], .pointer (some ⟨c, i, none⟩), ?_, ?_, (hi.bo i _ bs hu hbs).rd⟩
    · rw [r_iAddr _ _ _ _ _ _ _ (by omega) (by omega)]
      simp
    · rw [x_ld1, hb, x_ldC, List.getElem?_append_left hlt, hu, x_cell]

theorem same_loop (hv : RR H v bss) (hw : RR H w bss2) (hl : bss.length = bss2.length) (hs : bss.length ≤ 100000) : ∀ (r i k : Nat), bss.length - i = r → i ≤ bss.length → r < k → ∀ (x2 x3 x6 x7 x8 x9 x10 x11 x12 x13 x14 x15 x16 x17 x18 x19 x20 x21 x22 x23 x24 x25 x26 x27 : Value),
    loopN k (runCode Try.prog (lvl Try.prog pk m) (loopN m) f28_c0) (f28_k0 (lvl Try.prog pk m) (loopN m)) [v, w, x2, x3, (.bool false), (.int .i64 (i : Nat)), x6, x7, x8, x9, x10, x11, x12, x13, x14, x15, x16, x17, x18, x19, x20, x21, x22, x23, x24, x25, x26, x27] H = some (.bool (bss.drop i == bss2.drop i), H) := by
  intro r
  have hlen := hv.len
  induction r with
  | zero =>
    intro i k hr hi hk
    intros
    obtain ⟨k, rfl⟩ : ∃ n, k = n + 1 := ⟨k - 1, by omega⟩
    obtain rfl : i = bss.length := by omega
    have e : decide ((bss.length : Int) < bss.length) = false := by simp
    rw [loop_succ, f28_b0_eq]
    unfold f28_b0
    simp -implicitDefEqProofs only [hlen, b_lss, e, r_opt, ob_some, iteV_false, again_exit]
    rw [f28_e0_0_eq]
    unfold f28_e0_0
    rw [List.drop_length, hl, List.drop_length]
    simp -implicitDefEqProofs only [oneOf_one]
    rfl
  | succ r ih =>
    intro i k hr hi hk
    intros
    obtain ⟨k, rfl⟩ : ∃ n, k = n + 1 := ⟨k - 1, by omega⟩
    have e : decide ((i : Int) < bss.length) = true := by simp; omega
    have e3 : IntKind.i64.wrap ((i : Int) + 1) = ((i + 1 : Nat) : Int) := by rw [wrap_i64 (by omega) (by omega)]; omega
    have hb : bss[i]? = some bss[i] := List.getElem?_eq_getElem (by omega)
    have hb2 : bss2[i]? = some bss2[i] := List.getElem?_eq_getElem (by omega)
    obtain ⟨u, p, g1, g2, g3⟩ := hv.get i _ hb
    obtain ⟨u', p', q1, q2, q3⟩ := hw.get i _ hb2
    have c1 := cB u _ g3
    have c2 := cB u' _ q3
    have d1 : bss.drop i = bss[i] :: bss.drop (i + 1) := (List.getElem_cons_drop (h := by omega)).symm
    have d2 : bss2.drop i = bss2[i] :: bss2.drop (i + 1) := (List.getElem_cons_drop (h := by omega)).symm
    rw [loop_succ, f28_b0_eq]
    unfold f28_b0
    by_cases hq : bss[i] = bss2[i]
    · have e2 : (bss[i] != bss2[i]) = false := by simp [hq]
      simp -implicitDefEqProofs only [hlen, b_lss, e, r_opt, ob_some, ifB_true, iteV_true, g1, g2, c1, q1, q2, c2, b_strNe, e2, iteV_false, b_add, e3, again_normal]
      rw [d1, d2, hq]
      have : (bss2[i] :: bss.drop (i + 1) == bss2[i] :: bss2.drop (i + 1)) = (bss.drop (i + 1) == bss2.drop (i + 1)) := by rw [List.cons_beq_cons, beq_self_eq_true, Bool.true_and]
      rw [this]
      exact ih (i + 1) k (by omega) (by omega) (by omega) ..
    · have e2 : (bss[i] != bss2[i]) = true := by simp [hq]
      simp -implicitDefEqProofs only [hlen, b_lss, e, r_opt, ob_some, ifB_true, iteV_true, g1, g2, c1, q1, q2, c2, b_strNe, e2, again_ret]
      rw [f28_r0_eq]
      unfold f28_r0
      rw [d1, d2]
      have : (bss[i] :: bss.drop (i + 1) == bss2[i] :: bss2.drop (i + 1)) = false := by rw [List.cons_beq_cons, beq_eq_false_iff_ne.mpr hq, Bool.false_and]
      rw [this]
      simp -implicitDefEqProofs only [oneOf_one]

theorem same_is (hv : RR H v bss) (hw : RR H w bss2) (hs : bss.length ≤ 100000) (hm : bss.length + 10 ≤ m) : lvl Try.prog pk m (.func 28) [v, w] H = some (.bool (bss == bss2), H) := by
  refine lvl_at (flatPr_no rfl) (by omega) ?_
  rw [f28_eq]
  unfold f28
  have l1 := hv.len
  have l2 := hw.len
  by_cases hl : bss.length = bss2.length
  · have e1 : ((bss.length : Int) != bss2.length) = false := by simp [hl]
    simp -implicitDefEqProofs only [l1, l2, b_neq, e1, r_opt, ob_some, iteV_false]
    have := same_loop (m := m - 1) hv hw hl hs bss.length 0 (m - 1) (by omega) (by omega) (by omega)
    simp only [List.drop_zero] at this
    exact this ..
  · have e1 : ((bss.length : Int) != bss2.length) = true := by simp; omega
    have e2 : (bss == bss2) = false := by
      rw [beq_eq_false_iff_ne]
      intro h
      exact hl (by rw [h])
    simp -implicitDefEqProofs only [l1, l2, b_neq, e1, e2, r_opt, ob_some, iteV_true, oneOf_one]

theorem bent_bent (bs : List UInt8) (at_ : Nat) (x : UInt8) (hb : bs ≠ []) : bent (bent bs at_ x) at_ x = bs := by
  have hpos : 0 < bs.length := List.length_pos_iff.mpr hb
  have hj : at_ % bs.length < bs.length := Nat.mod_lt _ hpos
  unfold bent
  rw [List.length_set, List.getD_eq_getElem?_getD, List.getD_eq_getElem?_getD, List.getElem?_set_self hj, List.set_set, List.getElem?_eq_getElem hj]
  simp only [Option.getD_some]
  have : bs[at_ % bs.length] ^^^ x ^^^ x = bs[at_ % bs.length] := by
    rw [UInt8.xor_assoc, UInt8.xor_self, UInt8.xor_zero]
  rw [this, List.set_getElem_self]

theorem bent_ne (bs : List UInt8) (at_ : Nat) (x : UInt8) (hb : bs ≠ []) (hx : x ≠ 0) : bent bs at_ x ≠ bs := by
  have hpos : 0 < bs.length := List.length_pos_iff.mpr hb
  have hj : at_ % bs.length < bs.length := Nat.mod_lt _ hpos
  intro h
  have h1 := congrArg (fun l : List UInt8 => l[at_ % bs.length]?) h
  simp only [bent] at h1
  rw [List.getElem?_set_self hj, List.getD_eq_getElem?_getD, List.getElem?_eq_getElem hj] at h1
  simp only [Option.getD_some, Option.some.injEq] at h1
  apply hx
  have h2 := congrArg (fun y => bs[at_ % bs.length] ^^^ y) h1
  simp only [← UInt8.xor_assoc, UInt8.xor_self, UInt8.zero_xor] at h2
  exact h2

theorem bent_pos (bs : List UInt8) (at_ : Nat) (x : UInt8) (hb : bs ≠ []) : bent bs at_ x ≠ [] := by
  unfold bent
  intro h
  have := congrArg List.length h
  rw [List.length_set] at this
  exact hb (List.length_eq_zero_iff.mp this)

theorem bends_loop (i8 at8 : Nat) (x : UInt8) (h8 : i8 < 256) (hat8 : at8 < 256) (hm : 500 ≤ m) (hx0 : 0 < xs.length) : ∀ (r i k : Nat) (H : Heap) (F : Nat → Prop), xs.length - i = r → i ≤ xs.length → xs.length ≤ 100 → r < k → Inv N H v b xs a (senT 64 xs i) 64 F → ∀ (x4 x5 x6 x7 x11 x12 x13 x14 x15 x16 x17 x18 x19 x20 x21 x22 x23 x24 x25 x26 x27 x28 x29 x30 x31 x32 x33 x34 x35 x36 x37 x38 x39 x40 x41 x42 x43 x44 x45 x46 x47 x48 x49 x50 x51 x52 x53 x54 x55 x56 x57 x58 x59 x60 x61 x62 x63 x64 x65 x66 x67 x68 x69 x70 x71 x72 x73 x74 x75 x76 x77 x78 x79 x80 x81 x82 x83 x84 x85 x86 x87 x88 x89 x90 x91 x92 x93 : Value),
    ∃ H', loopN k (runCode Try.prog (lvl Try.prog pk m) (loopN m) f8_c0) (f8_k0 (lvl Try.prog pk m) (loopN m)) [v, (.int .u8 i8), (.int .u8 at8), (.int .u8 x.toNat), x4, x5, x6, x7, (.bool false), (.pointer (some ⟨a, 0, none⟩)), (.int .i64 (i : Nat)), x11, x12, x13, x14, x15, x16, x17, x18, x19, x20, x21, x22, x23, x24, x25, x26, x27, x28, x29, x30, x31, x32, x33, x34, x35, x36, x37, x38, x39, x40, x41, x42, x43, x44, x45, x46, x47, x48, x49, x50, x51, x52, x53, x54, x55, x56, x57, x58, x59, x60, x61, x62, x63, x64, x65, x66, x67, x68, x69, x70, x71, x72, x73, x74, x75, x76, x77, x78, x79, x80, x81, x82, x83, x84, x85, x86, x87, x88, x89, x90, x91, x92, x93] H = some (.bool true, H') := by
  intro r
  induction r with
  | zero =>
    intro i k H F hr hi hx hk hI
    intros
    obtain ⟨k, rfl⟩ : ∃ n, k = n + 1 := ⟨k - 1, by omega⟩
    obtain rfl : i = xs.length := by omega
    have hlen := hI.ops.len
    have e : decide ((xs.length : Int) < xs.length) = false := by simp
    have hL := senT_len (room := 64) (xs := xs) xs.length (Nat.le_refl _)
    obtain ⟨bss, hbss⟩ : ∃ bss, bss = senT 64 xs xs.length := ⟨_, rfl⟩
    rw [← hbss] at hI hL
    obtain ⟨w, H1, G, g1, g2, g3, g4⟩ := hI.all (m := m) (by omega)
    have wl := g4.row.len
    have cf := fun H => cvU H i8 h8
    have cf2 := fun H => cvU H at8 hat8
    have e1 : ((i8 : Nat) : Int).tmod bss.length = ((i8 % bss.length : Nat) : Int) := by rw [Int.tmod_eq_emod_of_nonneg (by omega)]; omega
    have r1 := b_rem (P := Try.prog) 3 .i64 (i8 : Int) bss.length (by omega)
    rw [e1] at r1
    have hq : i8 % bss.length < bss.length := Nat.mod_lt _ (by omega)
    obtain ⟨q, hqq⟩ : ∃ q, q = i8 % bss.length := ⟨_, rfl⟩
    rw [← hqq] at hq r1
    have hb : bss[q]? = some bss[q] := List.getElem?_eq_getElem hq
    rw [loop_succ, f8_b0_eq]
    unfold f8_b0
    simp -implicitDefEqProofs only [hlen, b_lss, e, r_opt, ob_some, iteV_false, again_exit]
    rw [f8_e0_0_eq]
    unfold f8_e0_0
    by_cases hc : x ≠ 0 ∧ bss[q] ≠ []
    · obtain ⟨hx0', hne⟩ := hc
      obtain ⟨H2, t1, t2, t3⟩ := g3.bend_yes (m := m) (by omega) q at8 x hb hx0' hne
      obtain ⟨w2, H3, G2, q1, q2, q3, q4⟩ := t3.all (m := m) (by omega)
      have hb2 : (bss.set q (bent bss[q] at8 x))[q]? = some (bent bss[q] at8 x) := List.getElem?_set_self hq
      obtain ⟨H4, s1, s2, s3⟩ := q3.bend_yes (m := m) (by omega) q at8 x hb2 hx0' (bent_pos _ _ _ hne)
      have hback : (bss.set q (bent bss[q] at8 x)).set q (bent (bent bss[q] at8 x) at8 x) = bss := by
        rw [List.set_set, bent_bent _ _ _ hne, List.set_getElem_self]
      rw [hback] at s3
      have kw4 := ((g4.step t2).step (St.ext q2)).step s2
      obtain ⟨u, p, k1, k2, k3, k4, k5⟩ := kw4.row.get hb .i64
      have ul := k4.rd.len
      obtain ⟨w5, H5, G5, p1, p2, p3, p4⟩ := s3.all (m := m) (by omega)
      have kw5 := kw4.step (St.ext p2)
      have kmid := (q4.step s2).step (St.ext p2)
      have sm1 := same_is (m := m) (Row.rr kw5.row) (Row.rr p4.row) (by omega) (by omega)
      have sm2 := same_is (m := m) (Row.rr kw5.row) (Row.rr kmid.row) (by omega) (by omega)
      have b1 : (bss == bss) = true := by simp
      have b2 : (bss == bss.set q (bent bss[q] at8 x)) = false := by
        rw [beq_eq_false_iff_ne]
        intro h
        have := congrArg (fun l : List (List UInt8) => l[q]?) h
        simp only [hb, hb2, Option.some.injEq] at this
        exact bent_ne _ _ _ hne hx0' this.symm
      rw [b1] at sm1
      rw [b2] at sm2
      have z1 : (((x.toNat : Nat) : Int) != 0) = true := by
        have : x.toNat ≠ 0 := fun h0 => hx0' (by apply UInt8.toNat_inj.mp; exact h0)
        simp
        exact this
      have z2 : decide ((0 : Int) < (bss[q].length : Int)) = true := decide_eq_true (by have := List.length_pos_iff.mpr hne; omega)
      have z3 : (true != true) = false := rfl
      have z4 : (false != true) = true := rfl
      refine ⟨H5, ?_⟩
      simp -implicitDefEqProofs only [g1, cf, cf2, wl, r1, t1, q1, s1, b_neq, z1, b_gtr, z2, k1, k3 H4 rfl, ul, bneq, z3, z4, p1, sm1, sm2, u_not, Bool.not_true, r_gdt, r_gdt2, r_gdff, r_gdff2, pick_t, pick_f, r_opt, r_ret, ob_some, iteV_false, oneOf_one]
    · have hno : x = 0 ∨ bss[q]? = some [] := by
        by_cases hx0' : x = 0
        · exact .inl hx0'
        · right
          rw [hb]
          congr 1
          by_cases hne : bss[q] = []
          · exact hne
          · exact absurd ⟨hx0', hne⟩ hc
      have t1 := g3.bend_no (m := m) (by omega) q at8 x (by rw [Int.toNat_natCast]; exact .inr (.inr (.inr hno)))
      obtain ⟨w2, H3, G2, q1, q2, q3, q4⟩ := g3.all (m := m) (by omega)
      have s1 := q3.bend_no (m := m) (by omega) q at8 x (by rw [Int.toNat_natCast]; exact .inr (.inr (.inr hno)))
      have kw3 := g4.step (St.ext q2)
      obtain ⟨u, p, k1, k2, k3, k4, k5⟩ := kw3.row.get hb .i64
      have ul := k4.rd.len
      obtain ⟨w5, H5, G5, p1, p2, p3, p4⟩ := q3.all (m := m) (by omega)
      have kw5 := kw3.step (St.ext p2)
      have kmid := q4.step (St.ext p2)
      have sm1 := same_is (m := m) (Row.rr kw5.row) (Row.rr p4.row) (by omega) (by omega)
      have sm2 := same_is (m := m) (Row.rr kw5.row) (Row.rr kmid.row) (by omega) (by omega)
      have b1 : (bss == bss) = true := by simp
      rw [b1] at sm1 sm2
      have z3 : (false != false) = false := rfl
      have z4 : (true != false) = true := rfl
      refine ⟨H5, ?_⟩
      by_cases hx0' : x = 0
      · have z1 : (((x.toNat : Nat) : Int) != 0) = false := by subst hx0'; rfl
        simp -implicitDefEqProofs only [g1, cf, cf2, wl, r1, t1, q1, s1, b_neq, z1, k1, k3 H3 rfl, ul, bneq, z3, z4, p1, sm1, sm2, u_not, Bool.not_true, r_gdt, r_gdt2, r_gdff, r_gdff2, r_gdft, r_gdft2, r_gdu, r_gdu2, pick_t, pick_f, r_opt, r_ret, ob_some, iteV_false, oneOf_one]
      · have z1 : (((x.toNat : Nat) : Int) != 0) = true := by
          have : x.toNat ≠ 0 := fun h0 => hx0' (by apply UInt8.toNat_inj.mp; exact h0)
          simp
          exact this
        have hne : bss[q] = [] := by
          rcases hno with h | h
          · exact absurd h hx0'
          · rw [hb] at h
            exact Option.some.inj h
        have z2 : decide ((0 : Int) < (bss[q].length : Int)) = false := by rw [hne]; rfl
        simp -implicitDefEqProofs only [g1, cf, cf2, wl, r1, t1, q1, s1, b_neq, z1, b_gtr, z2, k1, k3 H3 rfl, ul, bneq, z3, z4, p1, sm1, sm2, u_not, Bool.not_true, r_gdt, r_gdt2, r_gdff, r_gdff2, pick_t, pick_f, r_opt, r_ret, ob_some, iteV_false, oneOf_one]
  | succ r ih =>
    intro i k H F hr hi hx hk hI
    intros
    obtain ⟨k, rfl⟩ : ∃ n, k = n + 1 := ⟨k - 1, by omega⟩
    have hlen := hI.ops.len
    have e : decide ((i : Int) < xs.length) = true := by simp; omega
    obtain ⟨y, hy⟩ : ∃ y, xs[i]? = some y := ⟨xs[i], List.getElem?_eq_getElem (by omega)⟩
    have hat := hI.ops.sl.at_ i .i64 (by rw [List.length_map]; omega)
    have hld1 := hI.ops.sl.ld1 (el := LOp.cells) LOp.len (j := 1) hy rfl
    have e3 : IntKind.i64.wrap ((i : Int) + 1) = ((i + 1 : Nat) : Int) := by rw [wrap_i64 (by omega) (by omega)]; omega
    obtain ⟨H2, F2, s1, s2, s3⟩ := hI.send (m := m) (by omega) hy
    rw [sent_T hy] at s3
    rw [loop_succ, f8_b0_eq]
    unfold f8_b0
    simp -implicitDefEqProofs only [hlen, b_lss, e, r_opt, r_ret, ob_some, iteV_true, hat, r_fAddr, hld1, s1, b_add, e3, again_normal]
    exact ih (i + 1) k H2 _ (by omega) (by omega) hx (by omega) s3 ..

theorem linkBends_true {H : Heap} (i8 at8 x : Int) (h8 : 0 ≤ i8 ∧ i8 < 256) (ha8 : 0 ≤ at8 ∧ at8 < 256) (hx8 : 0 ≤ x ∧ x < 256) (ho : Ops N H v b xs) (hN : N ≤ H.length) : ∃ H', lvl Try.prog pk (xs.length + 600) (.func 8) [v, .int .u8 i8, .int .u8 at8, .int .u8 x] H = some (.bool true, H') := by
  obtain ⟨i8, rfl⟩ : ∃ n : Nat, i8 = n := ⟨i8.toNat, by omega⟩
  obtain ⟨at8, rfl⟩ : ∃ n : Nat, at8 = n := ⟨at8.toNat, by omega⟩
  obtain ⟨x', rfl⟩ : ∃ n : UInt8, x = n.toNat := ⟨UInt8.ofNat x.toNat, by rw [UInt8.toNat_ofNat']; omega⟩
  have h1 := heavy_is (pr := pk) (flatPr_no rfl) ho (m := xs.length + 599) (by omega)
  have h2 := fun H => known_is (xs.length + 599) (by omega) H
  have hlen := ho.len
  by_cases hh : hvy xs = true
  · refine ⟨H, lvl_at (flatPr_no rfl) (by omega) ?_⟩
    rw [f8_eq]
    unfold f8
    rw [hh] at h1
    simp -implicitDefEqProofs only [show xs.length + 600 - 1 = xs.length + 599 by omega, h1, h2, r_opt, r_ret, ob_some, r_gdtf, r_gdtf2, r_gdu, r_gdu2, pick_t, iteV_true, oneOf_one]
  · have hh' : hvy xs = false := by simpa using hh
    obtain ⟨hx, hs⟩ := hvy_no ho hh'
    rw [hh'] at h1
    by_cases h0 : xs.length = 0
    · have e1 : ((xs.length : Int) == 0) = true := by simp; exact List.length_eq_zero_iff.mp h0
      refine ⟨H, lvl_at (flatPr_no rfl) (by omega) ?_⟩
      rw [f8_eq]
      unfold f8
      simp -implicitDefEqProofs only [show xs.length + 600 - 1 = xs.length + 599 by omega, h1, h2, hlen, b_eql, e1, r_opt, r_ret, ob_some, r_gdff, r_gdff2, r_gdtf, r_gdtf2, r_gdu, r_gdu2, pick_f, pick_t, iteV_true, oneOf_one]
    · have e1 : ((xs.length : Int) == 0) = false := by simp; exact fun h => h0 (by rw [h]; rfl)
      obtain ⟨H1, F, g1, g2, g3, g4⟩ := Inv.new (m := xs.length + 599) ho hN hs (by omega) 64 (by omega)
      have := bends_loop (m := xs.length + 599) (a := H.length) i8 at8 x' (by omega) (by omega) (by omega) (by omega) xs.length 0 (xs.length + 599) H1 F (by omega) (by omega) hx (by omega) (by simpa [senT] using g3)
      have fin : ∃ H', body Try.prog (lvl Try.prog pk (xs.length + 599)) (loopN (xs.length + 599)) 8 [v, .int .u8 i8, .int .u8 at8, .int .u8 x'.toNat] H = some (.bool true, H') := by
        rw [f8_eq]
        unfold f8
        have g1' : lvl Try.prog pk (xs.length + 599) (.func 17) [.int .i64 64] H = some (.pointer (some ⟨H.length, 0, none⟩), H1) := g1
        simp -implicitDefEqProofs only [h1, h2, hlen, b_eql, e1, g1', eL, r_opt, r_ret, ob_some, r_gdff, r_gdff2, u_not, Bool.not_true, pick_f, iteV_false]
        exact this ..
      obtain ⟨H', hf⟩ := fin
      exact ⟨H', lvl_at (flatPr_no rfl) (by omega) hf⟩

theorem twice_loop (i8 : Nat) (h8 : i8 < 256) (hn : 1 ≤ n ∧ n ≤ 64) (hm : 500 ≤ m) (hx0 : 0 < xs.length) : ∀ (r i k : Nat) (H : Heap) (F : Nat → Prop), xs.length - i = r → i ≤ xs.length → xs.length ≤ 100 → r < k → Inv N H v b xs a (senT n xs i) n F → ∀ (x2 x3 x4 x5 x10 x11 x12 x13 x14 x15 x16 x17 x18 x19 x20 x21 x22 x23 x24 x25 x26 x27 x28 x29 x30 x31 x32 x33 x34 x35 x36 x37 x38 x39 x40 x41 x42 x43 x44 x45 x46 x47 x48 x49 x50 x51 x52 x53 x54 x55 x56 x57 x58 x59 x60 x61 x62 x63 x64 x65 x66 x67 x68 x69 x70 x71 x72 x73 x74 x75 x76 x77 x78 x79 x80 x81 x82 x83 x84 x85 x86 x87 x88 x89 x90 x91 x92 x93 x94 x95 x96 x97 x98 x99 x100 : Value),
    ∃ H', loopN k (runCode Try.prog (lvl Try.prog pk m) (loopN m) f9_c0) (f9_k0 (lvl Try.prog pk m) (loopN m)) [v, (.int .u8 i8), x2, x3, x4, x5, (.bool false), (.int .i64 (n : Nat)), (.pointer (some ⟨a, 0, none⟩)), (.int .i64 (i : Nat)), x10, x11, x12, x13, x14, x15, x16, x17, x18, x19, x20, x21, x22, x23, x24, x25, x26, x27, x28, x29, x30, x31, x32, x33, x34, x35, x36, x37, x38, x39, x40, x41, x42, x43, x44, x45, x46, x47, x48, x49, x50, x51, x52, x53, x54, x55, x56, x57, x58, x59, x60, x61, x62, x63, x64, x65, x66, x67, x68, x69, x70, x71, x72, x73, x74, x75, x76, x77, x78, x79, x80, x81, x82, x83, x84, x85, x86, x87, x88, x89, x90, x91, x92, x93, x94, x95, x96, x97, x98, x99, x100] H = some (.bool true, H') := by
  intro r
  induction r with
  | zero =>
    intro i k H F hr hi hx hk hI
    intros
    obtain ⟨k, rfl⟩ : ∃ n, k = n + 1 := ⟨k - 1, by omega⟩
    obtain rfl : i = xs.length := by omega
    have hlen := hI.ops.len
    have e : decide ((xs.length : Int) < xs.length) = false := by simp
    have hL := senT_len (room := n) (xs := xs) xs.length (Nat.le_refl _)
    obtain ⟨bss, hbss⟩ : ∃ bss, bss = senT n xs xs.length := ⟨_, rfl⟩
    rw [← hbss] at hI hL
    obtain ⟨w, H1, G, g1, g2, g3, g4⟩ := hI.all (m := m) (by omega)
    have wl := g4.row.len
    have cf := fun H => cvU H i8 h8
    have e1 : ((i8 : Nat) : Int).tmod bss.length = ((i8 % bss.length : Nat) : Int) := by rw [Int.tmod_eq_emod_of_nonneg (by omega)]; omega
    have r1 := b_rem (P := Try.prog) 3 .i64 (i8 : Int) bss.length (by omega)
    rw [e1] at r1
    have hq : i8 % bss.length < bss.length := Nat.mod_lt _ (by omega)
    obtain ⟨q, hqq⟩ : ∃ q, q = i8 % bss.length := ⟨_, rfl⟩
    rw [← hqq] at hq r1
    have hb : bss[q]? = some bss[q] := List.getElem?_eq_getElem hq
    obtain ⟨H2, F2, t1, t2, t3⟩ := g3.twice_yes (m := m) (by omega) q hb
    obtain ⟨w2, H3, G2, q1, q2, q3, q4⟩ := t3.all (m := m) (by omega)
    have kw := (g4.step t2).step (St.ext q2)
    have wl2 := q4.row.len
    refine ⟨H3, ?_⟩
    rw [loop_succ, f9_b0_eq]
    unfold f9_b0
    simp -implicitDefEqProofs only [hlen, b_lss, e, r_opt, ob_some, iteV_false, again_exit]
    rw [f9_e0_0_eq]
    unfold f9_e0_0
    by_cases hf : bss.length = n
    · have hs : sent n bss bss[q] = bss := by unfold sent; rw [if_pos hf]
      rw [hs] at q4
      have sm := same_is (m := m) (Row.rr kw.row) (Row.rr q4.row) (by omega) (by omega)
      have b1 : (bss == bss) = true := by simp
      rw [b1] at sm
      have z1 : decide (bss.length < n) = false := decide_eq_false (by omega)
      have z2 : ((bss.length : Int) == n) = true := by simp [hf]
      simp -implicitDefEqProofs only [g1, cf, wl, r1, t1, q1, z1, b_eql, z2, u_not, Bool.not_false, r_gdt, r_gdt2, sm, pick_t, r_opt, r_ret, ob_some, iteV_true, oneOf_one]
    · have hs : sent n bss bss[q] = bss ++ [bss[q]] := by unfold sent; rw [if_neg hf]
      rw [hs] at q4 wl2
      rw [List.length_append] at wl2
      obtain ⟨v3, s1, s2⟩ := Row.cut q4.row (k := bss.length) (by simp)
      rw [List.take_left] at s2
      have sm := same_is (m := m) s2 (Row.rr kw.row) (by omega) (by omega)
      have b1 : (bss == bss) = true := by simp
      rw [b1] at sm
      have z1 : decide (bss.length < n) = true := decide_eq_true (by omega)
      have z2 : ((bss.length : Int) == n) = false := by simp; omega
      have hbl : (bss ++ [bss[q]])[bss.length]? = some bss[q] := by simp
      obtain ⟨u, p, k1, k2, k3, k4, k5⟩ := kw.row.get hb .i64
      obtain ⟨u', p', k1', k2', k3', k4', k5'⟩ := q4.row.get hbl .i64
      have c1 := cB u _ k4.rd
      have c2 := cB u' _ k4'.rd
      have e4 : IntKind.i64.wrap ((bss.length : Int) + 1) = ((bss.length + [bss[q]].length : Nat) : Int) := by rw [wrap_i64 (by omega) (by omega)]; simp
      have z3 : (((bss.length + [bss[q]].length : Nat) : Int) == ((bss.length + [bss[q]].length : Nat) : Int)) = true := by simp
      have z4 : (bss[q] == bss[q]) = true := by simp
      simp -implicitDefEqProofs only [g1, cf, wl, r1, t1, q1, z1, b_eql, z2, r_gdt, r_gdt2, wl2, b_add, e4, z3, s1, sm, k1, k1', k3 H3 rfl, k3' H3 rfl, c1, c2, b_strEq, z4, pick_t, r_opt, r_ret, ob_some, ifB_true, iteV_false, oneOf_one]
  | succ r ih =>
    intro i k H F hr hi hx hk hI
    intros
    obtain ⟨k, rfl⟩ : ∃ n, k = n + 1 := ⟨k - 1, by omega⟩
    have hlen := hI.ops.len
    have e : decide ((i : Int) < xs.length) = true := by simp; omega
    obtain ⟨y, hy⟩ : ∃ y, xs[i]? = some y := ⟨xs[i], List.getElem?_eq_getElem (by omega)⟩
    have hat := hI.ops.sl.at_ i .i64 (by rw [List.length_map]; omega)
    have hld1 := hI.ops.sl.ld1 (el := LOp.cells) LOp.len (j := 1) hy rfl
    have e3 : IntKind.i64.wrap ((i : Int) + 1) = ((i + 1 : Nat) : Int) := by rw [wrap_i64 (by omega) (by omega)]; omega
    obtain ⟨H2, F2, s1, s2, s3⟩ := hI.send (m := m) (by omega) hy
    rw [sent_T hy] at s3
    rw [loop_succ, f9_b0_eq]
    unfold f9_b0
    simp -implicitDefEqProofs only [hlen, b_lss, e, r_opt, r_ret, ob_some, iteV_true, hat, r_fAddr, hld1, s1, b_add, e3, again_normal]
    exact ih (i + 1) k H2 _ (by omega) (by omega) hx (by omega) s3 ..

theorem linkTwice_true {H : Heap} (i8 r8 : Int) (h8 : 0 ≤ i8 ∧ i8 < 256) (hr8 : 0 ≤ r8 ∧ r8 < 256) (ho : Ops N H v b xs) (hN : N ≤ H.length) : ∃ H', lvl Try.prog pk (xs.length + 600) (.func 9) [v, .int .u8 i8, .int .u8 r8] H = some (.bool true, H') := by
  obtain ⟨i8, rfl⟩ : ∃ n : Nat, i8 = n := ⟨i8.toNat, by omega⟩
  obtain ⟨r8, rfl⟩ : ∃ n : Nat, r8 = n := ⟨r8.toNat, by omega⟩
  have h1 := heavy_is (pr := pk) (flatPr_no rfl) ho (m := xs.length + 599) (by omega)
  have h2 := fun H => known_is (xs.length + 599) (by omega) H
  have hlen := ho.len
  by_cases hh : hvy xs = true
  · refine ⟨H, lvl_at (flatPr_no rfl) (by omega) ?_⟩
    rw [f9_eq]
    unfold f9
    rw [hh] at h1
    simp -implicitDefEqProofs only [show xs.length + 600 - 1 = xs.length + 599 by omega, h1, h2, r_opt, r_ret, ob_some, r_gdtf, r_gdtf2, r_gdu, r_gdu2, pick_t, iteV_true, oneOf_one]
  · have hh' : hvy xs = false := by simpa using hh
    obtain ⟨hx, hs⟩ := hvy_no ho hh'
    rw [hh'] at h1
    by_cases h0 : xs.length = 0
    · have e1 : ((xs.length : Int) == 0) = true := by simp; exact List.length_eq_zero_iff.mp h0
      refine ⟨H, lvl_at (flatPr_no rfl) (by omega) ?_⟩
      rw [f9_eq]
      unfold f9
      simp -implicitDefEqProofs only [show xs.length + 600 - 1 = xs.length + 599 by omega, h1, h2, hlen, b_eql, e1, r_opt, r_ret, ob_some, r_gdff, r_gdff2, r_gdtf, r_gdtf2, r_gdu, r_gdu2, pick_f, pick_t, iteV_true, oneOf_one]
    · have e1 : ((xs.length : Int) == 0) = false := by simp; exact fun h => h0 (by rw [h]; rfl)
      have e6 : ((r8 : Nat) : Int).tmod 64 = ((r8 % 64 : Nat) : Int) := by rw [Int.tmod_eq_emod_of_nonneg (by omega)]; omega
      have r1 := b_rem (P := Try.prog) 5 .u8 (r8 : Int) 64 (by omega)
      rw [e6] at r1
      have cf := fun H => cvU H (r8 % 64) (by omega)
      have e2 : IntKind.i64.wrap (1 + ((r8 % 64 : Nat) : Int)) = ((1 + r8 % 64 : Nat) : Int) := by rw [wrap_i64 (by omega) (by omega)]; omega
      obtain ⟨H1, F, g1, g2, g3, g4⟩ := Inv.new (m := xs.length + 599) ho hN hs (by omega) (1 + r8 % 64) (by omega)
      have := twice_loop (m := xs.length + 599) (a := H.length) (n := 1 + r8 % 64) i8 (by omega) (by omega) (by omega) (by omega) xs.length 0 (xs.length + 599) H1 F (by omega) (by omega) hx (by omega) (by simpa [senT] using g3)
      have fin : ∃ H', body Try.prog (lvl Try.prog pk (xs.length + 599)) (loopN (xs.length + 599)) 9 [v, .int .u8 i8, .int .u8 r8] H = some (.bool true, H') := by
        rw [f9_eq]
        unfold f9
        simp -implicitDefEqProofs only [h1, h2, hlen, b_eql, e1, r1, cf, b_add, e2, g1, eL, r_opt, r_ret, ob_some, r_gdff, r_gdff2, u_not, Bool.not_true, pick_f, iteV_false]
        exact this ..
      obtain ⟨H', hf⟩ := fin
      exact ⟨H', lvl_at (flatPr_no rfl) (by omega) hf⟩
end

end Go.Proofs.Ytcmmlgdbpnogjaa
