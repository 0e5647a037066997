/-
  LinkRoom and LinkNone answer true.
-/
import Derived.Test.YtcmmlgdbpnogjaaAbsLkInv
set_option linter.unusedSimpArgs false
set_option linter.unusedVariables false
set_option maxRecDepth 100000
namespace Go.Proofs.Ytcmmlgdbpnogjaa
open Go.Abs

theorem cvU (H : Heap) (n : Nat) (h : n < 256) : conv Try.prog 5 3 (.int .u8 n) H = some (.int .i64 n, H) := by
  have h1 : Try.prog.underlying 5 = some (.int .u8) := by kernel_rfl
  have h2 : Try.prog.underlying 3 = some (.int .i64) := by kernel_rfl
  rw [c_int _ _ h1 h2, wrap_i64 (by omega) (by omega)]

section
variable {N : Nat} {v : Value} {b : Nat} {xs : List LOp} {a n m : Nat}

theorem room_loop (hn : 1 ≤ n ∧ n ≤ 64) (hm : 500 ≤ m) : ∀ (r i k : Nat) (H : Heap) (bss : List (List UInt8)) (F : Nat → Prop), xs.length - i = r → i ≤ xs.length → xs.length ≤ 100 → r < k → Inv N H v b xs a bss n F → ∀ (x2 x3 x7 x8 x9 x10 x11 x12 x13 x14 x15 x16 x17 x18 x19 x20 x21 x22 x23 x24 x25 x26 x27 x28 x29 x30 x31 x32 x33 x34 x35 x36 x37 x38 x39 x40 x41 x42 x43 x44 x45 x46 x47 x48 x49 x50 x51 x52 x53 x54 x55 x56 x57 x58 x59 x60 x61 x62 x63 x64 x65 x66 x67 x68 x69 x70 x71 x72 x73 x74 x75 x76 x77 x78 x79 x80 x81 x82 x83 x84 x85 x86 x87 x88 x89 x90 x91 x92 x93 x94 x95 x96 x97 x98 x99 x100 x101 x102 x103 x104 x105 : Value),
    ∃ H', loopN k (runCode Try.prog (lvl Try.prog pk m) (loopN m) f3_c0) (f3_k0 (lvl Try.prog pk m) (loopN m)) [(.int .i64 (n : Nat)), v, x2, x3, (.bool false), (.pointer (some ⟨a, 0, none⟩)), (.int .i64 (i : Nat)), x7, x8, x9, x10, x11, x12, x13, x14, x15, x16, x17, x18, x19, x20, x21, x22, x23, x24, x25, x26, x27, x28, x29, x30, x31, x32, x33, x34, x35, x36, x37, x38, x39, x40, x41, x42, x43, x44, x45, x46, x47, x48, x49, x50, x51, x52, x53, x54, x55, x56, x57, x58, x59, x60, x61, x62, x63, x64, x65, x66, x67, x68, x69, x70, x71, x72, x73, x74, x75, x76, x77, x78, x79, x80, x81, x82, x83, x84, x85, x86, x87, x88, x89, x90, x91, x92, x93, x94, x95, x96, x97, x98, x99, x100, x101, x102, x103, x104, x105] H = some (.bool true, H') := by
  intro r
  induction r with
  | zero =>
    intro i k H bss F hr hi hx hk hI
    intros
    obtain ⟨k, rfl⟩ : ∃ n, k = n + 1 := ⟨k - 1, by omega⟩
    obtain rfl : i = xs.length := by omega
    have hlen := hI.ops.len
    have e : decide ((xs.length : Int) < xs.length) = false := by simp
    obtain ⟨w, H1, G, g1, g2, g3, g4⟩ := hI.all (m := m) (by omega)
    have wl := g4.row.len
    have e1 : decide ((1 : Int) ≤ n) = true := decide_eq_true (by omega)
    have e2 : decide ((n : Int) ≤ 64) = true := decide_eq_true (by omega)
    have e3 : decide ((bss.length : Int) ≤ n) = true := decide_eq_true (by have := hI.lk.few; omega)
    refine ⟨H1, ?_⟩
    rw [loop_succ, f3_b0_eq]
    unfold f3_b0
    simp -implicitDefEqProofs only [hlen, b_lss, e, r_opt, ob_some, iteV_false, again_exit]
    rw [f3_e0_0_eq]
    unfold f3_e0_0
    simp -implicitDefEqProofs only [b_geq, b_leq, e1, e2, e3, r_opt, r_ret, ob_some, r_gdt, r_gdt2, pick_t, g1, wl, oneOf_one]
  | succ r ih =>
    intro i k H bss F hr hi hx hk hI
    intros
    obtain ⟨k, rfl⟩ : ∃ n, k = n + 1 := ⟨k - 1, by omega⟩
    have hlen := hI.ops.len
    have e : decide ((i : Int) < xs.length) = true := by simp; omega
    obtain ⟨y, hy⟩ : ∃ y, xs[i]? = some y := ⟨xs[i], List.getElem?_eq_getElem (by omega)⟩
    obtain ⟨w, H1, G, g1, g2, g3, g4⟩ := hI.all (m := m) (by omega)
    have wl := g4.row.len
    have hat := hI.ops.sl.at_ i .i64 (by rw [List.length_map]; omega)
    have hld := g3.ops.sl.ld1 (el := LOp.cells) LOp.len (j := 0) hy rfl
    rw [Nat.add_zero] at hld
    have hld1 := g3.ops.sl.ld1 (el := LOp.cells) LOp.len (j := 1) hy rfl
    have hld2 := g3.ops.sl.ld1 (el := LOp.cells) LOp.len (j := 2) hy rfl
    have e1 : ((y.kind : Nat) : Int).tmod 2 = ((y.kind % 2 : Nat) : Int) := by rw [Int.tmod_eq_emod_of_nonneg (by omega)]; omega
    have r1 := b_rem (P := Try.prog) 5 .u8 (y.kind : Int) 2 (by omega)
    rw [e1] at r1
    have e3 : IntKind.i64.wrap ((i : Int) + 1) = ((i + 1 : Nat) : Int) := by rw [wrap_i64 (by omega) (by omega)]; omega
    rw [loop_succ, f3_b0_eq]
    unfold f3_b0
    have hfew := hI.lk.few
    by_cases hp : y.kind % 2 = 0
    · have e4 : (((y.kind % 2 : Nat) : Int) == 0) = true := by simp [hp]
      obtain ⟨H2, F2, s1, s2, s3⟩ := g3.send (m := m) (by omega) hy
      obtain ⟨w', H3, G', q1, q2, q3, q4⟩ := s3.all (m := m) (by omega)
      have wl' := q4.row.len
      have e5 : decide ((bss.length : Int) < n) = decide (bss.length < n) := by congr 1; simp
      have e6 : (decide (bss.length < n) != decide (bss.length < n)) = false := by simp
      have e7 : IntKind.i64.wrap ((bss.length : Int) + 1) = ((bss.length + 1 : Nat) : Int) := by rw [wrap_i64 (by omega) (by omega)]; omega
      have e8 : (((sent n bss y.b).length : Int) != min ((bss.length + 1 : Nat) : Int) (n : Int)) = false := by
        unfold sent
        split <;> simp <;> omega
      simp -implicitDefEqProofs only [hlen, b_lss, e, r_opt, r_ret, ob_some, iteV_true, g1, wl, hat, r_fAddr, Nat.add_zero, hld, hld1, r1, b_eql, e4, s1, e5, bneq, e6, r_gdff, r_gdff2, q1, wl', b_add, e7, minI, b_neq, e8, pick_f, iteV_false, e3, again_normal]
      exact ih (i + 1) k H3 _ _ (by omega) (by omega) hx (by omega) q3 ..
    · have e4 : (((y.kind % 2 : Nat) : Int) == 0) = false := by simp; omega
      by_cases hq : y.i < 0 ∨ (bss.length : Int) ≤ y.i
      · have t1 := g3.take_no (m := m) (by omega) y.i hq
        have e5 : bin Try.prog .geq 3 (.int .i64 y.i) (.int .i64 0) = some (.bool (decide (0 ≤ y.i))) := b_geq ..
        by_cases h0 : y.i < 0
        · have e6 : decide (0 ≤ y.i) = false := decide_eq_false (by omega)
          simp -implicitDefEqProofs only [hlen, b_lss, e, r_opt, r_ret, ob_some, iteV_true, g1, wl, hat, r_fAddr, Nat.add_zero, hld, hld2, r1, b_eql, e4, t1, ext_0, ext_1, e5, e6, r_gdft, r_gdft2, pick_f, bneq, Bool.bne_false, iteV_false, b_add, e3, again_normal]
          exact ih (i + 1) k H1 _ _ (by omega) (by omega) hx (by omega) g3 ..
        · have e6 : decide (0 ≤ y.i) = true := decide_eq_true (by omega)
          have e7 : decide (y.i < (bss.length : Int)) = false := decide_eq_false (by omega)
          simp -implicitDefEqProofs only [hlen, b_lss, e, r_opt, r_ret, ob_some, iteV_true, g1, wl, hat, r_fAddr, Nat.add_zero, hld, hld2, r1, b_eql, e4, t1, ext_0, ext_1, e5, e6, e7, r_gdt, r_gdt2, pick_t, bneq, Bool.bne_false, iteV_false, b_add, e3, again_normal]
          exact ih (i + 1) k H1 _ _ (by omega) (by omega) hx (by omega) g3 ..
      · obtain ⟨j, hj⟩ : ∃ j : Nat, y.i = j := ⟨y.i.toNat, by omega⟩
        rw [hj] at hld2 hq
        obtain ⟨u, H2, t1, t2, t3, t4, t5⟩ := g3.take_yes (m := m) (by omega) j (List.getElem?_eq_getElem (by omega))
        have hld3 := t3.ops.sl.ld1 (el := LOp.cells) LOp.len (j := 2) hy rfl
        rw [hj] at hld3
        have e6 : decide ((0 : Int) ≤ j) = true := decide_eq_true (by omega)
        have e7 : decide ((j : Int) < (bss.length : Int)) = true := decide_eq_true (by omega)
        have e8 : (true != true) = false := rfl
        simp -implicitDefEqProofs only [hlen, b_lss, e, r_opt, r_ret, ob_some, iteV_true, g1, wl, hat, r_fAddr, Nat.add_zero, hld, hld2, hld3, r1, b_eql, e4, t1, ext_0, ext_1, b_geq, e6, e7, r_gdt, r_gdt2, pick_t, bneq, e8, iteV_false, b_add, e3, again_normal]
        exact ih (i + 1) k H2 _ _ (by omega) (by omega) hx (by omega) t3 ..

theorem linkRoom_true {H : Heap} (room : Int) (ho : Ops N H v b xs) (hN : N ≤ H.length) : ∃ H', lvl Try.prog pk (xs.length + 600) (.func 3) [.int .i64 room, v] H = some (.bool true, H') := by
  have h1 := heavy_is (pr := pk) (flatPr_no rfl) ho (m := xs.length + 599) (by omega)
  have h2 := fun H => known_is (xs.length + 599) (by omega) H
  by_cases hh : hvy xs = true
  · refine ⟨H, lvl_at (flatPr_no rfl) (by omega) ?_⟩
    rw [f3_eq]
    unfold f3
    rw [hh] at h1
    simp -implicitDefEqProofs only [Nat.add_sub_cancel, show xs.length + 600 - 1 = xs.length + 599 by omega, h1, h2, r_opt, r_ret, ob_some, r_gdtf, r_gdtf2, r_gdu, pick_t, iteV_true, oneOf_one]
  · have hh' : hvy xs = false := by simpa using hh
    obtain ⟨hx, hs⟩ := hvy_no ho hh'
    rw [hh'] at h1
    by_cases hr : room < 1 ∨ 64 < room
    · have g := lnew_no (pr := pk) (H := H) (m := xs.length + 599) (flatPr_no rfl) (by omega) room hr
      refine ⟨H, lvl_at (flatPr_no rfl) (by omega) ?_⟩
      rw [f3_eq]
      unfold f3
      by_cases h0 : room < 1
      · have e1 : decide (room < 1) = true := decide_eq_true h0
        simp -implicitDefEqProofs only [show xs.length + 600 - 1 = xs.length + 599 by omega, h1, h2, g, eL0, r_opt, r_ret, ob_some, r_gdff, r_gdff2, u_not, Bool.not_true, pick_f, iteV_true, iteV_false, b_lss, e1, r_gdtf, r_gdtf2, r_gdu, pick_t, oneOf_one]
      · have e1 : decide (room < 1) = false := decide_eq_false h0
        have e2 : decide (64 < room) = true := decide_eq_true (by omega)
        simp -implicitDefEqProofs only [show xs.length + 600 - 1 = xs.length + 599 by omega, h1, h2, g, eL0, r_opt, r_ret, ob_some, r_gdff, r_gdff2, u_not, Bool.not_true, pick_f, iteV_true, iteV_false, b_lss, b_gtr, e1, e2, r_gdtf, r_gdtf2, r_gdu, pick_t, oneOf_one]
    · obtain ⟨n, rfl⟩ : ∃ n : Nat, room = n := ⟨room.toNat, by omega⟩
      obtain ⟨H1, F, g1, g2, g3, g4⟩ := Inv.new (m := xs.length + 599) ho hN hs (by omega) n (by omega)
      have := room_loop (n := n) (m := xs.length + 599) (a := H.length) (by omega) (by omega) xs.length 0 (xs.length + 599) H1 [] F (by omega) (by omega) hx (by omega) g3
      have fin : ∃ H', body Try.prog (lvl Try.prog pk (xs.length + 599)) (loopN (xs.length + 599)) 3 [.int .i64 n, v] H = some (.bool true, H') := by
        rw [f3_eq]
        unfold f3
        simp -implicitDefEqProofs only [h1, h2, g1, eL, r_opt, r_ret, ob_some, r_gdff, r_gdff2, u_not, Bool.not_true, pick_f, iteV_false]
        exact this ..
      obtain ⟨H', hf⟩ := fin
      exact ⟨H', lvl_at (flatPr_no rfl) (by omega) hf⟩

theorem none_loop (far x : Nat) (hf : far < 256) (hx8 : x < 256) (hm : 500 ≤ m) : ∀ (r i k : Nat) (H : Heap) (bss : List (List UInt8)) (F : Nat → Prop), xs.length - i = r → i ≤ xs.length → xs.length ≤ 100 → r < k → Inv N H v b xs a bss 64 F → ∀ (x3 x4 x5 x9 x10 x11 x12 x13 x14 x15 x16 x17 x18 x19 x20 x21 x22 x23 x24 x25 x26 x27 x28 x29 x30 x31 x32 x33 x34 x35 x36 x37 x38 x39 x40 x41 x42 x43 x44 x45 x46 x47 x48 x49 x50 x51 x52 x53 x54 x55 x56 x57 x58 x59 x60 x61 x62 x63 x64 x65 x66 x67 x68 x69 x70 x71 x72 x73 x74 x75 x76 x77 x78 x79 x80 x81 x82 x83 x84 x85 x86 x87 x88 x89 x90 x91 x92 x93 x94 x95 x96 : Value),
    ∃ H', loopN k (runCode Try.prog (lvl Try.prog pk m) (loopN m) f5_c0) (f5_k0 (lvl Try.prog pk m) (loopN m)) [v, (.int .u8 far), (.int .u8 x), x3, x4, x5, (.bool false), (.pointer (some ⟨a, 0, none⟩)), (.int .i64 (i : Nat)), x9, x10, x11, x12, x13, x14, x15, x16, x17, x18, x19, x20, x21, x22, x23, x24, x25, x26, x27, x28, x29, x30, x31, x32, x33, x34, x35, x36, x37, x38, x39, x40, x41, x42, x43, x44, x45, x46, x47, x48, x49, x50, x51, x52, x53, x54, x55, x56, x57, x58, x59, x60, x61, x62, x63, x64, x65, x66, x67, x68, x69, x70, x71, x72, x73, x74, x75, x76, x77, x78, x79, x80, x81, x82, x83, x84, x85, x86, x87, x88, x89, x90, x91, x92, x93, x94, x95, x96] H = some (.bool true, H') := by
  intro r
  induction r with
  | zero =>
    intro i k H bss F hr hi hx hk hI
    intros
    obtain ⟨k, rfl⟩ : ∃ n, k = n + 1 := ⟨k - 1, by omega⟩
    obtain rfl : i = xs.length := by omega
    have hlen := hI.ops.len
    have e : decide ((xs.length : Int) < xs.length) = false := by simp
    obtain ⟨w, H1, G, g1, g2, g3, g4⟩ := hI.all (m := m) (by omega)
    obtain ⟨w', H2, G', q1, q2, q3, q4⟩ := g3.all (m := m) (by omega)
    have wl := g4.row.len
    have wl' := q4.row.len
    have hfew := hI.lk.few
    have cf := fun H => cvU H far hf
    have e1 : IntKind.i64.wrap ((bss.length : Int) + far) = ((bss.length + far : Nat) : Int) := by rw [wrap_i64 (by omega) (by omega)]; omega
    have x8 : (UInt8.ofNat x).toNat = x := by rw [UInt8.toNat_ofNat']; omega
    have t1 := g3.take_no (m := m) (by omega) ((bss.length + far : Nat) : Int) (.inr (by omega))
    have t2 := g3.take_no (m := m) (by omega) (-1) (.inl (by omega))
    have t3 := g3.twice_no (m := m) (by omega) ((bss.length + far : Nat) : Int) (.inr (by omega))
    have t4 := g3.bend_no (m := m) (by omega) ((bss.length + far : Nat) : Int) 0 (UInt8.ofNat x) (.inr (.inl (by omega)))
    have t5 := g3.bend_no (m := m) (by omega) 0 (-1) (UInt8.ofNat x) (.inr (.inr (.inl (by omega))))
    have t6 := g3.bend_no (m := m) (by omega) 0 0 0 (.inr (.inr (.inr (.inl rfl))))
    rw [x8] at t4 t5
    have e2 : Value.int .u8 ((0 : UInt8).toNat : Int) = .int .u8 0 := rfl
    rw [e2] at t6
    have e3 : ((bss.length : Int) == bss.length) = true := by simp
    refine ⟨H2, ?_⟩
    rw [loop_succ, f5_b0_eq]
    unfold f5_b0
    simp -implicitDefEqProofs only [hlen, b_lss, e, r_opt, ob_some, iteV_false, again_exit]
    rw [f5_e0_0_eq]
    unfold f5_e0_0
    simp -implicitDefEqProofs only [g1, wl, cf, b_add, e1, t1, t2, t3, t4, t5, t6, ext_0, ext_1, u_not, Bool.not_false, r_opt, r_ret, ob_some, r_gdt, r_gdt2, pick_t, q1, wl', b_eql, e3, oneOf_one]
  | succ r ih =>
    intro i k H bss F hr hi hx hk hI
    intros
    obtain ⟨k, rfl⟩ : ∃ n, k = n + 1 := ⟨k - 1, by omega⟩
    have hlen := hI.ops.len
    have e : decide ((i : Int) < xs.length) = true := by simp; omega
    obtain ⟨y, hy⟩ : ∃ y, xs[i]? = some y := ⟨xs[i], List.getElem?_eq_getElem (by omega)⟩
    have hat := hI.ops.sl.at_ i .i64 (by rw [List.length_map]; omega)
    have hld1 := hI.ops.sl.ld1 (el := LOp.cells) LOp.len (j := 1) hy rfl
    have e3 : IntKind.i64.wrap ((i : Int) + 1) = ((i + 1 : Nat) : Int) := by rw [wrap_i64 (by omega) (by omega)]; omega
    obtain ⟨H2, F2, s1, s2, s3⟩ := hI.send (m := m) (by omega) hy
    rw [loop_succ, f5_b0_eq]
    unfold f5_b0
    simp -implicitDefEqProofs only [hlen, b_lss, e, r_opt, r_ret, ob_some, iteV_true, hat, r_fAddr, hld1, s1, b_add, e3, again_normal]
    exact ih (i + 1) k H2 _ _ (by omega) (by omega) hx (by omega) s3 ..

theorem linkNone_true {H : Heap} (far x : Int) (hf : 0 ≤ far ∧ far < 256) (hx8 : 0 ≤ x ∧ x < 256) (ho : Ops N H v b xs) (hN : N ≤ H.length) : ∃ H', lvl Try.prog pk (xs.length + 600) (.func 5) [v, .int .u8 far, .int .u8 x] H = some (.bool true, H') := by
  obtain ⟨far, rfl⟩ : ∃ n : Nat, far = n := ⟨far.toNat, by omega⟩
  obtain ⟨x, rfl⟩ : ∃ n : Nat, x = n := ⟨x.toNat, by omega⟩
  have h1 := heavy_is (pr := pk) (flatPr_no rfl) ho (m := xs.length + 599) (by omega)
  have h2 := fun H => known_is (xs.length + 599) (by omega) H
  by_cases hh : hvy xs = true
  · refine ⟨H, lvl_at (flatPr_no rfl) (by omega) ?_⟩
    rw [f5_eq]
    unfold f5
    rw [hh] at h1
    simp -implicitDefEqProofs only [show xs.length + 600 - 1 = xs.length + 599 by omega, h1, h2, r_opt, r_ret, ob_some, r_gdtf, r_gdtf2, r_gdu, pick_t, iteV_true, oneOf_one]
  · have hh' : hvy xs = false := by simpa using hh
    obtain ⟨hx, hs⟩ := hvy_no ho hh'
    rw [hh'] at h1
    obtain ⟨H1, F, g1, g2, g3, g4⟩ := Inv.new (m := xs.length + 599) ho hN hs (by omega) 64 (by omega)
    have := none_loop (m := xs.length + 599) (a := H.length) far x (by omega) (by omega) (by omega) xs.length 0 (xs.length + 599) H1 [] F (by omega) (by omega) hx (by omega) g3
    have fin : ∃ H', body Try.prog (lvl Try.prog pk (xs.length + 599)) (loopN (xs.length + 599)) 5 [v, .int .u8 far, .int .u8 x] H = some (.bool true, H') := by
      rw [f5_eq]
      unfold f5
      have g1' : lvl Try.prog pk (xs.length + 599) (.func 17) [.int .i64 64] H = some (.pointer (some ⟨H.length, 0, none⟩), H1) := g1
      simp -implicitDefEqProofs only [h1, h2, g1', eL, r_opt, r_ret, ob_some, r_gdff, r_gdff2, u_not, Bool.not_true, pick_f, iteV_false]
      exact this ..
    obtain ⟨H', hf⟩ := fin
    exact ⟨H', lvl_at (flatPr_no rfl) (by omega) hf⟩
end

end Go.Proofs.Ytcmmlgdbpnogjaa
