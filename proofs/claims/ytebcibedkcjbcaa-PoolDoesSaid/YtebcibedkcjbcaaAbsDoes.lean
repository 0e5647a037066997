import Derived.Test.YtebcibedkcjbcaaAbsTwin
set_option linter.unusedSimpArgs false
set_option linter.unusedVariables false
set_option maxRecDepth 100000
namespace Go.Proofs.Ytebcibedkcjbcaa
open Go.Abs

section
variable (n p s r lb fb : Nat) (lv fv : Value)

theorem does_loop1 (hn : n ≤ 200) (l : List Slot) (top free : Int) (fl : List Nat) (c cap : Nat) (ev : Value) (ws : List Pkt) (rest : List Value) : ∀ (q : Nat) (i : Int) (m : Nat) (H : Heap), (n : Int) + 2 - i = q → 0 ≤ i → q < m →
    Twin H p s l top free fl r lb fb c cap lv fv ev ws rest → ∀ (x1 x2 x3 x7 x8 x9 x10 x11 x12 x13 x14 x15 x16 x18 x19 x20 x21 x22 x23 x24 x25 x26 x27 x28 x29 x30 x31 x32 x33 x34 x35 x36 x37 x38 x39 x40 x41 x42 x43 x44 x45 x46 x47 x48 x49 x50 x51 x52 x53 x54 x55 x56 x57 x58 x59 x60 x61 x62 x63 x64 x65 x66 x67 x68 x69 x70 x71 x72 x73 x74 x75 x76 x77 x78 x79 x80 x81 x82 x83 x84 x85 x86 x87 x88 x89 x90 x91 x92 x93 x94 x95 x96 x97 x98 x99 x100 x101 x102 x103 x104 x105 x106 x107 x108 x109 x110 x111 x112 x113 x114 x115 x116 x117 x118 x119 x120 x121 x122 x123 x124 x125 x126 x127 x128 x129 x130 x131 x132 x133 x134 x135 x136 x137 x138 x139 x140 x141 x142 x143 x144 x145 x146 x147 x148 x149 x150 x151 x152 x153 x154 x155 x156 x157 x158 x159 x160 x161 x162 x163 x164 x165 x166 : Value),
    ∃ H', loopN m (runCode Try.prog (lvl Try.prog pk 599) (loopN 599) f6_c1) (f6_k1 (lvl Try.prog pk 599) (loopN 599)) [.int .i64 (n : Nat), x1, x2, x3, .bool false, .pointer (some ⟨p, 0, none⟩), .pointer (some ⟨r, 0, none⟩), x7, x8, x9, x10, x11, x12, x13, x14, x15, x16, .int .i64 (i - 1), x18, x19, x20, x21, x22, x23, x24, x25, x26, x27, x28, x29, x30, x31, x32, x33, x34, x35, x36, x37, x38, x39, x40, x41, x42, x43, x44, x45, x46, x47, x48, x49, x50, x51, x52, x53, x54, x55, x56, x57, x58, x59, x60, x61, x62, x63, x64, x65, x66, x67, x68, x69, x70, x71, x72, x73, x74, x75, x76, x77, x78, x79, x80, x81, x82, x83, x84, x85, x86, x87, x88, x89, x90, x91, x92, x93, x94, x95, x96, x97, x98, x99, x100, x101, x102, x103, x104, x105, x106, x107, x108, x109, x110, x111, x112, x113, x114, x115, x116, x117, x118, x119, x120, x121, x122, x123, x124, x125, x126, x127, x128, x129, x130, x131, x132, x133, x134, x135, x136, x137, x138, x139, x140, x141, x142, x143, x144, x145, x146, x147, x148, x149, x150, x151, x152, x153, x154, x155, x156, x157, x158, x159, x160, x161, x162, x163, x164, x165, x166] H = some (.bool true, H') := by
  intro q
  induction q with
  | zero =>
    intro i m H hr hi hm hT x1 x2 x3 x7 x8 x9 x10 x11 x12 x13 x14 x15 x16 x18 x19 x20 x21 x22 x23 x24 x25 x26 x27 x28 x29 x30 x31 x32 x33 x34 x35 x36 x37 x38 x39 x40 x41 x42 x43 x44 x45 x46 x47 x48 x49 x50 x51 x52 x53 x54 x55 x56 x57 x58 x59 x60 x61 x62 x63 x64 x65 x66 x67 x68 x69 x70 x71 x72 x73 x74 x75 x76 x77 x78 x79 x80 x81 x82 x83 x84 x85 x86 x87 x88 x89 x90 x91 x92 x93 x94 x95 x96 x97 x98 x99 x100 x101 x102 x103 x104 x105 x106 x107 x108 x109 x110 x111 x112 x113 x114 x115 x116 x117 x118 x119 x120 x121 x122 x123 x124 x125 x126 x127 x128 x129 x130 x131 x132 x133 x134 x135 x136 x137 x138 x139 x140 x141 x142 x143 x144 x145 x146 x147 x148 x149 x150 x151 x152 x153 x154 x155 x156 x157 x158 x159 x160 x161 x162 x163 x164 x165 x166
    obtain ⟨m, rfl⟩ : ∃ k, m = k + 1 := ⟨m - 1, by omega⟩
    have e : decide (i - 1 ≤ (n : Int)) = false := by simp; omega
    rw [loop_succ, f6_b1_eq]
    unfold f6_b1
    simp -implicitDefEqProofs only [b_leq, e, r_opt, ob_some, iteV_false, again_exit]
    rw [f6_e1_3_eq]
    exact ⟨H, rfl⟩
  | succ q ih =>
    intro i m H hr hi hm hT x1 x2 x3 x7 x8 x9 x10 x11 x12 x13 x14 x15 x16 x18 x19 x20 x21 x22 x23 x24 x25 x26 x27 x28 x29 x30 x31 x32 x33 x34 x35 x36 x37 x38 x39 x40 x41 x42 x43 x44 x45 x46 x47 x48 x49 x50 x51 x52 x53 x54 x55 x56 x57 x58 x59 x60 x61 x62 x63 x64 x65 x66 x67 x68 x69 x70 x71 x72 x73 x74 x75 x76 x77 x78 x79 x80 x81 x82 x83 x84 x85 x86 x87 x88 x89 x90 x91 x92 x93 x94 x95 x96 x97 x98 x99 x100 x101 x102 x103 x104 x105 x106 x107 x108 x109 x110 x111 x112 x113 x114 x115 x116 x117 x118 x119 x120 x121 x122 x123 x124 x125 x126 x127 x128 x129 x130 x131 x132 x133 x134 x135 x136 x137 x138 x139 x140 x141 x142 x143 x144 x145 x146 x147 x148 x149 x150 x151 x152 x153 x154 x155 x156 x157 x158 x159 x160 x161 x162 x163 x164 x165 x166
    obtain ⟨m, rfl⟩ : ∃ k, m = k + 1 := ⟨m - 1, by omega⟩
    have e : decide (i - 1 ≤ (n : Int)) = true := decide_eq_true (by omega)
    obtain ⟨b, x, g1, g2⟩ := hT.get (pr := pk) (flatPr_no rfl) (flatPr_no rfl) (flatPr_no rfl) (flatPr_no rfl) (m := 599) (by omega) (i - 1)
    have g1 := g1 []
    rw [List.append_nil] at g1
    have g2 := g2 ([pkB x] ++ [pkB x])
    rw [← List.append_assoc] at g2
    have w : IntKind.i64.wrap (i - 1 + 1) = (i + 1) - 1 := by rw [wrap_i64] <;> omega
    have ldA : ldN 4 (.pointer (some ⟨(H ++ [pkB x]).length, 0, none⟩)) (H ++ [pkB x] ++ [pkB x] ++ [pkB x] ++ [pkB x]) = some (x.val, H ++ [pkB x] ++ [pkB x] ++ [pkB x] ++ [pkB x]) := by
      rw [x_ldN, List.getElem?_append_left (by simp), List.getElem?_append_left (by simp), x_last]
      rfl
    have ldB : ldN 4 (.pointer (some ⟨(H ++ [pkB x] ++ [pkB x] ++ [pkB x]).length, 0, none⟩)) (H ++ [pkB x] ++ [pkB x] ++ [pkB x] ++ [pkB x]) = some (x.val, H ++ [pkB x] ++ [pkB x] ++ [pkB x] ++ [pkB x]) := by
      rw [x_ldN, x_last]
      rfl
    have ep := eqPkt x
    have eb : bin Try.prog .neq 4 (.bool b) (.bool b) = some (.bool false) := by rw [bneq]; simp
    rw [loop_succ, f6_b1_eq]
    unfold f6_b1
    simp -implicitDefEqProofs only [b_leq, e, r_opt, r_ret, ob_some, iteV_true, g1, g2, ext_0, ext_1, x_newB, pkB_zero, st_pk, x_last, stC_pk, set_last, ldA, ldB, ep, r_gdff, r_gdff2, eb, pick_f, iteV_false, b_add, w, again_normal]
    exact ih (i + 1) m _ (by omega) (by omega) (by omega) ((((hT.app _).app _).app _).app _) _ _ _ _ _ _ _ _ _ _ _ _ _ _ _ _ _ _ _ _ _ _ _ _ _ _ _ _ _ _ _ _ _ _ _ _ _ _ _ _ _ _ _ _ _ _ _ _ _ _ _ _ _ _ _ _ _ _ _ _ _ _ _ _ _ _ _ _ _ _ _ _ _ _ _ _ _ _ _ _ _ _ _ _ _ _ _ _ _ _ _ _ _ _ _ _ _ _ _ _ _ _ _ _ _ _ _ _ _ _ _ _ _ _ _ _ _ _ _ _ _ _ _ _ _ _ _ _ _ _ _ _ _ _ _ _ _ _ _ _ _ _ _ _ _ _ _ _ _ _ _ _ _ _ _ _ _ _ _ _ _ _

theorem eqPkt2 (x : Pkt) : bin Try.prog .eql 27 x.val x.val = some (.bool true) := by
  have hk : kindsOf Try.prog 27 = some [true, true, true, true] := by kernel_rfl
  simp [bin, flat, Pkt.val, eqAny, hk, Pkt.cells, eqT]

theorem does_loop0 (hn : n ≤ 200) (v : Value) (xs : List POp) (b0 : Nat) (hx : xs.length ≤ 200) (hok : ∀ o ∈ xs, o.ok) : ∀ (q i m : Nat) (H : Heap) (l : List Slot) (top free : Int) (fl : List Nat) (c cap : Nat) (ev : Value) (ws : List Pkt) (rest : List Value), xs.length - i = q → i ≤ xs.length → q < m →
    Sl H v 6 b0 (xs.map POp.cells) → Twin H p s l top free fl r lb fb c cap lv fv ev ws rest → ∀ (x2 x3 x8 x9 x10 x11 x12 x13 x14 x15 x16 x17 x18 x19 x20 x21 x22 x23 x24 x25 x26 x27 x28 x29 x30 x31 x32 x33 x34 x35 x36 x37 x38 x39 x40 x41 x42 x43 x44 x45 x46 x47 x48 x49 x50 x51 x52 x53 x54 x55 x56 x57 x58 x59 x60 x61 x62 x63 x64 x65 x66 x67 x68 x69 x70 x71 x72 x73 x74 x75 x76 x77 x78 x79 x80 x81 x82 x83 x84 x85 x86 x87 x88 x89 x90 x91 x92 x93 x94 x95 x96 x97 x98 x99 x100 x101 x102 x103 x104 x105 x106 x107 x108 x109 x110 x111 x112 x113 x114 x115 x116 x117 x118 x119 x120 x121 x122 x123 x124 x125 x126 x127 x128 x129 x130 x131 x132 x133 x134 x135 x136 x137 x138 x139 x140 x141 x142 x143 x144 x145 x146 x147 x148 x149 x150 x151 x152 x153 x154 x155 x156 x157 x158 x159 x160 x161 x162 x163 x164 x165 x166 : Value),
    ∃ H', loopN m (runCode Try.prog (lvl Try.prog pk 599) (loopN 599) f6_c0) (f6_k0 (lvl Try.prog pk 599) (loopN 599)) [.int .i64 (n : Nat), v, x2, x3, .bool false, .pointer (some ⟨p, 0, none⟩), .pointer (some ⟨r, 0, none⟩), .int .i64 (i : Nat), x8, x9, x10, x11, x12, x13, x14, x15, x16, x17, x18, x19, x20, x21, x22, x23, x24, x25, x26, x27, x28, x29, x30, x31, x32, x33, x34, x35, x36, x37, x38, x39, x40, x41, x42, x43, x44, x45, x46, x47, x48, x49, x50, x51, x52, x53, x54, x55, x56, x57, x58, x59, x60, x61, x62, x63, x64, x65, x66, x67, x68, x69, x70, x71, x72, x73, x74, x75, x76, x77, x78, x79, x80, x81, x82, x83, x84, x85, x86, x87, x88, x89, x90, x91, x92, x93, x94, x95, x96, x97, x98, x99, x100, x101, x102, x103, x104, x105, x106, x107, x108, x109, x110, x111, x112, x113, x114, x115, x116, x117, x118, x119, x120, x121, x122, x123, x124, x125, x126, x127, x128, x129, x130, x131, x132, x133, x134, x135, x136, x137, x138, x139, x140, x141, x142, x143, x144, x145, x146, x147, x148, x149, x150, x151, x152, x153, x154, x155, x156, x157, x158, x159, x160, x161, x162, x163, x164, x165, x166] H = some (.bool true, H') := by
  intro q
  induction q with
  | zero =>
    intro i m H l top free fl c cap ev ws rest hr hi hm hs hT x2 x3 x8 x9 x10 x11 x12 x13 x14 x15 x16 x17 x18 x19 x20 x21 x22 x23 x24 x25 x26 x27 x28 x29 x30 x31 x32 x33 x34 x35 x36 x37 x38 x39 x40 x41 x42 x43 x44 x45 x46 x47 x48 x49 x50 x51 x52 x53 x54 x55 x56 x57 x58 x59 x60 x61 x62 x63 x64 x65 x66 x67 x68 x69 x70 x71 x72 x73 x74 x75 x76 x77 x78 x79 x80 x81 x82 x83 x84 x85 x86 x87 x88 x89 x90 x91 x92 x93 x94 x95 x96 x97 x98 x99 x100 x101 x102 x103 x104 x105 x106 x107 x108 x109 x110 x111 x112 x113 x114 x115 x116 x117 x118 x119 x120 x121 x122 x123 x124 x125 x126 x127 x128 x129 x130 x131 x132 x133 x134 x135 x136 x137 x138 x139 x140 x141 x142 x143 x144 x145 x146 x147 x148 x149 x150 x151 x152 x153 x154 x155 x156 x157 x158 x159 x160 x161 x162 x163 x164 x165 x166
    obtain ⟨m, rfl⟩ : ∃ k, m = k + 1 := ⟨m - 1, by omega⟩
    obtain rfl : i = xs.length := by omega
    have hlen := hs.len
    rw [List.length_map] at hlen
    have e : decide ((xs.length : Int) < xs.length) = false := by simp
    rw [loop_succ, f6_b0_eq]
    unfold f6_b0
    simp -implicitDefEqProofs only [hlen, b_lss, e, r_opt, ob_some, iteV_false, again_exit]
    rw [f6_e0_0_eq]
    exact does_loop1 n p s r lb fb lv fv hn l top free fl c cap ev ws rest (n + 2) 0 599 H (by omega) (by omega) (by omega) hT ..
  | succ q ih =>
    intro i m H l top free fl c cap ev ws rest hr hi hm hs hT x2 x3 x8 x9 x10 x11 x12 x13 x14 x15 x16 x17 x18 x19 x20 x21 x22 x23 x24 x25 x26 x27 x28 x29 x30 x31 x32 x33 x34 x35 x36 x37 x38 x39 x40 x41 x42 x43 x44 x45 x46 x47 x48 x49 x50 x51 x52 x53 x54 x55 x56 x57 x58 x59 x60 x61 x62 x63 x64 x65 x66 x67 x68 x69 x70 x71 x72 x73 x74 x75 x76 x77 x78 x79 x80 x81 x82 x83 x84 x85 x86 x87 x88 x89 x90 x91 x92 x93 x94 x95 x96 x97 x98 x99 x100 x101 x102 x103 x104 x105 x106 x107 x108 x109 x110 x111 x112 x113 x114 x115 x116 x117 x118 x119 x120 x121 x122 x123 x124 x125 x126 x127 x128 x129 x130 x131 x132 x133 x134 x135 x136 x137 x138 x139 x140 x141 x142 x143 x144 x145 x146 x147 x148 x149 x150 x151 x152 x153 x154 x155 x156 x157 x158 x159 x160 x161 x162 x163 x164 x165 x166
    obtain ⟨m, rfl⟩ : ∃ k, m = k + 1 := ⟨m - 1, by omega⟩
    have hlen := hs.len
    rw [List.length_map] at hlen
    have e : decide ((i : Int) < xs.length) = true := by simp; omega
    obtain ⟨o, ho⟩ : ∃ o, xs[i]? = some o := ⟨xs[i], List.getElem?_eq_getElem (by omega)⟩
    have hk256 := (hok o (List.mem_of_getElem? ho)).kind
    have hat := hs.at_ i .i64 (by rw [List.length_map]; omega)
    have hkind := hs.ld1 (el := POp.cells) (fun _ => rfl) (j := 0) ho rfl
    rw [Nat.add_zero] at hkind
    have hidx := hs.ld1 (el := POp.cells) (fun _ => rfl) (j := 5) ho rfl
    have e1 : ((o.kind : Nat) : Int).tmod 4 = ((o.kind % 4 : Nat) : Int) := by rw [Int.tmod_eq_emod_of_nonneg (by omega)]; omega
    have r1 := b_rem (P := Try.prog) 5 .u8 (o.kind : Int) 4 (by omega)
    rw [e1] at r1
    have e3 : IntKind.i64.wrap ((i : Int) + 1) = ((i + 1 : Nat) : Int) := by rw [wrap_i64 (by omega) (by omega)]; omega
    rw [loop_succ, f6_b0_eq]
    unfold f6_b0
    by_cases h2 : o.kind % 4 = 2
    · have e2 : (((o.kind % 4 : Nat) : Int) == 2) = true := by simp; omega
      obtain ⟨b, H1, H2, l', top', free', fl', c', cap', ev', rest', g1, g2, hT2, _, hsl⟩ := hT.drop (pr := pk) (flatPr_no rfl) (flatPr_no rfl) (flatPr_no rfl) (flatPr_no rfl) (m := 599) (by omega) o.i
      obtain ⟨hs1, hs2⟩ := hsl v b0 _ hs
      have hidx1 := hs1.ld1 (el := POp.cells) (fun _ => rfl) (j := 5) ho rfl
      obtain ⟨q1, q2⟩ := hT2.cnt (pr := pk) (flatPr_no rfl) (flatPr_no rfl) (m := 599) (by omega)
      have eb : bin Try.prog .eql 4 (.bool b) (.bool b) = some (.bool true) := by rw [beql]; simp
      have ec : ((fl'.length : Int) != fl'.length) = false := by simp
      simp -implicitDefEqProofs only [hlen, b_lss, e, r_opt, r_ret, ob_some, iteV_true, hat, r_fAddr, Nat.add_zero, hkind, r1, b_eql, e2, hidx, hidx1, chk_int, Bool.and_true, ifB_true, g1, g2, eb, u_not, Bool.not_true, r_gdff, r_gdff2, q1, q2, b_neq, ec, pick_f, iteV_false, b_add, e3, again_normal]
      exact ih (i + 1) m H2 l' top' free' fl' c' cap' ev' ws rest' (by omega) (by omega) (by omega) hs2 hT2 _ _ _ _ _ _ _ _ _ _ _ _ _ _ _ _ _ _ _ _ _ _ _ _ _ _ _ _ _ _ _ _ _ _ _ _ _ _ _ _ _ _ _ _ _ _ _ _ _ _ _ _ _ _ _ _ _ _ _ _ _ _ _ _ _ _ _ _ _ _ _ _ _ _ _ _ _ _ _ _ _ _ _ _ _ _ _ _ _ _ _ _ _ _ _ _ _ _ _ _ _ _ _ _ _ _ _ _ _ _ _ _ _ _ _ _ _ _ _ _ _ _ _ _ _ _ _ _ _ _ _ _ _ _ _ _ _ _ _ _ _ _ _ _ _ _ _ _ _ _ _ _ _ _ _ _ _ _ _ _ _
    · have e2 : (((o.kind % 4 : Nat) : Int) == 2) = false := by simp; omega
      by_cases h3 : o.kind % 4 = 3
      · have e4 : (((o.kind % 4 : Nat) : Int) == 3) = true := by simp; omega
        obtain ⟨b, x, g1, g2⟩ := hT.get (pr := pk) (flatPr_no rfl) (flatPr_no rfl) (flatPr_no rfl) (flatPr_no rfl) (m := 599) (by omega) o.i
        have g1 := g1 []
        rw [List.append_nil] at g1
        have g2 := g2 ([pkB x] ++ [pkB x])
        rw [← List.append_assoc] at g2
        have hs2 : Sl (H ++ [pkB x] ++ [pkB x]) v 6 b0 (xs.map POp.cells) := (hs.same fun hb => List.getElem?_append_left hb).same fun hb => List.getElem?_append_left hb
        have hs4 : Sl (H ++ [pkB x] ++ [pkB x] ++ [pkB x] ++ [pkB x]) v 6 b0 (xs.map POp.cells) := (hs2.same fun hb => List.getElem?_append_left hb).same fun hb => List.getElem?_append_left hb
        have hidx2 := hs2.ld1 (el := POp.cells) (fun _ => rfl) (j := 5) ho rfl
        have ldA : ldN 4 (.pointer (some ⟨(H ++ [pkB x]).length, 0, none⟩)) (H ++ [pkB x] ++ [pkB x] ++ [pkB x] ++ [pkB x]) = some (x.val, H ++ [pkB x] ++ [pkB x] ++ [pkB x] ++ [pkB x]) := by
          rw [x_ldN, List.getElem?_append_left (by simp), List.getElem?_append_left (by simp), x_last]
          rfl
        have ldB : ldN 4 (.pointer (some ⟨(H ++ [pkB x] ++ [pkB x] ++ [pkB x]).length, 0, none⟩)) (H ++ [pkB x] ++ [pkB x] ++ [pkB x] ++ [pkB x]) = some (x.val, H ++ [pkB x] ++ [pkB x] ++ [pkB x] ++ [pkB x]) := by
          rw [x_ldN, x_last]
          rfl
        have ep := eqPkt2 x
        have eb : bin Try.prog .eql 4 (.bool b) (.bool b) = some (.bool true) := by rw [beql]; simp
        have hT2 := (((hT.app [pkB x]).app [pkB x]).app [pkB x]).app [pkB x]
        obtain ⟨q1, q2⟩ := hT2.cnt (pr := pk) (flatPr_no rfl) (flatPr_no rfl) (m := 599) (by omega)
        have ec : ((fl.length : Int) != fl.length) = false := by simp
        simp -implicitDefEqProofs only [hlen, b_lss, e, r_opt, r_ret, ob_some, iteV_true, hat, r_fAddr, Nat.add_zero, hkind, r1, b_eql, e2, e4, iteV_false, hidx, hidx2, g1, g2, ext_0, ext_1, x_newB, pkB_zero, st_pk, x_last, stC_pk, set_last, ldA, ldB, ep, eb, r_gdt, r_gdt2, pick_t, u_not, Bool.not_true, r_gdff, r_gdff2, q1, q2, b_neq, ec, pick_f, b_add, e3, again_normal]
        exact ih (i + 1) m _ l top free fl c cap ev ws rest (by omega) (by omega) (by omega) hs4 hT2 _ _ _ _ _ _ _ _ _ _ _ _ _ _ _ _ _ _ _ _ _ _ _ _ _ _ _ _ _ _ _ _ _ _ _ _ _ _ _ _ _ _ _ _ _ _ _ _ _ _ _ _ _ _ _ _ _ _ _ _ _ _ _ _ _ _ _ _ _ _ _ _ _ _ _ _ _ _ _ _ _ _ _ _ _ _ _ _ _ _ _ _ _ _ _ _ _ _ _ _ _ _ _ _ _ _ _ _ _ _ _ _ _ _ _ _ _ _ _ _ _ _ _ _ _ _ _ _ _ _ _ _ _ _ _ _ _ _ _ _ _ _ _ _ _ _ _ _ _ _ _ _ _ _ _ _ _ _ _ _ _
      · have e4 : (((o.kind % 4 : Nat) : Int) == 3) = false := by simp; omega
        have hval : Value.agg ⟨(o.cells.drop 1).take 4⟩ = o.x.val := rfl
        have hpk := hs.part (el := POp.cells) (fun _ => rfl) (j := 1) (n := 4) ho (by omega)
        rw [hval] at hpk
        obtain ⟨k, b, H1, H2, l', top', free', fl', c', cap', ev', ws', rest', g1, g2, hT2, _, hsl⟩ := hT.put (pr := pk) (flatPr_no rfl) (flatPr_no rfl) (m := 599) (by omega) o.x
        obtain ⟨hs1, hs2⟩ := hsl v b0 _ hs
        have hpk1 := hs1.part (el := POp.cells) (fun _ => rfl) (j := 1) (n := 4) ho (by omega)
        rw [hval] at hpk1
        obtain ⟨q1, q2⟩ := hT2.cnt (pr := pk) (flatPr_no rfl) (flatPr_no rfl) (m := 599) (by omega)
        have eb : bin Try.prog .eql 4 (.bool b) (.bool b) = some (.bool true) := by rw [beql]; simp
        have ec : ((fl'.length : Int) != fl'.length) = false := by simp
        simp -implicitDefEqProofs only [hlen, b_lss, e, r_opt, r_ret, ob_some, iteV_true, hat, r_fAddr, Nat.add_zero, hkind, r1, b_eql, e2, e4, iteV_false, hpk, hpk1, g1, g2, ext_0, ext_1, beq_self_eq_true, eb, r_gdt, r_gdt2, pick_t, u_not, Bool.not_true, r_gdff, r_gdff2, q1, q2, b_neq, ec, pick_f, b_add, e3, again_normal]
        exact ih (i + 1) m H2 l' top' free' fl' c' cap' ev' ws' rest' (by omega) (by omega) (by omega) hs2 hT2 _ _ _ _ _ _ _ _ _ _ _ _ _ _ _ _ _ _ _ _ _ _ _ _ _ _ _ _ _ _ _ _ _ _ _ _ _ _ _ _ _ _ _ _ _ _ _ _ _ _ _ _ _ _ _ _ _ _ _ _ _ _ _ _ _ _ _ _ _ _ _ _ _ _ _ _ _ _ _ _ _ _ _ _ _ _ _ _ _ _ _ _ _ _ _ _ _ _ _ _ _ _ _ _ _ _ _ _ _ _ _ _ _ _ _ _ _ _ _ _ _ _ _ _ _ _ _ _ _ _ _ _ _ _ _ _ _ _ _ _ _ _ _ _ _ _ _ _ _ _ _ _ _ _ _ _ _ _ _ _ _

end
theorem poolDoes_true (a : Int) (v : Value) (xs : List POp) (hok : ∀ o ∈ xs, o.ok) (H : Heap) (b : Nat) (hs : Sl H v 6 b (xs.map POp.cells)) : ∃ H', lvl Try.prog pk 600 (.func 6) [.int .i64 a, v] H = some (.bool true, H') := by
  have hlen := hs.len
  rw [List.length_map] at hlen
  have g6 := fun H => flat_call (P := Try.prog) (ids := [16, 27]) (g := 16) rfl (n := 599) (by omega) H
  have e38 : bin Try.prog .eql 38 (.pointer none) (.pointer none) = some (.bool true) := by kernel_rfl
  by_cases hx : xs.length ≤ 200
  · have e3 : decide ((200 : Int) < xs.length) = false := by simp; omega
    by_cases ha : a < 1 ∨ 200 < a
    · have g1 := new_no (H := H) (pr := pk) (flatPr_no rfl) a ha (m := 599) (by omega)
      have g2 := ref_new_no (H := H) (pr := pk) (flatPr_no rfl) a ha (m := 599) (by omega)
      refine ⟨H, ?_⟩
      refine lvl_at (flatPr_no rfl) (by omega) ?_
      rw [f6_eq]
      unfold f6
      simp -implicitDefEqProofs only [hlen, g6, g1, g2, e22', e38, u_not, Bool.not_true, r_opt, r_ret, ob_some, r_gdff, r_gdff2, r_gdtf, r_gdtf2, r_gdt, r_gdt2, b_gtr, e3, pick_f, pick_t, iteV_false, iteV_true, oneOf_one]
    · obtain ⟨n, rfl⟩ : ∃ n : Nat, a = n := ⟨a.toNat, by omega⟩
      have hn : 0 < n := by omega
      have h200 : n ≤ 200 := by omega
      have g1 := new_ok (H := H) (pr := pk) (flatPr_no rfl) n hn h200 (m := 599) (by omega)
      have hM := made_model (H := H) n hn h200
      obtain ⟨H2, r, lb, fb, lv, fv, ev, c, cap, rest, g2, hS, _, _, _, _, hle, hk⟩ := ref_new (H := heapN H (made n)) (pr := pk) (flatPr_no rfl) n hn h200 (m := 599) (by omega)
      have keep : ∀ (b : Nat) (x : Blk), (heapN H (made n))[b]? = some x → H2[b]? = some x := fun b x hb => by rw [hk b (List.getElem?_eq_some_iff.mp hb).1, hb]
      have hM2 : Model H2 (H.length + 1) H.length (made n) 0 n (List.range n) := ⟨⟨keep _ _ hM.pool.hp, keep _ _ hM.pool.hs, fun i q x d hi => keep _ _ (hM.pool.hq i q x d hi)⟩, hM.chain, hM.nodup, hM.full, hM.cnt, hM.len⟩
      have hhas : hasL (made n) = List.replicate n 0 := by
        apply List.ext_getElem?
        intro j
        by_cases hj : j < n
        · simp [hasL, made, hj]
        · rw [List.getElem?_eq_none (by simp [hasL, made]; omega), List.getElem?_eq_none (by simp; omega)]
      rw [← hhas] at hS
      have hw0 : ∀ (k q : Nat) (x : Pkt) (d : Int), (made n)[k]? = some (some (q, x), d) → (List.replicate n pk0)[k]? = some x := by
        intro k q x d hk
        by_cases hkn : k < n
        · rw [made_get n k hkn] at hk
          simp at hk
        · rw [List.getElem?_eq_none (by rw [made_len]; omega)] at hk
          cases hk
      have hT : Twin H2 (H.length + 1) H.length (made n) 0 n (List.range n) r lb fb c cap lv fv ev (List.replicate n pk0) rest := ⟨hM2, hS, hw0, by rw [made_len]; simp⟩
      have hs1 : Sl (heapN H (made n)) v 6 b (xs.map POp.cells) := hs.same fun hb => by
        unfold heapN
        exact List.getElem?_append_left hb
      have hs2 : Sl H2 v 6 b (xs.map POp.cells) := hs1.same fun hb => hk b hb
      have n38 := x_eqNil (P := Try.prog) 38 76 (by kernel_rfl)
      obtain ⟨H', hl⟩ := does_loop0 n (H.length + 1) H.length r lb fb lv fv h200 v xs b hx hok xs.length 0 599 H2 (made n) 0 n (List.range n) c cap ev (List.replicate n pk0) rest (by omega) (by omega) (by omega) hs2 hT undef undef undef undef undef undef undef undef undef undef undef undef undef undef undef undef v (.int .i64 xs.length) (.bool false) (.bool false) (.bool true) (.bool false) (.bool false) undef (.int .i64 (n : Nat)) (.pointer (some ⟨H.length + 1, 0, none⟩)) (.int .i64 (n : Nat)) (.pointer (some ⟨r, 0, none⟩)) (.pointer (some ⟨H.length + 1, 0, none⟩)) (.bool false) (.bool false) (.pointer (some ⟨r, 0, none⟩)) (.bool false) (.bool false) undef undef undef undef undef undef undef undef undef undef undef undef undef undef undef undef undef undef undef undef undef undef undef undef undef undef undef undef undef undef undef undef undef undef undef undef undef undef undef undef undef undef undef undef undef undef undef undef undef undef undef undef undef undef undef undef undef undef undef undef undef undef undef undef undef undef undef undef undef undef undef undef undef undef undef undef undef undef undef undef undef undef undef undef undef undef undef undef undef undef undef undef undef undef undef undef undef undef undef undef undef undef undef undef undef undef undef undef undef undef undef undef undef undef undef undef undef undef undef undef undef undef undef undef undef undef undef
      refine ⟨H', ?_⟩
      refine lvl_at (flatPr_no rfl) (by omega) ?_
      rw [f6_eq]
      unfold f6
      simp -implicitDefEqProofs only [hlen, g6, g1, g2, e22, n38, u_not, Bool.not_true, r_opt, r_ret, ob_some, r_gdff, r_gdff2, r_gdtf, r_gdtf2, b_gtr, e3, pick_f, pick_t, iteV_false, iteV_true]
      exact hl
  · have e3 : decide ((200 : Int) < xs.length) = true := by simp; omega
    refine ⟨H, ?_⟩
    refine lvl_at (flatPr_no rfl) (by omega) ?_
    rw [f6_eq]
    unfold f6
    simp -implicitDefEqProofs only [r_opt, r_ret, ob_some, r_gdtf, r_gdtf2, hlen, b_gtr, e3, pick_t, iteV_true, g6, oneOf_one]

end Go.Proofs.Ytebcibedkcjbcaa
