import Derived.Test.YtebcibedkcjbcaaAbsPoolLast
import Derived.Test.YtebcibedkcjbcaaAbsPkt
import Derived.Test.YtebcibedkcjbcaaAbsOwn
set_option linter.unusedSimpArgs false
set_option linter.unusedVariables false
set_option maxRecDepth 100000
namespace Go.Proofs.Ytebcibedkcjbcaa
open Go.Abs

/-- a call of the law -/
structure POp where
  kind : Nat
  x : Pkt
  i : Int
def POp.cells (o : POp) : List Value := [.int .u8 o.kind, .int .i64 o.x.src, .int .i64 o.x.dst, .int .i64 o.x.lane, .int .u32 o.x.body, .int .i64 o.i]
structure POp.ok (o : POp) : Prop where
  kind : o.kind < 256
  x : o.x.ok
  i : i64ok o.i

theorem eqPkt (x : Pkt) : bin Try.prog .neq 27 x.val x.val = some (.bool false) := by
  have hk : kindsOf Try.prog 27 = some [true, true, true, true] := by kernel_rfl
  simp [bin, flat, Pkt.val, eqAny, hk, Pkt.cells, eqT]

def hasE (k : Nat) : List Value := [.int .i64 k]
def hasL (l : List Slot) : List Nat := l.map fun x => if x.1.isSome = true then 1 else 0

theorem hasL_get {l : List Slot} {i : Nat} {x : Slot} (h : l[i]? = some x) : (hasL l)[i]? = some (if x.1.isSome = true then 1 else 0) := by simp [hasL, h]
theorem hasL_set (l : List Slot) (i : Nat) (x : Slot) : (hasL l).set i (if x.1.isSome = true then 1 else 0) = hasL (l.set i x) := by simp [hasL, List.map_set]
theorem hasL_len (l : List Slot) : (hasL l).length = l.length := by simp [hasL]

section
variable {H H' : Heap} {p s : Nat} {l : List Slot} {top free : Int} {fl : List Nat}

theorem Model.keepE {e : TypeId} (h : Model H p s l top free fl) (hk : KeepE e H H') (he : e = 3 ∨ e = 27) : Model H' p s l top free fl :=
  ⟨⟨hk _ _ h.pool.hp (by simp [poolB]), hk _ _ h.pool.hs (by rcases he with rfl | rfl <;> simp [slotsB]), fun i q x d hi => hk _ _ (h.pool.hq i q x d hi) (by simp [pkB])⟩, h.chain, h.nodup, h.full, h.cnt, h.len⟩
theorem sl_keepE {e : TypeId} {v : Value} {sz b : Nat} {rows : List (List Value)} (h : Sl H v sz b rows) (hk : KeepE e H H') : Sl H' v sz b rows :=
  ⟨h.len, h.at_, fun h0 => by
    obtain ⟨e, he⟩ := h.blk h0
    exact ⟨e, hk _ _ he (by simp)⟩⟩
theorem own_more {α : Type} {el : α → List Value} {e : TypeId} {v : Value} {b : Nat} {xs : List α} (h : Own el e H v b xs) (he : e = 3 ∨ e = 27) (hp : IsPool H p s l top free) (hm : ∀ b, b < H.length → b ≠ p → b ≠ s → H'[b]? = H[b]?) : Own el e H' v b xs := by
  have hl := (List.getElem?_eq_some_iff.mp h.blk).1
  have h1 : b ≠ p := by
    intro hb
    have h1 := hp.hp
    rw [← hb, h.blk] at h1
    simp [poolB] at h1
  have h2 : b ≠ s := by
    intro hb
    have h1 := hp.hs
    rw [← hb, h.blk] at h1
    rcases he with rfl | rfl <;> simp [slotsB] at h1
  exact ⟨h.val, by rw [hm b hl h1 h2, h.blk]⟩
end

section
variable (v hv wv : Value) (xs : List POp) (b hb wb p s n : Nat)

theorem keeps_loop1 (hn : n ≤ 200) : ∀ (r i m : Nat) (l : List Slot) (H : Heap) (top free : Int) (fl : List Nat) (ws : List Pkt), n - i = r → i ≤ n → r < m → l.length = n → ws.length = n → (∀ (k q : Nat) (x : Pkt) (d : Int), l[k]? = some (some (q, x), d) → ws[k]? = some x) →
    Model H p s l top free fl → Own hasE 3 H hv hb (hasL l) → Own Pkt.cells 27 H wv wb ws → ∀ (x0 x1 x2 x3 x9 x10 x11 x12 x13 x15 x16 x17 x18 x19 x20 x21 x22 x23 x24 x25 x26 x27 x28 x29 x30 x31 x32 x33 x34 x35 x36 x37 x38 x39 x40 x41 x42 x43 x44 x45 x46 x47 x48 x49 x50 x51 x52 x53 x54 x55 x56 x57 x58 x59 x60 x61 x62 x63 x64 x65 x66 x67 x68 x69 x70 x71 x72 x73 x74 x75 x76 x77 x78 x79 x80 x81 x82 x83 x84 x85 x86 x87 x88 x89 x90 x91 x92 x93 x94 x95 x96 x97 x98 x99 x100 x101 x102 x103 x104 x105 x106 x107 x108 x109 x110 x111 x112 x113 x114 x115 x116 x117 x118 x119 x120 x121 x122 x123 x124 x125 x126 x127 x128 x129 x130 x131 x132 x133 x134 x135 x136 x137 x138 x139 x140 x141 x142 x143 x144 x145 x146 x147 x148 x149 x150 x151 x152 x153 x154 x155 x156 x157 x158 : Value),
    ∃ H', loopN m (runCode Try.prog (lvl Try.prog pk 599) (loopN 599) f7_c1) (f7_k1 (lvl Try.prog pk 599) (loopN 599)) [x0, x1, x2, x3, .bool false, .int .i64 (n : Nat), .pointer (some ⟨p, 0, none⟩), hv, wv, x9, x10, x11, x12, x13, .int .i64 (i : Nat), x15, x16, x17, x18, x19, x20, x21, x22, x23, x24, x25, x26, x27, x28, x29, x30, x31, x32, x33, x34, x35, x36, x37, x38, x39, x40, x41, x42, x43, x44, x45, x46, x47, x48, x49, x50, x51, x52, x53, x54, x55, x56, x57, x58, x59, x60, x61, x62, x63, x64, x65, x66, x67, x68, x69, x70, x71, x72, x73, x74, x75, x76, x77, x78, x79, x80, x81, x82, x83, x84, x85, x86, x87, x88, x89, x90, x91, x92, x93, x94, x95, x96, x97, x98, x99, x100, x101, x102, x103, x104, x105, x106, x107, x108, x109, x110, x111, x112, x113, x114, x115, x116, x117, x118, x119, x120, x121, x122, x123, x124, x125, x126, x127, x128, x129, x130, x131, x132, x133, x134, x135, x136, x137, x138, x139, x140, x141, x142, x143, x144, x145, x146, x147, x148, x149, x150, x151, x152, x153, x154, x155, x156, x157, x158] H = some (.bool true, H') := by
  intro r
  induction r with
  | zero =>
    intro i m l H top free fl ws hr hi hm hl hw hlw hM hH hW x0 x1 x2 x3 x9 x10 x11 x12 x13 x15 x16 x17 x18 x19 x20 x21 x22 x23 x24 x25 x26 x27 x28 x29 x30 x31 x32 x33 x34 x35 x36 x37 x38 x39 x40 x41 x42 x43 x44 x45 x46 x47 x48 x49 x50 x51 x52 x53 x54 x55 x56 x57 x58 x59 x60 x61 x62 x63 x64 x65 x66 x67 x68 x69 x70 x71 x72 x73 x74 x75 x76 x77 x78 x79 x80 x81 x82 x83 x84 x85 x86 x87 x88 x89 x90 x91 x92 x93 x94 x95 x96 x97 x98 x99 x100 x101 x102 x103 x104 x105 x106 x107 x108 x109 x110 x111 x112 x113 x114 x115 x116 x117 x118 x119 x120 x121 x122 x123 x124 x125 x126 x127 x128 x129 x130 x131 x132 x133 x134 x135 x136 x137 x138 x139 x140 x141 x142 x143 x144 x145 x146 x147 x148 x149 x150 x151 x152 x153 x154 x155 x156 x157 x158
    obtain ⟨m, rfl⟩ : ∃ k, m = k + 1 := ⟨m - 1, by omega⟩
    obtain rfl : i = n := by omega
    have e : decide ((i : Int) < i) = false := by simp
    rw [loop_succ, f7_b1_eq]
    unfold f7_b1
    simp -implicitDefEqProofs only [b_lss, e, r_opt, ob_some, iteV_false, again_exit]
    rw [f7_e1_2_eq]
    exact ⟨H, rfl⟩
  | succ r ih =>
    intro i m l H top free fl ws hr hi hm hl hw hlw hM hH hW x0 x1 x2 x3 x9 x10 x11 x12 x13 x15 x16 x17 x18 x19 x20 x21 x22 x23 x24 x25 x26 x27 x28 x29 x30 x31 x32 x33 x34 x35 x36 x37 x38 x39 x40 x41 x42 x43 x44 x45 x46 x47 x48 x49 x50 x51 x52 x53 x54 x55 x56 x57 x58 x59 x60 x61 x62 x63 x64 x65 x66 x67 x68 x69 x70 x71 x72 x73 x74 x75 x76 x77 x78 x79 x80 x81 x82 x83 x84 x85 x86 x87 x88 x89 x90 x91 x92 x93 x94 x95 x96 x97 x98 x99 x100 x101 x102 x103 x104 x105 x106 x107 x108 x109 x110 x111 x112 x113 x114 x115 x116 x117 x118 x119 x120 x121 x122 x123 x124 x125 x126 x127 x128 x129 x130 x131 x132 x133 x134 x135 x136 x137 x138 x139 x140 x141 x142 x143 x144 x145 x146 x147 x148 x149 x150 x151 x152 x153 x154 x155 x156 x157 x158
    obtain ⟨m, rfl⟩ : ∃ k, m = k + 1 := ⟨m - 1, by omega⟩
    have e : decide ((i : Int) < n) = true := by simp; omega
    obtain ⟨⟨sl, d⟩, hk⟩ : ∃ x, l[i]? = some x := ⟨_, List.getElem?_eq_getElem (show i < l.length by omega)⟩
    have e3 : IntKind.i64.wrap ((i : Int) + 1) = ((i + 1 : Nat) : Int) := by rw [wrap_i64 (by omega) (by omega)]; omega
    have hat := hH.at_ 1 i .i64 (by rw [hasL_len]; omega)
    rw [loop_succ, f7_b1_eq]
    unfold f7_b1
    cases sl with
    | none =>
      have g := get_no (pr := pk) (flatPr_no rfl) (flatPr_no rfl) hM.pool (m := 599) (by omega) (i : Int) (.inr (.inr ⟨d, by rw [Int.toNat_natCast]; exact hk⟩))
      have hH2 := (hH.app [pkB pk0]).app [pkB pk0]
      have hld := hH2.ld1 (sz := 1) (fun _ => rfl) (j := 0) (hasL_get hk) rfl
      rw [Nat.add_zero] at hld
      have e5 : ((((if (none : Option (Nat × Pkt)).isSome = true then 1 else 0 : Nat)) : Int) == 1) = false := by decide
      simp -implicitDefEqProofs only [b_lss, e, r_opt, r_ret, ob_some, iteV_true, g, ext_0, ext_1, x_newB, pkB_zero, st_pk, x_last, stC_pk, set_last, hat, hld, ifB_true, b_eql, e5, bneq, bne_self_eq_false, r_gdff, r_gdff2, r_gdft, r_gdft2, pick_f, iteV_false, b_add, e3, again_normal]
      exact ih (i + 1) m l _ top free fl ws (by omega) (by omega) (by omega) hl hw hlw ((hM.app _).app _) hH2 ((hW.app _).app _) _ _ _ _ _ _ _ _ _ _ _ _ _ _ _ _ _ _ _ _ _ _ _ _ _ _ _ _ _ _ _ _ _ _ _ _ _ _ _ _ _ _ _ _ _ _ _ _ _ _ _ _ _ _ _ _ _ _ _ _ _ _ _ _ _ _ _ _ _ _ _ _ _ _ _ _ _ _ _ _ _ _ _ _ _ _ _ _ _ _ _ _ _ _ _ _ _ _ _ _ _ _ _ _ _ _ _ _ _ _ _ _ _ _ _ _ _ _ _ _ _ _ _ _ _ _ _ _ _ _ _ _ _ _ _ _ _ _ _ _ _ _ _ _ _ _ _ _ _ _ _ _ _
    | some q =>
      obtain ⟨q, x⟩ := q
      have g := get_yes (pr := pk) (flatPr_no rfl) (flatPr_no rfl) hM.pool (m := 599) (by omega) i q x d hk
      have hH2 := (hH.app [pkB x]).app [pkB x]
      have hW2 := (hW.app [pkB x]).app [pkB x]
      have hld := hH2.ld1 (sz := 1) (fun _ => rfl) (j := 0) (hasL_get hk) rfl
      rw [Nat.add_zero] at hld
      have e5 : ((((if (some (q, x)).isSome = true then 1 else 0 : Nat)) : Int) == 1) = true := by simp
      have hat4 := hW.at_ 4 i .i64 (by omega)
      have hld4 := hW2.ldN (sz := 4) (fun _ => rfl) (hlw i q x d hk)
      have hval : Value.agg ⟨x.cells⟩ = x.val := rfl
      rw [hval] at hld4
      have hldx : ldN 4 (.pointer (some ⟨(H ++ [pkB x]).length, 0, none⟩)) (H ++ [pkB x] ++ [pkB x]) = some (x.val, H ++ [pkB x] ++ [pkB x]) := by
        rw [x_ldN, x_last]
        rfl
      have ep := eqPkt x
      simp -implicitDefEqProofs only [b_lss, e, r_opt, r_ret, ob_some, iteV_true, g, ext_0, ext_1, x_newB, pkB_zero, st_pk, x_last, stC_pk, set_last, hat, hld, ifB_true, b_eql, e5, bneq, bne_self_eq_false, r_gdff, r_gdff2, r_gdt, r_gdt2, hldx, hat4, hld4, ep, pick_f, pick_t, iteV_false, b_add, e3, again_normal]
      exact ih (i + 1) m l _ top free fl ws (by omega) (by omega) (by omega) hl hw hlw ((hM.app _).app _) hH2 hW2 _ _ _ _ _ _ _ _ _ _ _ _ _ _ _ _ _ _ _ _ _ _ _ _ _ _ _ _ _ _ _ _ _ _ _ _ _ _ _ _ _ _ _ _ _ _ _ _ _ _ _ _ _ _ _ _ _ _ _ _ _ _ _ _ _ _ _ _ _ _ _ _ _ _ _ _ _ _ _ _ _ _ _ _ _ _ _ _ _ _ _ _ _ _ _ _ _ _ _ _ _ _ _ _ _ _ _ _ _ _ _ _ _ _ _ _ _ _ _ _ _ _ _ _ _ _ _ _ _ _ _ _ _ _ _ _ _ _ _ _ _ _ _ _ _ _ _ _ _ _ _ _ _

theorem hasE_all (x : Nat) : allCells (hasE x) = true := rfl
theorem pkt_all (x : Pkt) : allCells x.cells = true := rfl

theorem keeps_loop0 (h0 : 0 < n) (hn : n ≤ 200) (hx : xs.length ≤ 200) (hok : ∀ o ∈ xs, o.ok) : ∀ (r i m : Nat) (l : List Slot) (H : Heap) (top free : Int) (fl : List Nat) (ws : List Pkt), xs.length - i = r → i ≤ xs.length → r < m → l.length = n → ws.length = n → (∀ (k q : Nat) (x : Pkt) (d : Int), l[k]? = some (some (q, x), d) → ws[k]? = some x) →
    Sl H v 6 b (xs.map POp.cells) → Model H p s l top free fl → Own hasE 3 H hv hb (hasL l) → Own Pkt.cells 27 H wv wb ws → ∀ (x0 x2 x3 x11 x12 x13 x14 x15 x16 x17 x18 x19 x20 x21 x22 x23 x24 x25 x26 x27 x28 x29 x30 x31 x32 x33 x34 x35 x36 x37 x38 x39 x40 x41 x42 x43 x44 x45 x46 x47 x48 x49 x50 x51 x52 x53 x54 x55 x56 x57 x58 x59 x60 x61 x62 x63 x64 x65 x66 x67 x68 x69 x70 x71 x72 x73 x74 x75 x76 x77 x78 x79 x80 x81 x82 x83 x84 x85 x86 x87 x88 x89 x90 x91 x92 x93 x94 x95 x96 x97 x98 x99 x100 x101 x102 x103 x104 x105 x106 x107 x108 x109 x110 x111 x112 x113 x114 x115 x116 x117 x118 x119 x120 x121 x122 x123 x124 x125 x126 x127 x128 x129 x130 x131 x132 x133 x134 x135 x136 x137 x138 x139 x140 x141 x142 x143 x144 x145 x146 x147 x148 x149 x150 x151 x152 x153 x154 x155 x156 x157 x158 : Value),
    ∃ H', loopN m (runCode Try.prog (lvl Try.prog pk 599) (loopN 599) f7_c0) (f7_k0 (lvl Try.prog pk 599) (loopN 599)) [x0, v, x2, x3, .bool false, .int .i64 (n : Nat), .pointer (some ⟨p, 0, none⟩), hv, wv, .int .i64 ((n : Int) - free), .int .i64 (i : Nat), x11, x12, x13, x14, x15, x16, x17, x18, x19, x20, x21, x22, x23, x24, x25, x26, x27, x28, x29, x30, x31, x32, x33, x34, x35, x36, x37, x38, x39, x40, x41, x42, x43, x44, x45, x46, x47, x48, x49, x50, x51, x52, x53, x54, x55, x56, x57, x58, x59, x60, x61, x62, x63, x64, x65, x66, x67, x68, x69, x70, x71, x72, x73, x74, x75, x76, x77, x78, x79, x80, x81, x82, x83, x84, x85, x86, x87, x88, x89, x90, x91, x92, x93, x94, x95, x96, x97, x98, x99, x100, x101, x102, x103, x104, x105, x106, x107, x108, x109, x110, x111, x112, x113, x114, x115, x116, x117, x118, x119, x120, x121, x122, x123, x124, x125, x126, x127, x128, x129, x130, x131, x132, x133, x134, x135, x136, x137, x138, x139, x140, x141, x142, x143, x144, x145, x146, x147, x148, x149, x150, x151, x152, x153, x154, x155, x156, x157, x158] H = some (.bool true, H') := by
  intro r
  induction r with
  | zero =>
    intro i m l H top free fl ws hr hi hm hl hw hlw hs hM hH hW x0 x2 x3 x11 x12 x13 x14 x15 x16 x17 x18 x19 x20 x21 x22 x23 x24 x25 x26 x27 x28 x29 x30 x31 x32 x33 x34 x35 x36 x37 x38 x39 x40 x41 x42 x43 x44 x45 x46 x47 x48 x49 x50 x51 x52 x53 x54 x55 x56 x57 x58 x59 x60 x61 x62 x63 x64 x65 x66 x67 x68 x69 x70 x71 x72 x73 x74 x75 x76 x77 x78 x79 x80 x81 x82 x83 x84 x85 x86 x87 x88 x89 x90 x91 x92 x93 x94 x95 x96 x97 x98 x99 x100 x101 x102 x103 x104 x105 x106 x107 x108 x109 x110 x111 x112 x113 x114 x115 x116 x117 x118 x119 x120 x121 x122 x123 x124 x125 x126 x127 x128 x129 x130 x131 x132 x133 x134 x135 x136 x137 x138 x139 x140 x141 x142 x143 x144 x145 x146 x147 x148 x149 x150 x151 x152 x153 x154 x155 x156 x157 x158
    obtain ⟨m, rfl⟩ : ∃ k, m = k + 1 := ⟨m - 1, by omega⟩
    obtain rfl : i = xs.length := by omega
    have hlen := hs.len
    rw [List.length_map] at hlen
    have e : decide ((xs.length : Int) < xs.length) = false := by simp
    rw [loop_succ, f7_b0_eq]
    unfold f7_b0
    simp -implicitDefEqProofs only [hlen, b_lss, e, r_opt, ob_some, iteV_false, again_exit]
    rw [f7_e0_0_eq]
    exact keeps_loop1 hv wv hb wb p s n hn n 0 599 l H top free fl ws (by omega) (by omega) (by omega) hl hw hlw hM hH hW ..
  | succ r ih =>
    intro i m l H top free fl ws hr hi hm hl hw hlw hs hM hH hW x0 x2 x3 x11 x12 x13 x14 x15 x16 x17 x18 x19 x20 x21 x22 x23 x24 x25 x26 x27 x28 x29 x30 x31 x32 x33 x34 x35 x36 x37 x38 x39 x40 x41 x42 x43 x44 x45 x46 x47 x48 x49 x50 x51 x52 x53 x54 x55 x56 x57 x58 x59 x60 x61 x62 x63 x64 x65 x66 x67 x68 x69 x70 x71 x72 x73 x74 x75 x76 x77 x78 x79 x80 x81 x82 x83 x84 x85 x86 x87 x88 x89 x90 x91 x92 x93 x94 x95 x96 x97 x98 x99 x100 x101 x102 x103 x104 x105 x106 x107 x108 x109 x110 x111 x112 x113 x114 x115 x116 x117 x118 x119 x120 x121 x122 x123 x124 x125 x126 x127 x128 x129 x130 x131 x132 x133 x134 x135 x136 x137 x138 x139 x140 x141 x142 x143 x144 x145 x146 x147 x148 x149 x150 x151 x152 x153 x154 x155 x156 x157 x158
    obtain ⟨m, rfl⟩ : ∃ k, m = k + 1 := ⟨m - 1, by omega⟩
    have hlen := hs.len
    rw [List.length_map] at hlen
    have e : decide ((i : Int) < xs.length) = true := by simp; omega
    obtain ⟨o, ho⟩ : ∃ o, xs[i]? = some o := ⟨xs[i], List.getElem?_eq_getElem (by omega)⟩
    have hoo := hok o (List.mem_of_getElem? ho)
    have hk256 := hoo.kind
    have hat := hs.at_ i .i64 (by rw [List.length_map]; omega)
    have hkind := hs.ld1 (el := POp.cells) (fun _ => rfl) (j := 0) ho rfl
    rw [Nat.add_zero] at hkind
    have hidx := hs.ld1 (el := POp.cells) (fun _ => rfl) (j := 5) ho rfl
    have e1 : ((o.kind : Nat) : Int).tmod 4 = ((o.kind % 4 : Nat) : Int) := by rw [Int.tmod_eq_emod_of_nonneg (by omega)]; omega
    have r1 := b_rem (P := Try.prog) 5 .u8 (o.kind : Int) 4 (by omega)
    rw [e1] at r1
    have e3 : IntKind.i64.wrap ((i : Int) + 1) = ((i + 1 : Nat) : Int) := by rw [wrap_i64 (by omega) (by omega)]; omega
    have hcnt := hM.cnt
    have hfl := hM.fl_len
    rw [loop_succ, f7_b0_eq]
    unfold f7_b0
    by_cases h2 : o.kind % 4 = 2
    · have e2 : (((o.kind % 4 : Nat) : Int) == 2) = true := by simp; omega
      obtain ⟨k, hk⟩ : ∃ k : Nat, (max o.i 0).tmod (n : Int) = k := by
        refine ⟨((max o.i 0).tmod (n : Int)).toNat, ?_⟩
        rw [Int.toNat_of_nonneg]
        exact Int.tmod_nonneg _ (by omega)
      have hkn : k < n := by
        have := Int.tmod_lt_of_pos (max o.i 0) (show (0 : Int) < n by omega)
        omega
      have r2 := b_rem (P := Try.prog) 3 .i64 (max o.i 0) (n : Int) (by omega)
      rw [hk] at r2
      obtain ⟨⟨sl, d⟩, hlk⟩ : ∃ x, l[k]? = some x := ⟨_, List.getElem?_eq_getElem (show k < l.length by omega)⟩
      have hhat := hH.at_ 1 k .i64 (by rw [hasL_len]; omega)
      have hld0 := hH.ld1 (sz := 1) (fun _ => rfl) (j := 0) (hasL_get hlk) rfl
      rw [Nat.add_zero] at hld0
      cases sl with
      | none =>
        have g := drop_no (pr := pk) (flatPr_no rfl) (flatPr_no rfl) hM.pool (m := 599) (by omega) (k : Int) (.inr (.inr ⟨d, by rw [Int.toNat_natCast]; exact hlk⟩))
        have e5 : ((((if (none : Option (Nat × Pkt)).isSome = true then 1 else 0 : Nat)) : Int) == 1) = false := by decide
        have e6 : IntKind.i64.wrap (((n : Int) - free) - ((if (none : Option (Nat × Pkt)).isSome = true then 1 else 0 : Nat) : Int)) = (n : Int) - free := by rw [wrap_i64] <;> simp <;> omega
        obtain ⟨gs, hH1⟩ := hH.st (sz := 1) (fun _ => rfl) hasE_all (i := k) (by rw [hasL_len]; omega) 0
        have hK := KeepE.set 3 (cs' := ((hasL l).map hasE).flatten) hH.blk
        have hset : (hasL l).set k 0 = hasL l := by
          have h1 : l.set k (none, d) = l := by
            apply List.ext_getElem?
            intro j
            by_cases ej : k = j
            · subst ej
              rw [List.getElem?_set_self (by omega), hlk]
            · rw [List.getElem?_set_ne ej]
          have := hasL_set l k (none, d)
          rw [h1] at this
          exact this
        rw [hset] at hH1 gs
        have hM1 := hM.keepE hK (.inl rfl)
        have hs1 := sl_keepE hs hK
        have hW1 := hW.keep hK (by decide)
        have g5 := free_is (pr := pk) (flatPr_no rfl) hM1.pool (m := 599) (by omega)
        have e7 : IntKind.i64.wrap ((n : Int) - ((n : Int) - free)) = free := by rw [wrap_i64] <;> omega
        have e8 : (free != free) = false := by simp
        have gs' : stN 1 (.pointer (some ⟨hb, k * 1, none⟩)) (.int .i64 0) H = some (undef, H.set hb (.cells ((hasL l).map hasE).flatten 3 .row)) := by
          rw [st_int]
          exact gs
        simp -implicitDefEqProofs only [hlen, b_lss, e, r_opt, r_ret, ob_some, iteV_true, hat, r_fAddr, Nat.add_zero, hkind, r1, b_eql, e2, hidx, maxI, r2, g, ifB_true, hhat, hld0, chk_int, Bool.true_and, Bool.and_self, e5, bneq, bne_self_eq_false, iteV_false, b_sub, e6, gs', g5, e7, b_neq, e8, b_add, e3, again_normal]
        exact ih (i + 1) m l _ top free fl ws (by omega) (by omega) (by omega) hl hw hlw hs1 hM1 hH1 hW1 _ _ _ _ _ _ _ _ _ _ _ _ _ _ _ _ _ _ _ _ _ _ _ _ _ _ _ _ _ _ _ _ _ _ _ _ _ _ _ _ _ _ _ _ _ _ _ _ _ _ _ _ _ _ _ _ _ _ _ _ _ _ _ _ _ _ _ _ _ _ _ _ _ _ _ _ _ _ _ _ _ _ _ _ _ _ _ _ _ _ _ _ _ _ _ _ _ _ _ _ _ _ _ _ _ _ _ _ _ _ _ _ _ _ _ _ _ _ _ _ _ _ _ _ _ _ _ _ _ _ _ _ _ _ _ _ _ _ _ _ _ _ _ _ _ _ _ _ _ _ _
      | some q =>
        obtain ⟨H1, g, hM1, hm1⟩ := hM.drop (pr := pk) (flatPr_no rfl) (flatPr_no rfl) (m := 599) (by omega) k q d hlk
        have hs1 := sl_more hs hM.pool hm1.same
        have hH1 := own_more hH (.inl rfl) hM.pool hm1.same
        have hW1 := own_more hW (.inr rfl) hM.pool hm1.same
        have hld1 := hH1.ld1 (sz := 1) (fun _ => rfl) (j := 0) (hasL_get hlk) rfl
        rw [Nat.add_zero] at hld1
        have e5 : ((((if (some q).isSome = true then 1 else 0 : Nat)) : Int) == 1) = true := by simp
        have e6 : IntKind.i64.wrap (((n : Int) - free) - ((if (some q).isSome = true then 1 else 0 : Nat) : Int)) = (n : Int) - (free + 1) := by rw [wrap_i64] <;> simp <;> omega
        obtain ⟨gs, hH2⟩ := hH1.st (sz := 1) (fun _ => rfl) hasE_all (i := k) (by rw [hasL_len]; omega) 0
        have hset : (hasL l).set k 0 = hasL (l.set k (none, top)) := hasL_set l k (none, top)
        have hK := KeepE.set 3 (cs' := ((hasL (l.set k (none, top))).map hasE).flatten) hH1.blk
        rw [hset] at hH2 gs
        have hM2 := hM1.keepE hK (.inl rfl)
        have hs2 := sl_keepE hs1 hK
        have hW2 := hW1.keep hK (by decide)
        have g5 := free_is (pr := pk) (flatPr_no rfl) hM2.pool (m := 599) (by omega)
        have e7 : IntKind.i64.wrap ((n : Int) - ((n : Int) - (free + 1))) = free + 1 := by rw [wrap_i64] <;> omega
        have e8 : (free + 1 != free + 1) = false := by simp
        have gs' : stN 1 (.pointer (some ⟨hb, k * 1, none⟩)) (.int .i64 0) H1 = some (undef, H1.set hb (.cells ((hasL (l.set k (none, top))).map hasE).flatten 3 .row)) := by
          rw [st_int]
          exact gs
        simp -implicitDefEqProofs only [hlen, b_lss, e, r_opt, r_ret, ob_some, iteV_true, hat, r_fAddr, Nat.add_zero, hkind, r1, b_eql, e2, hidx, maxI, r2, g, ifB_true, hhat, hld0, hld1, chk_int, Bool.true_and, Bool.and_self, e5, bneq, bne_self_eq_false, iteV_false, b_sub, e6, gs', g5, e7, b_neq, e8, b_add, e3, again_normal]
        refine ih (i + 1) m (l.set k (none, top)) _ k (free + 1) (k :: fl) ws (by omega) (by omega) (by omega) (by simpa using hl) hw ?_ hs2 hM2 hH2 hW2 _ _ _ _ _ _ _ _ _ _ _ _ _ _ _ _ _ _ _ _ _ _ _ _ _ _ _ _ _ _ _ _ _ _ _ _ _ _ _ _ _ _ _ _ _ _ _ _ _ _ _ _ _ _ _ _ _ _ _ _ _ _ _ _ _ _ _ _ _ _ _ _ _ _ _ _ _ _ _ _ _ _ _ _ _ _ _ _ _ _ _ _ _ _ _ _ _ _ _ _ _ _ _ _ _ _ _ _ _ _ _ _ _ _ _ _ _ _ _ _ _ _ _ _ _ _ _ _ _ _ _ _ _ _ _ _ _ _ _ _ _ _ _ _ _ _ _ _ _ _ _
        intro j q' x' d' hj
        by_cases ej : k = j
        · subst ej
          rw [List.getElem?_set_self (by omega)] at hj
          simp at hj
        · rw [List.getElem?_set_ne ej] at hj
          exact hlw j q' x' d' hj
    · have e2 : (((o.kind % 4 : Nat) : Int) == 2) = false := by simp; omega
      have hval : Value.agg ⟨(o.cells.drop 1).take 4⟩ = o.x.val := rfl
      have hpk := hs.part (el := POp.cells) (fun _ => rfl) (j := 1) (n := 4) ho (by omega)
      rw [hval] at hpk
      cases fl with
      | nil =>
        have g := hM.put0 (pr := pk) (flatPr_no rfl) (m := 599) (by omega) o.x
        have hfree : free = 0 := hcnt
        have e4 : decide ((n : Int) - free < n) = false := by simp; omega
        have hM1 := hM.app [pkB o.x]
        have g5 := free_is (pr := pk) (flatPr_no rfl) hM1.pool (m := 599) (by omega)
        have e7 : IntKind.i64.wrap ((n : Int) - ((n : Int) - free)) = free := by rw [wrap_i64] <;> omega
        have e8 : (free != free) = false := by simp
        simp -implicitDefEqProofs only [hlen, b_lss, e, r_opt, r_ret, ob_some, iteV_true, hat, r_fAddr, Nat.add_zero, hkind, r1, b_eql, e2, iteV_false, hpk, g, ext_0, ext_1, e4, bneq, bne_self_eq_false, r_gdff, r_gdff2, r_gdft, r_gdft2, r_gdu, r_gdu2, pick_f, b_sub, g5, e7, b_neq, e8, b_add, e3, again_normal]
        exact ih (i + 1) m l _ top free [] ws (by omega) (by omega) (by omega) hl hw hlw (hs.same fun hb => List.getElem?_append_left hb) hM1 (hH.app _) (hW.app _) _ _ _ _ _ _ _ _ _ _ _ _ _ _ _ _ _ _ _ _ _ _ _ _ _ _ _ _ _ _ _ _ _ _ _ _ _ _ _ _ _ _ _ _ _ _ _ _ _ _ _ _ _ _ _ _ _ _ _ _ _ _ _ _ _ _ _ _ _ _ _ _ _ _ _ _ _ _ _ _ _ _ _ _ _ _ _ _ _ _ _ _ _ _ _ _ _ _ _ _ _ _ _ _ _ _ _ _ _ _ _ _ _ _ _ _ _ _ _ _ _ _ _ _ _ _ _ _ _ _ _ _ _ _ _ _ _ _ _ _ _ _ _ _ _ _ _ _ _ _ _
      | cons k ks =>
        have hkf := (hM.full k).mp (by simp)
        obtain ⟨d0, hlk⟩ := hkf
        obtain ⟨H1, q, d, g, hM1, hlt, _, hm1⟩ := hM.put (pr := pk) (flatPr_no rfl) (m := 599) (by omega) o.x
        have hkn : k < n := by omega
        have hfree : free = ((k :: ks).length : Int) := hcnt
        rw [List.length_cons] at hfree hfl
        have hs1 := sl_more hs hM.pool hm1
        have hH1 := own_more hH (.inl rfl) hM.pool hm1
        have hW1 := own_more hW (.inr rfl) hM.pool hm1
        have e4 : decide ((n : Int) - free < n) = true := by simp; omega
        have e9 : decide ((k : Int) < 0) = false := by simp
        have e10 : decide ((n : Int) ≤ k) = false := by simp; omega
        have hhat := hH.at_ 1 k .i64 (by rw [hasL_len]; omega)
        have hld1 := hH1.ld1 (sz := 1) (fun _ => rfl) (j := 0) (hasL_get hlk) rfl
        rw [Nat.add_zero] at hld1
        have e5 : ((((if (none : Option (Nat × Pkt)).isSome = true then 1 else 0 : Nat)) : Int) == 1) = false := by decide
        obtain ⟨gs, hH2⟩ := hH1.st (sz := 1) (fun _ => rfl) hasE_all (i := k) (by rw [hasL_len]; omega) 1
        have hset : (hasL l).set k 1 = hasL (l.set k (some (q, o.x), d)) := hasL_set l k (some (q, o.x), d)
        have hK := KeepE.set 3 (cs' := ((hasL (l.set k (some (q, o.x), d))).map hasE).flatten) hH1.blk
        rw [hset] at hH2 gs
        have gs' : stN 1 (.pointer (some ⟨hb, k * 1, none⟩)) (.int .i64 1) H1 = some (undef, H1.set hb (.cells ((hasL (l.set k (some (q, o.x), d))).map hasE).flatten 3 .row)) := by
          rw [st_int]
          exact gs
        have hM2 := hM1.keepE hK (.inl rfl)
        have hs2 := sl_keepE hs1 hK
        have hW2 := hW1.keep hK (by decide)
        have hpk2 := hs2.part (el := POp.cells) (fun _ => rfl) (j := 1) (n := 4) ho (by omega)
        rw [hval] at hpk2
        have hwat := hW.at_ 4 k .i64 (by omega)
        obtain ⟨gw, hW3⟩ := hW2.st (sz := 4) (fun _ => rfl) pkt_all (i := k) (by omega) o.x
        have hK2 := KeepE.set 27 (cs' := ((ws.set k o.x).map Pkt.cells).flatten) hW2.blk
        have hM3 := hM2.keepE hK2 (.inr rfl)
        have hs3 := sl_keepE hs2 hK2
        have hH3 := hH2.keep hK2 (by decide)
        have gw' : stN 4 (.pointer (some ⟨wb, k * 4, none⟩)) o.x.val (H1.set hb (.cells ((hasL (l.set k (some (q, o.x), d))).map hasE).flatten 3 .row)) = _ := (x_stN 4 wb (k * 4) o.x.val rfl).trans gw
        have g5 := free_is (pr := pk) (flatPr_no rfl) hM3.pool (m := 599) (by omega)
        have e6 : IntKind.i64.wrap (((n : Int) - free) + 1) = (n : Int) - (free - 1) := by rw [wrap_i64] <;> omega
        have e7 : IntKind.i64.wrap ((n : Int) - ((n : Int) - (free - 1))) = free - 1 := by rw [wrap_i64] <;> omega
        have e8 : (free - 1 != free - 1) = false := by simp
        simp -implicitDefEqProofs only [hlen, b_lss, e, r_opt, r_ret, ob_some, iteV_true, hat, r_fAddr, Nat.add_zero, hkind, r1, b_eql, e2, iteV_false, hpk, g, ext_0, ext_1, e4, bneq, bne_self_eq_false, r_gdff, r_gdff2, r_gdft, r_gdft2, r_gdt, r_gdt2, r_gdtf, r_gdtf2, e9, b_geq, e10, pick_f, pick_t, hhat, hld1, e5, gs', hpk2, hwat, gw', b_sub, g5, e6, e7, b_neq, e8, b_add, e3, again_normal]
        refine ih (i + 1) m _ _ d (free - 1) ks (ws.set k o.x) (by omega) (by omega) (by omega) (by simpa using hl) (by simpa using hw) ?_ hs3 hM3 hH3 hW3 _ _ _ _ _ _ _ _ _ _ _ _ _ _ _ _ _ _ _ _ _ _ _ _ _ _ _ _ _ _ _ _ _ _ _ _ _ _ _ _ _ _ _ _ _ _ _ _ _ _ _ _ _ _ _ _ _ _ _ _ _ _ _ _ _ _ _ _ _ _ _ _ _ _ _ _ _ _ _ _ _ _ _ _ _ _ _ _ _ _ _ _ _ _ _ _ _ _ _ _ _ _ _ _ _ _ _ _ _ _ _ _ _ _ _ _ _ _ _ _ _ _ _ _ _ _ _ _ _ _ _ _ _ _ _ _ _ _ _ _ _ _ _ _ _ _ _ _ _ _ _
        intro j q' x' d' hj
        by_cases ej : k = j
        · subst ej
          rw [List.getElem?_set_self (by omega)] at hj
          rw [List.getElem?_set_self (by omega)]
          simp at hj
          simp [hj]
        · rw [List.getElem?_set_ne ej] at hj
          rw [List.getElem?_set_ne ej]
          exact hlw j q' x' d' hj

end
theorem made_chain (n : Nat) : ∀ (r k : Nat), k + r = n → FreeL (made n) (if k < n then (k : Int) else -1) (List.range' k r)
  | 0, k, h => by
    rw [if_neg (by omega)]
    rfl
  | r + 1, k, h => by
    rw [if_pos (by omega), List.range'_succ]
    refine ⟨rfl, _, made_get n k (by omega), ?_⟩
    exact made_chain n r (k + 1) (by omega)

theorem made_model {H : Heap} (n : Nat) (h0 : 0 < n) (hn : n ≤ 200) : Model (heapN H (made n)) (H.length + 1) H.length (made n) 0 n (List.range n) := by
  refine ⟨made_pool n, ?_, List.nodup_range, fun i => ?_, by simp, by rw [made_len]; exact hn⟩
  · have := made_chain n n 0 (by omega)
    rw [← List.range_eq_range'] at this
    rw [if_pos h0] at this
    exact this
  · rw [List.mem_range]
    constructor
    · intro h
      exact ⟨_, made_get n i h⟩
    · rintro ⟨d, hd⟩
      have := (List.getElem?_eq_some_iff.mp hd).1
      rw [made_len] at this
      exact this

theorem op_all (o : POp) : o.cells.length = 6 := rfl

theorem poolKeeps_true (a : Nat) (ha : a < 256) (v : Value) (xs : List POp) (hok : ∀ o ∈ xs, o.ok) (H : Heap) (b : Nat) (hs : Sl H v 6 b (xs.map POp.cells)) : ∃ H', lvl Try.prog pk 600 (.func 7) [.int .u8 (a : Nat), v] H = some (.bool true, H') := by
  have e1 : ((a : Nat) : Int).tmod 200 = ((a % 200 : Nat) : Int) := by rw [Int.tmod_eq_emod_of_nonneg (by omega)]; omega
  have e2 : IntKind.i64.wrap ((1 : Int) + (a % 200 : Nat)) = ((1 + a % 200 : Nat) : Int) := by rw [wrap_i64 (by omega) (by omega)]; omega
  have c2 := fun H => cv53 H ((a % 200 : Nat) : Int) (by omega) (by omega)
  have r1 := b_rem (P := Try.prog) 5 .u8 (a : Int) 200 (by omega)
  rw [e1] at r1
  have hn : 0 < 1 + a % 200 := by omega
  have h200 : 1 + a % 200 ≤ 200 := by omega
  have hlen := hs.len
  rw [List.length_map] at hlen
  have g6 := fun H => flat_call (P := Try.prog) (ids := [16, 27]) (g := 16) rfl (n := 599) (by omega) H
  by_cases hx : xs.length ≤ 200
  · have e3 : decide ((200 : Int) < xs.length) = false := by simp; omega
    obtain ⟨n, hnn⟩ : ∃ n, 1 + a % 200 = n := ⟨_, rfl⟩
    rw [hnn] at e2 hn h200
    have g1 := new_ok (H := H) (pr := pk) (flatPr_no rfl) n hn h200 (m := 599) (by omega)
    have i0 := made_pool (H := H) n
    have hs' : Sl (heapN H (made n)) v 6 b (xs.map POp.cells) := hs.same fun hb => by
      unfold heapN
      exact List.getElem?_append_left hb
    have m1 := x_mkSlice (H := heapN H (made n)) 3 1 8 [.int .i64 0] .i64 .i64 n (by omega) (by omega) (by omega) rfl
    have m2 := x_mkSlice (H := heapN H (made n) ++ [.cells (List.replicate n [.int .i64 0]).flatten 3 .row]) 27 4 32 [.int .i64 0, .int .i64 0, .int .i64 0, .int .u32 0] .i64 .i64 n (by omega) (by omega) (by omega) rfl
    rw [Int.toNat_natCast] at m1 m2
    have hM := ((made_model (H := H) n hn h200).app [Blk.cells (List.replicate n [.int .i64 0]).flatten 3 .row]).app [Blk.cells (List.replicate n [.int .i64 0, .int .i64 0, .int .i64 0, .int .u32 0]).flatten 27 .row]
    have hlm : (hasL (made n)).length = n := by rw [hasL_len, made_len]
    have hmm : (hasL (made n)).map hasE = List.replicate n [.int .i64 0] := by
      apply List.ext_getElem?
      intro j
      by_cases hj : j < n
      · simp [hasL, made, hj, hasE]
      · rw [List.getElem?_eq_none (by simp [hasL, made]; omega), List.getElem?_eq_none (by simp; omega)]
    have hH : Own hasE 3 (heapN H (made n) ++ [Blk.cells (List.replicate n [.int .i64 0]).flatten 3 .row]) (.slice (some ⟨(heapN H (made n)).length, 0, none⟩) n n) (heapN H (made n)).length (hasL (made n)) := ⟨by rw [hlm], by rw [hmm]; simp⟩
    have hH2 := hH.app [Blk.cells (List.replicate n [.int .i64 0, .int .i64 0, .int .i64 0, .int .u32 0]).flatten 27 .row]
    have hW : Own Pkt.cells 27 (heapN H (made n) ++ [Blk.cells (List.replicate n [.int .i64 0]).flatten 3 .row] ++ [Blk.cells (List.replicate n [.int .i64 0, .int .i64 0, .int .i64 0, .int .u32 0]).flatten 27 .row]) (.slice (some ⟨(heapN H (made n) ++ [Blk.cells (List.replicate n [.int .i64 0]).flatten 3 .row]).length, 0, none⟩) n n) (heapN H (made n) ++ [Blk.cells (List.replicate n [.int .i64 0]).flatten 3 .row]).length (List.replicate n pk0) := ⟨by rw [List.length_replicate], by
      have e : (List.replicate n pk0).map Pkt.cells = List.replicate n [.int .i64 0, .int .i64 0, .int .i64 0, .int .u32 0] := by rw [List.map_replicate]; rfl
      rw [e, x_last]⟩
    have hs2 : Sl (heapN H (made n) ++ [Blk.cells (List.replicate n [.int .i64 0]).flatten 3 .row] ++ [Blk.cells (List.replicate n [.int .i64 0, .int .i64 0, .int .i64 0, .int .u32 0]).flatten 27 .row]) v 6 b (xs.map POp.cells) := (hs'.same fun hb => List.getElem?_append_left hb).same fun hb => List.getElem?_append_left hb
    obtain ⟨H', hl⟩ := keeps_loop0 v (.slice (some ⟨(heapN H (made n)).length, 0, none⟩) n n) (.slice (some ⟨(heapN H (made n) ++ [Blk.cells (List.replicate n [.int .i64 0]).flatten 3 .row]).length, 0, none⟩) n n) xs b (heapN H (made n)).length (heapN H (made n) ++ [Blk.cells (List.replicate n [.int .i64 0]).flatten 3 .row]).length (H.length + 1) H.length n hn h200 hx hok xs.length 0 599 (made n) _ 0 n (List.range n) (List.replicate n pk0) (by omega) (by omega) (by omega) (made_len n) (by simp)
      (fun k q x d hk => by
        by_cases hkn : k < n
        · rw [made_get n k hkn] at hk
          simp at hk
        · rw [List.getElem?_eq_none (by rw [made_len]; omega)] at hk
          cases hk) hs2 hM hH2 hW
      (.int .u8 (a : Nat)) undef undef undef undef undef undef undef undef v (.int .i64 xs.length) (.bool false) (.bool false) (.bool true) (.bool false) (.bool false) undef (.int .u8 (a : Nat)) (.int .u8 (a % 200 : Nat)) (.int .i64 (a % 200 : Nat)) (.int .i64 (n : Nat)) (.int .i64 (n : Nat)) (.pointer (some ⟨H.length + 1, 0, none⟩)) (.pointer (some ⟨H.length + 1, 0, none⟩)) (.bool false) (.int .i64 (n : Nat)) (.slice (some ⟨(heapN H (made n)).length, 0, none⟩) n n) (.int .i64 (n : Nat)) (.slice (some ⟨(heapN H (made n) ++ [Blk.cells (List.replicate n [.int .i64 0]).flatten 3 .row]).length, 0, none⟩) n n) undef undef undef undef undef undef undef undef undef undef undef undef undef undef undef undef undef undef undef undef undef undef undef undef undef undef undef undef undef undef undef undef undef undef undef undef undef undef undef undef undef undef undef undef undef undef undef undef undef undef undef undef undef undef undef undef undef undef undef undef undef undef undef undef undef undef undef undef undef undef undef undef undef undef undef undef undef undef undef undef undef undef undef undef undef undef undef undef undef undef undef undef undef undef undef undef undef undef undef undef undef undef undef undef undef undef undef undef undef undef undef undef undef undef undef undef undef undef undef undef undef undef
    rw [Int.sub_self] at hl
    refine ⟨H', ?_⟩
    refine lvl_at (flatPr_no rfl) (by omega) ?_
    rw [f7_eq]
    unfold f7
    simp -implicitDefEqProofs only [r1, c2, e2, b_add, g1, g6, e22, m1, m2, u_not, Bool.not_true, r_opt, r_ret, ob_some, r_gdff, r_gdff2, hlen, b_gtr, e3, pick_f, iteV_false]
    exact hl
  · have e3 : decide ((200 : Int) < xs.length) = true := by simp; omega
    refine ⟨H, ?_⟩
    refine lvl_at (flatPr_no rfl) (by omega) ?_
    rw [f7_eq]
    unfold f7
    simp -implicitDefEqProofs only [r_opt, r_ret, ob_some, r_gdtf, r_gdtf2, hlen, b_gtr, e3, pick_t, iteV_true, g6, oneOf_one]

end Go.Proofs.Ytebcibedkcjbcaa
