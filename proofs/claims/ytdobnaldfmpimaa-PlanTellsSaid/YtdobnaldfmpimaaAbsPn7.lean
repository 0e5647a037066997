/-
  PLAN: Make.
-/
import Derived.Test.YtdobnaldfmpimaaAbsPn6
set_option linter.unusedSectionVars false
set_option linter.unusedSimpArgs false
set_option linter.unusedVariables false
set_option maxRecDepth 100000
namespace Go.Proofs.Ytdobnaldfmpimaa
open Go.Abs

/-! ### what Make makes -/
def mkN (nodes : Nat) : Nat := 2 + nodes % 5
def mkW (more : Nat) (i : Nat) : Int := ((1 + (i + more) % 5 : Nat) : Int)
def prs (n : Nat) : List (Nat × Nat) := (List.range n).flatMap fun b => (List.range b).map fun a => (a, b)
def selE : Nat → List (Nat × Nat) → List Ed
  | _, [] => []
  | bit, (a, b) :: r => if bit % 2 = 1 then ((a : Int), (b : Int)) :: selE (bit / 2) r else selE (bit / 2) r
def nxt (n : Nat) (next : List Nat) (k w : Nat) : Nat := match next[k]? with
  | some x => if x % 4 = 0 then (x / 4) % n else w
  | none => w
def mkRow (n : Nat) (next : List Nat) (v : Nat) : List Int := (List.range n).map fun w => ((nxt n next (v * n + w) w : Nat) : Int)
def mkP (nodes room more joined : Nat) (next : List Nat) : PlanD where
  nodes := mkN nodes
  edges := selE joined (prs (mkN nodes))
  lanes := ((1 + more % 3 : Nat) : Int)
  room := ((1 + room % 8 : Nat) : Int)
  queue := ((1 + room / 8 % 8 : Nat) : Int)
  rounds := ((1 + more / 3 % 4 : Nat) : Int)
  every := ((1 + more / 12 % 8 : Nat) : Int)
  bag := 64
  weights := (List.range (1 + more % 3)).map (mkW more)
  start := joined
  next := (List.range (mkN nodes)).map (mkRow (mkN nodes) next)

def u8C (n : Nat) : List Value := [.int .u8 n]
theorem u8C_len (n : Nat) : (u8C n).length = 1 := rfl
abbrev Us (H : Heap) (v : Value) (xs : List Nat) := Rs u8C 5 H v xs
theorem cvU (H : Heap) (n : Nat) (h : n < 256) : conv Try.prog 5 3 (.int .u8 n) H = some (.int .i64 n, H) := by
  have h1 : Try.prog.underlying 5 = some (.int .u8) := by kernel_rfl
  have h2 : Try.prog.underlying 3 = some (.int .i64) := by kernel_rfl
  rw [c_int _ _ h1 h2, wrap_i64 (by omega) (by omega)]
theorem remU (a b : Nat) (c : Int) (hc : c = b) (hb : 0 < b) : bin Try.prog .rem 5 (.int .u8 a) (.int .u8 c) = some (.int .u8 (a % b : Nat)) := by rw [hc, b_rem _ _ _ _ (by omega), Int.tmod_eq_emod_of_nonneg (by omega)]; congr 2
theorem remI (a b : Nat) (c : Int) (hc : c = b) (hb : 0 < b) : bin Try.prog .rem 3 (.int .i64 a) (.int .i64 c) = some (.int .i64 (a % b : Nat)) := by rw [hc, b_rem _ _ _ _ (by omega), Int.tmod_eq_emod_of_nonneg (by omega)]; congr 2
theorem rem16 (a b : Nat) (c : Int) (hc : c = b) (hb : 0 < b) : bin Try.prog .rem 22 (.int .u16 a) (.int .u16 c) = some (.int .u16 (a % b : Nat)) := by rw [hc, b_rem _ _ _ _ (by omega), Int.tmod_eq_emod_of_nonneg (by omega)]; congr 2
theorem wrap_u8 {n : Nat} (h : n < 256) : IntKind.u8.wrap (n : Int) = n := by simp [IntKind.wrap, IntKind.bits, IntKind.signed]; omega
theorem wrap_u16 {n : Nat} (h : n < 65536) : IntKind.u16.wrap (n : Int) = n := by simp [IntKind.wrap, IntKind.bits, IntKind.signed]; omega
theorem quoU (a b : Nat) (c : Int) (hc : c = b) (hb : 0 < b) (ha : a < 256) : bin Try.prog .quo 5 (.int .u8 a) (.int .u8 c) = some (.int .u8 (a / b : Nat)) := by
  rw [hc, b_quo _ _ _ _ (by omega), Int.tdiv_eq_ediv_of_nonneg (by omega)]
  have h2 : ((a : Int) / (b : Int)) = ((a / b : Nat) : Int) := by simp
  rw [h2, wrap_u8 (Nat.lt_of_le_of_lt (Nat.div_le_self a b) ha)]
theorem quo16 (a b : Nat) (c : Int) (hc : c = b) (hb : 0 < b) (ha : a < 65536) : bin Try.prog .quo 22 (.int .u16 a) (.int .u16 c) = some (.int .u16 (a / b : Nat)) := by
  rw [hc, b_quo _ _ _ _ (by omega), Int.tdiv_eq_ediv_of_nonneg (by omega)]
  have h2 : ((a : Int) / (b : Int)) = ((a / b : Nat) : Int) := by simp
  rw [h2, wrap_u16 (Nat.lt_of_le_of_lt (Nat.div_le_self a b) ha)]

/-- all but block b and the rows of elements e is as it was -/
def KeepX (b : Nat) (e : TypeId) (H H' : Heap) : Prop := ∀ (c : Nat) (y : Blk), c ≠ b → (∀ cs, y ≠ .cells cs e .row) → H[c]? = some y → H'[c]? = some y

section
variable {H : Heap} {m : Nat} {p : PlanD} {ev wv nv : Value}

/-- one more, behind a field of the plan -/
theorem push_field {α : Type} {el : α → List Value} {e : TypeId} {sz by' : Nat} (hsz : ∀ x, (el x).length = sz) (hall : ∀ x, allCells (el x) = true) (h0 : 0 < sz) {H0 : Heap} {v : Value} {xs : List α} {b j : Nat} {cs : List Value} (x : α)
    (hb : H[b]? = some (.cells cs 27 .fix)) (hj : j < cs.length) (hv : Rw el e sz H v xs) (hn : New H0 v) (hbn : H0.length ≤ b) (he : Ext H0 H) (hr : roomy (xs.length + 1) by' = true) :
    ∃ v' H1 H', app e sz by' v (.slice (some ⟨H.length, 0, none⟩) 1 1) (H ++ [.cells (el x) e .row]) = some (v', H1) ∧ stN 1 (.pointer (some ⟨b, j, none⟩)) v' H1 = some (undef, H') ∧
      Rw el e sz H' v' (xs ++ [x]) ∧ New H0 v' ∧ Ext H0 H' ∧ H'[b]? = some (.cells (cs.set j v') 27 .fix) ∧ KeepX b e H H' := by
  obtain ⟨v', H1, g1, g2, g3, g4, g5, g6⟩ := hv.push2 hsz hall h0 (by' := by') x hn he hr
  have hbl := (List.getElem?_eq_some_iff.mp hb).1
  have hnh : ¬ home v b := fun hh => by
    obtain ⟨c', hc'⟩ := hv.blk hh
    rw [hb] at hc'
    simp at hc'
  have hb1 : H1[b]? = some (.cells cs 27 .fix) := by rw [g5.2 b hbl hnh, hb]
  obtain ⟨s1, s2⟩ := g2.shape
  have hb1l := (List.getElem?_eq_some_iff.mp hb1).1
  refine ⟨v', H1, H1.set b (.cells (cs.set j v') 27 .fix), g1, ?_, g2.keep fun c hc => ?_, g3, ⟨by rw [List.length_set]; exact g4.1, fun c hc _ => ?_⟩, List.getElem?_set_self hb1l, fun c y hcb hA hy => ?_⟩
  · rw [x_stN 1 _ _ _ (by rw [s1]; rfl), hb1, s1, x_stC _ _ _ _ _ _ (by decide) (by simp; omega) s2]
    rfl
  · refine List.getElem?_set_ne fun hh => ?_
    subst hh
    obtain ⟨c', hc'⟩ := g2.blk hc
    rw [hb1] at hc'
    simp at hc'
  · rw [List.getElem?_set_ne (by omega), g4.2 c hc id]
  · have hch : ¬ home v c := fun hh => by
      obtain ⟨c', hc'⟩ := hv.blk hh
      rw [hy] at hc'
      cases hc'
      exact hA _ rfl
    rw [List.getElem?_set_ne (Ne.symm hcb), g5.2 c (List.getElem?_eq_some_iff.mp hy).1 hch, hy]

theorem Rw.keepX {α : Type} {el : α → List Value} {e e' : TypeId} {sz b : Nat} {H' : Heap} {v : Value} {xs : List α} {cs : List Value} (h : Rw el e' sz H v xs) (hk : KeepX b e H H') (hb : H[b]? = some (.cells cs 27 .fix)) (hne : e' ≠ e) : Rw el e' sz H' v xs := h.keep fun c hc => by
  obtain ⟨cs', hx⟩ := h.blk hc
  have hcb : c ≠ b := fun hh => by
    subst hh
    rw [hb] at hx
    simp at hx
  rw [hx]
  exact hk c _ hcb (fun cs'' hh => by cases hh; exact hne rfl) hx
theorem bEd (a b : Int) : bld Try.prog 33 [(0, .int .i64 a), (1, .int .i64 b)] = some (edV (a, b)) := rfl
theorem bldEd (H : Heap) (y : Ed) : bldSlice 33 2 1 [.int .i64 0, .int .i64 0] [(0, edV y)] H = some (.slice (some ⟨H.length, 0, none⟩) 1 1, H ++ [.cells (edC y) 33 .row]) := rfl
theorem vC_all {u : Value} (h : allCells [u] = true) : allCells (vC u) = true := h

theorem make_row {H0 : Heap} {b rb n v joined : Nat} {a4 : Value} {next : List Nat} {zs : List Value} {Q : Heap → Value → Prop} {K : Ex → K (Value × Heap)} (hn6 : n ≤ 6) (hv6 : v < n) (hnx : Us H0 a4 next) (hu8 : ∀ x ∈ next, x < 256) (hnl : next.length ≤ 72057594037927936) (hpn : p.nodes = (n : Int)) (hbr : H0[rb]? = some (.cells zs 27 .fix)) (hb : H0[b]? = some (plB p ev wv nv))
    (hK : ∀ (H' : Heap) (u : Value), Ext H0 H' → Iw H' u (mkRow n next v) → New H0 u → ∀ (x0 x1 x2 x5 x6 x7 x8 x9 x12 x13 x14 x15 x19 x20 x21 x22 x23 x24 x25 x26 x27 x28 x29 x30 x31 x32 x33 x34 x35 x36 x37 x38 x39 x40 x41 x42 x43 x44 x45 x46 x47 x48 x49 x50 x51 x52 x53 x54 x55 x56 x57 x58 x59 x60 x61 x62 x63 x64 x65 x66 x67 x68 x69 x70 x71 x72 x73 x74 x75 x76 x77 x78 x79 x80 x81 x82 x83 x84 x85 x86 x87 x88 x89 x90 x91 x92 x93 x94 x95 x96 x97 x98 x99 x100 x101 x102 x103 x104 x105 x106 x107 x108 x109 x110 x111 x112 x113 x114 x115 x116 x117 x118 x119 x120 x121 x122 x123 x124 x125 x126 x127 x128 x129 x130 x131 x132 x133 x134 x135 x136 x137 x138 : Value), ∃ H2 u2, f15_e4_8 (lvl Try.prog pk12 m) (loopN m) K x0 x1 x2 (.int .u16 joined) a4 x5 x6 x7 x8 x9 (.pointer (some ⟨rb, 0, none⟩)) (.pointer (some ⟨b, 0, none⟩)) x12 x13 x14 x15 (.int .i64 ((v + 1) * n : Nat)) (.int .i64 (v : Nat)) u x19 x20 x21 x22 x23 x24 x25 x26 x27 x28 x29 x30 x31 x32 x33 x34 x35 x36 x37 x38 x39 x40 x41 x42 x43 x44 x45 x46 x47 x48 x49 x50 x51 x52 x53 x54 x55 x56 x57 x58 x59 x60 x61 x62 x63 x64 x65 x66 x67 x68 x69 x70 x71 x72 x73 x74 x75 x76 x77 x78 x79 x80 x81 x82 x83 x84 x85 x86 x87 x88 x89 x90 x91 x92 x93 x94 x95 x96 x97 x98 x99 x100 x101 x102 x103 x104 x105 x106 x107 x108 x109 x110 x111 x112 x113 x114 x115 x116 x117 x118 x119 x120 x121 x122 x123 x124 x125 x126 x127 x128 x129 x130 x131 x132 x133 x134 x135 x136 x137 x138 H' = some (u2, H2) ∧ Q H2 u2) : ∀ (q i k : Nat) (H1 : Heap) (acc : Value), n - i = q → i ≤ n → q < k → Ext H0 H1 → Iw H1 acc ((List.range i).map fun w => ((nxt n next (v * n + w) w : Nat) : Int)) → New H0 acc → ∀ (x0 x1 x2 x5 x6 x7 x8 x9 x12 x13 x14 x15 x20 x21 x22 x23 x24 x25 x26 x27 x28 x29 x30 x31 x32 x33 x34 x35 x36 x37 x38 x39 x40 x41 x42 x43 x44 x45 x46 x47 x48 x49 x50 x51 x52 x53 x54 x55 x56 x57 x58 x59 x60 x61 x62 x63 x64 x65 x66 x67 x68 x69 x70 x71 x72 x73 x74 x75 x76 x77 x78 x79 x80 x81 x82 x83 x84 x85 x86 x87 x88 x89 x90 x91 x92 x93 x94 x95 x96 x97 x98 x99 x100 x101 x102 x103 x104 x105 x106 x107 x108 x109 x110 x111 x112 x113 x114 x115 x116 x117 x118 x119 x120 x121 x122 x123 x124 x125 x126 x127 x128 x129 x130 x131 x132 x133 x134 x135 x136 x137 x138 : Value),
    ∃ H2 u2, loopN k (runCode Try.prog (lvl Try.prog pk12 m) (loopN m) f15_c4) (f15_k4 (lvl Try.prog pk12 m) (loopN m) K) [x0, x1, x2, (.int .u16 joined), a4, x5, x6, x7, x8, x9, (.pointer (some ⟨rb, 0, none⟩)), (.pointer (some ⟨b, 0, none⟩)), x12, x13, x14, x15, (.int .i64 (v * n + i : Nat)), (.int .i64 (v : Nat)), acc, (.int .i64 (i : Nat)), x20, x21, x22, x23, x24, x25, x26, x27, x28, x29, x30, x31, x32, x33, x34, x35, x36, x37, x38, x39, x40, x41, x42, x43, x44, x45, x46, x47, x48, x49, x50, x51, x52, x53, x54, x55, x56, x57, x58, x59, x60, x61, x62, x63, x64, x65, x66, x67, x68, x69, x70, x71, x72, x73, x74, x75, x76, x77, x78, x79, x80, x81, x82, x83, x84, x85, x86, x87, x88, x89, x90, x91, x92, x93, x94, x95, x96, x97, x98, x99, x100, x101, x102, x103, x104, x105, x106, x107, x108, x109, x110, x111, x112, x113, x114, x115, x116, x117, x118, x119, x120, x121, x122, x123, x124, x125, x126, x127, x128, x129, x130, x131, x132, x133, x134, x135, x136, x137, x138] H1 = some (u2, H2) ∧ Q H2 u2 := by
  intro q

  induction q with
  | zero =>
    intro i k H1 acc hr hi hk he ha hnew
    intros
    obtain ⟨k, rfl⟩ : ∃ n, k = n + 1 := ⟨k - 1, by omega⟩
    obtain rfl : n = i := by omega
    have e : decide (((n : Nat) : Int) < (n : Nat)) = false := by simp
    have l0 := ld_pl (ld_of hb he) 0 _ rfl
    rw [hpn] at l0
    rw [loop_succ, f15_b4_eq]
    unfold f15_b4
    simp -implicitDefEqProofs only [r_opt, r_ret, ob_some, ifB_true, iteV_true, iteV_false, r_gdt, r_gdt2, r_gdtf, r_gdtf2, r_gdff, r_gdff2, r_gdft, r_gdft2, r_gdu, r_gdu2, pick_t, pick_f, ext_0, ext_1, x_newB, r_nil, r_fAddr, Nat.zero_add, b_lss, b_leq, b_gtr, b_geq, b_eql, b_neq, u_not, Bool.not_true, Bool.not_false, oneOf_one, oneOf_two, again_normal, again_exit, again_ret, Bool.and_true, l0, e]
    rw [f15_e4_8_eq]
    have hk : v * n + n = (v + 1) * n := by rw [Nat.succ_mul]
    rw [hk]
    exact hK H1 acc he ha hnew ..
  | succ q ih =>
    intro i k H1 acc hr hi hk he ha hnew
    intros
    obtain ⟨k, rfl⟩ : ∃ n, k = n + 1 := ⟨k - 1, by omega⟩
    have e : decide ((i : Int) < (n : Nat)) = true := decide_eq_true (by omega)
    have e3 : IntKind.i64.wrap ((i : Int) + 1) = ((i + 1 : Nat) : Int) := by rw [wrap_i64 (by omega) (by omega)]; omega
    have l0 := ld_pl (ld_of hb he) 0 _ rfl
    rw [hpn] at l0
    have hlen := (hnx.ext he).len
    have hvn : v * n + i < 42 := by
      have : v * n ≤ 5 * n := Nat.mul_le_mul_right _ (by omega)
      omega
    have e4 : IntKind.i64.wrap (((v * n + i : Nat) : Int) + 1) = ((v * n + (i + 1) : Nat) : Int) := by rw [wrap_i64 (by omega) (by omega)]; omega
    have hrange : (List.range (i + 1)).map (fun w => ((nxt n next (v * n + w) w : Nat) : Int)) = (List.range i).map (fun w => ((nxt n next (v * n + w) w : Nat) : Int)) ++ [((nxt n next (v * n + i) i : Nat) : Int)] := by rw [List.range_succ, List.map_append]; rfl
    obtain ⟨acc2, H2, t1, t2, t3, t4⟩ := ha.push1 (by' := 8) inC_len inC_all (by decide) ((nxt n next (v * n + i) i : Nat) : Int) hnew he (roomy_mono (n := 1000) (by decide) (by simp; omega))
    rw [← hrange] at t2
    rw [loop_succ, f15_b4_eq]
    unfold f15_b4
    by_cases c : v * n + i < next.length
    · have d : decide (((v * n + i : Nat) : Int) < next.length) = true := decide_eq_true (by omega)
      have hx : next[v * n + i]? = some next[v * n + i] := List.getElem?_eq_getElem c
      obtain ⟨bb, oo, g1, g2, g3⟩ := (hnx.ext he).at_ u8C_len hx .i64
      have l1 : ld1 (.pointer (some ⟨bb, oo, none⟩)) H1 = some (.int .u8 (next[v * n + i] : Nat), H1) := (g3 H1 rfl).2.1 0 _ rfl
      have hx8 := hu8 _ (List.getElem_mem c)
      have r4 := remU next[v * n + i] 4 4 rfl (by omega)
      by_cases c4 : next[v * n + i] % 4 = 0
      · have d4 : (((next[v * n + i] % 4 : Nat) : Int) == 0) = true := by rw [c4]; rfl
        have q4 := quoU next[v * n + i] 4 4 rfl (by omega) hx8
        have hcv := fun H => cvU H (next[v * n + i] / 4) (by omega)
        have rn := remI (next[v * n + i] / 4) n n rfl (by omega)
        have hval : nxt n next (v * n + i) i = next[v * n + i] / 4 % n := by unfold nxt; rw [hx]; simp only; rw [if_pos c4]
        rw [hval] at t1
        simp -implicitDefEqProofs only [r_opt, r_ret, ob_some, ifB_true, iteV_true, iteV_false, r_gdt, r_gdt2, r_gdtf, r_gdtf2, r_gdff, r_gdff2, r_gdft, r_gdft2, r_gdu, r_gdu2, pick_t, pick_f, ext_0, ext_1, x_newB, r_nil, r_fAddr, Nat.zero_add, b_lss, b_leq, b_gtr, b_geq, b_eql, b_neq, u_not, Bool.not_true, Bool.not_false, oneOf_one, oneOf_two, again_normal, again_exit, again_ret, Bool.and_true, l0, e, hlen, d, g1, l1, r4, d4, q4, hcv, rn, bldI, t1, b_add, e4, e3]
        exact ih (i + 1) k H2 acc2 (by omega) (by omega) (by omega) t4 t2 t3 ..
      · have d4 : (((next[v * n + i] % 4 : Nat) : Int) == 0) = false := by simpa using fun h => c4 (by omega)
        have hval : nxt n next (v * n + i) i = i := by unfold nxt; rw [hx]; simp only; rw [if_neg c4]
        rw [hval] at t1
        simp -implicitDefEqProofs only [r_opt, r_ret, ob_some, ifB_true, iteV_true, iteV_false, r_gdt, r_gdt2, r_gdtf, r_gdtf2, r_gdff, r_gdff2, r_gdft, r_gdft2, r_gdu, r_gdu2, pick_t, pick_f, ext_0, ext_1, x_newB, r_nil, r_fAddr, Nat.zero_add, b_lss, b_leq, b_gtr, b_geq, b_eql, b_neq, u_not, Bool.not_true, Bool.not_false, oneOf_one, oneOf_two, again_normal, again_exit, again_ret, Bool.and_true, l0, e, hlen, d, g1, l1, r4, d4, bldI, t1, b_add, e4, e3]
        exact ih (i + 1) k H2 acc2 (by omega) (by omega) (by omega) t4 t2 t3 ..
    · have d : decide (((v * n + i : Nat) : Int) < next.length) = false := decide_eq_false (by omega)
      have hval : nxt n next (v * n + i) i = i := by unfold nxt; rw [List.getElem?_eq_none (by omega)]
      rw [hval] at t1
      simp -implicitDefEqProofs only [r_opt, r_ret, ob_some, ifB_true, iteV_true, iteV_false, r_gdt, r_gdt2, r_gdtf, r_gdtf2, r_gdff, r_gdff2, r_gdft, r_gdft2, r_gdu, r_gdu2, pick_t, pick_f, ext_0, ext_1, x_newB, r_nil, r_fAddr, Nat.zero_add, b_lss, b_leq, b_gtr, b_geq, b_eql, b_neq, u_not, Bool.not_true, Bool.not_false, oneOf_one, oneOf_two, again_normal, again_exit, again_ret, Bool.and_true, l0, e, hlen, d, bldI, t1, b_add, e4, e3]
      exact ih (i + 1) k H2 acc2 (by omega) (by omega) (by omega) t4 t2 t3 ..

/-! ### the state of Make -/
def SV := {u : Value // allCells [u] = true ∧ u.cells = #[u]}
def sC (u : SV) : List Value := [u.1]
theorem sC_len (u : SV) : (sC u).length = 1 := rfl
theorem sC_all (u : SV) : allCells (sC u) = true := u.2.1
theorem sC_map : ∀ us : List SV, (us.map sC) = (us.map (·.1)).map vC
  | [] => rfl
  | u :: us => by rw [List.map_cons, List.map_cons, List.map_cons, sC_map us]; rfl

/-- rows that may grow, each with memory of its own -/
structure RowsI (H : Heap) (v : Value) (xss : List (List Int)) (us : List SV) : Prop where
  row : Rw sC 24 1 H v us
  len : us.length = xss.length
  el : ∀ (j : Nat) (u : SV) (xs : List Int), us[j]? = some u → xss[j]? = some xs → Iw H u.1 xs
  ap : ∀ (j j' : Nat) (u u' : SV), j < j' → us[j]? = some u → us[j']? = some u' → ∀ b, home u.1 b → home u'.1 b → False
def RowsW (H : Heap) (v : Value) (xss : List (List Int)) : Prop := ∃ us, RowsI H v xss us

theorem RowsI.keep {H' : Heap} {v : Value} {xss : List (List Int)} {us : List SV} (h : RowsI H v xss us) (h1 : ∀ b, home v b → H'[b]? = H[b]?) (h2 : ∀ u ∈ us, ∀ b, home u.1 b → H'[b]? = H[b]?) : RowsI H' v xss us :=
  ⟨h.row.keep h1, h.len, fun j u xs hu hx => (h.el j u xs hu hx).keep fun b hb => h2 u (List.mem_of_getElem? hu) b hb, h.ap⟩
theorem RowsI.lt {v : Value} {xss : List (List Int)} {us : List SV} (h : RowsI H v xss us) {u : SV} (hu : u ∈ us) {b : Nat} (hb : home u.1 b) : b < H.length := by
  obtain ⟨j, hj⟩ := List.getElem?_of_mem hu
  have := (List.getElem?_eq_some_iff.mp hj).1
  exact (h.el j u _ hj (List.getElem?_eq_getElem (by rw [← h.len]; exact this))).lt hb
theorem RowsI.blk {v : Value} {xss : List (List Int)} {us : List SV} (h : RowsI H v xss us) {u : SV} (hu : u ∈ us) {b : Nat} (hb : home u.1 b) : ∃ cs, H[b]? = some (.cells cs 3 .row) := by
  obtain ⟨j, hj⟩ := List.getElem?_of_mem hu
  have := (List.getElem?_eq_some_iff.mp hj).1
  exact (h.el j u _ hj (List.getElem?_eq_getElem (by rw [← h.len]; exact this))).blk hb
theorem RowsW.ext {H' : Heap} {v : Value} {xss : List (List Int)} (h : RowsW H v xss) (he : Ext H H') : RowsW H' v xss := by
  obtain ⟨us, hi⟩ := h
  exact ⟨us, hi.keep (fun b hb => he.2 b (hi.row.lt hb) id) fun u hu b hb => he.2 b (hi.lt hu hb) id⟩
theorem RowsW.rows {v : Value} {xss : List (List Int)} (h : RowsW H v xss) : Rows H v xss := by
  obtain ⟨us, hi⟩ := h
  refine ⟨us.map (·.1), ?_, by rw [List.length_map, hi.len], fun j u xs hu hx => ?_⟩
  · have := hi.row.rs
    unfold Rs at this ⊢
    rw [List.length_map, ← sC_map]
    rcases this with ⟨h1, h2⟩ | ⟨b, o, cap, h1, h2, h3⟩
    · exact .inl ⟨h1, by rw [h2]; rfl⟩
    · exact .inr ⟨b, o, cap, h1, h2, fun hne => h3 fun hh => hne (by rw [hh]; rfl)⟩
  · rw [List.getElem?_map] at hu
    cases hj : us[j]? with
    | none => rw [hj] at hu; cases hu
    | some u' =>
      rw [hj] at hu
      cases hu
      exact (hi.el j u' xs hj hx).rs

structure MS (H0 H1 : Heap) (pb rb : Nat) (zs : List Value) (p : PlanD) (ev wv nv : Value) (E : List Ed) (W : List Int) : Prop where
  ext : Ext H0 H1
  hb : H1[pb]? = some (plB p ev wv nv)
  hr : H1[rb]? = some (.cells zs 27 .fix)
  e : Ew H1 ev E
  en : New H0 ev
  w : Iw H1 wv W
  wn : New H0 wv
  ne : rb ≠ pb
  lp : H0.length ≤ pb
  lr : H0.length ≤ rb
  zl : zs.length = 11

theorem MS.on {H0 H1 H2 : Heap} {pb rb : Nat} {zs : List Value} {E : List Ed} {W : List Int} (h : MS H0 H1 pb rb zs p ev wv nv E W) (he : Ext H1 H2) : MS H0 H2 pb rb zs p ev wv nv E W :=
  ⟨h.ext.tr he, ld_of h.hb he, ld_of h.hr he, h.e.keep fun b hb => he.2 b (h.e.lt hb) id, h.en, h.w.keep fun b hb => he.2 b (h.w.lt hb) id, h.wn, h.ne, h.lp, h.lr, h.zl⟩

/-- the end: the plan is handed out -/
theorem make_out {H0 H1 : Heap} {pb rb : Nat} {zs : List Value} {E : List Ed} {W : List Int} {N : List (List Int)} (h : MS H0 H1 pb rb zs p ev wv nv E W) (hn : RowsW H1 nv N) {Q : Heap → Value → Prop} (hQ : ∀ H2, Ext H0 H2 → Ew H2 ev E → Iw H2 wv W → RowsW H2 nv N → Q H2 (plV p ev wv nv)) (x0 x1 x2 x3 x4 x5 x6 x7 x8 x9 x12 x13 x14 x15 x16 x17 x18 x19 x20 x21 x22 x23 x24 x25 x26 x27 x28 x29 x30 x31 x32 x33 x34 x35 x36 x37 x38 x39 x40 x41 x42 x43 x44 x45 x46 x47 x48 x49 x50 x51 x52 x53 x54 x55 x56 x57 x58 x59 x60 x61 x62 x63 x64 x65 x66 x67 x68 x69 x70 x71 x72 x73 x74 x75 x76 x77 x78 x79 x80 x81 x82 x83 x84 x85 x86 x87 x88 x89 x90 x91 x92 x93 x94 x95 x96 x97 x98 x99 x100 x101 x102 x103 x104 x105 x106 x107 x108 x109 x110 x111 x112 x113 x114 x115 x116 x117 x118 x119 x120 x121 x122 x123 x124 x125 x126 x127 x128 x129 x130 x131 x132 x133 x134 x135 x136 x137 x138 : Value) :
    ∃ H2 u2, f15_e3_6 (lvl Try.prog pk12 m) (loopN m) x0 x1 x2 x3 x4 x5 x6 x7 x8 x9 (.pointer (some ⟨rb, 0, none⟩)) (.pointer (some ⟨pb, 0, none⟩)) x12 x13 x14 x15 x16 x17 x18 x19 x20 x21 x22 x23 x24 x25 x26 x27 x28 x29 x30 x31 x32 x33 x34 x35 x36 x37 x38 x39 x40 x41 x42 x43 x44 x45 x46 x47 x48 x49 x50 x51 x52 x53 x54 x55 x56 x57 x58 x59 x60 x61 x62 x63 x64 x65 x66 x67 x68 x69 x70 x71 x72 x73 x74 x75 x76 x77 x78 x79 x80 x81 x82 x83 x84 x85 x86 x87 x88 x89 x90 x91 x92 x93 x94 x95 x96 x97 x98 x99 x100 x101 x102 x103 x104 x105 x106 x107 x108 x109 x110 x111 x112 x113 x114 x115 x116 x117 x118 x119 x120 x121 x122 x123 x124 x125 x126 x127 x128 x129 x130 x131 x132 x133 x134 x135 x136 x137 x138 H1 = some (u2, H2) ∧ Q H2 u2 := by
  have l11 := ld_pl11 h.hb
  have hrl := (List.getElem?_eq_some_iff.mp h.hr).1
  obtain ⟨a1, a2⟩ := Rw.shape h.e
  obtain ⟨b1, b2⟩ := Rw.shape h.w
  obtain ⟨us, hi⟩ := hn
  obtain ⟨c1, c2⟩ := Rw.shape hi.row
  have hall : allCells (plC p ev wv nv) = true := by
    have e1 : ∀ (v : Value) (vs : List Value), allCells [v] = true → allCells (v :: vs) = allCells vs := fun v vs h => by
      simp only [allCells, List.all_cons, List.all_nil, Bool.and_true] at h ⊢
      rw [h, Bool.true_and]
    simp only [plC, all_int, e1 _ _ a2, e1 _ _ b2, e1 _ _ c2, all_nil]
  have st : stN 11 (.pointer (some ⟨rb, 0, none⟩)) (plV p ev wv nv) H1 = some (undef, H1.set rb (plB p ev wv nv)) := by
    have e1 : (plV p ev wv nv).cells.toList = plC p ev wv nv := rfl
    rw [x_stN 11 _ _ _ rfl, h.hr, e1, x_stC _ _ _ _ _ _ (by decide) (by rw [h.zl]; simp [plC]) hall]
    have hs : setCells zs 0 (plC p ev wv nv) = plC p ev wv nv := by
      match zs, h.zl with
      | [z1, z2, z3, z4, z5, z6, z7, z8, z9, z10, z11], _ => rfl
    rw [hs]
    rfl
  have hb2 : (H1.set rb (plB p ev wv nv))[rb]? = some (plB p ev wv nv) := List.getElem?_set_self hrl
  have l2 := ld_pl11 hb2
  have kp : ∀ (b : Nat) (cs : List Value) (e : TypeId), H1[b]? = some (.cells cs e .row) → (H1.set rb (plB p ev wv nv))[b]? = H1[b]? := fun b cs e hb => by
    refine List.getElem?_set_ne fun hh => ?_
    subst hh
    rw [h.hr] at hb
    simp at hb
  refine ⟨H1.set rb (plB p ev wv nv), plV p ev wv nv, ?_, hQ _ ⟨by rw [List.length_set]; exact h.ext.1, fun b hb _ => ?_⟩ (h.e.keep fun b hb => ?_) (h.w.keep fun b hb => ?_) ⟨us, hi.keep (fun b hb => ?_) fun u hu b hb => ?_⟩⟩
  · unfold f15_e3_6
    simp -implicitDefEqProofs only [r_opt, r_ret, ob_some, ifB_true, iteV_true, iteV_false, r_gdt, r_gdt2, r_gdtf, r_gdtf2, r_gdff, r_gdff2, r_gdft, r_gdft2, r_gdu, r_gdu2, pick_t, pick_f, ext_0, ext_1, x_newB, r_nil, r_fAddr, Nat.zero_add, b_lss, b_leq, b_gtr, b_geq, b_eql, b_neq, u_not, Bool.not_true, Bool.not_false, oneOf_one, oneOf_two, again_normal, again_exit, again_ret, Bool.and_true, l11, st, l2]
  · rw [List.getElem?_set_ne (by have := h.lr; omega), h.ext.2 b hb id]
  · obtain ⟨cs, hc⟩ := h.e.blk hb
    exact kp b cs _ hc
  · obtain ⟨cs, hc⟩ := h.w.blk hb
    exact kp b cs _ hc
  · obtain ⟨cs, hc⟩ := hi.row.blk hb
    exact kp b cs _ hc
  · obtain ⟨cs, hc⟩ := hi.blk hu hb
    exact kp b cs _ hc

/-- what Make hands out -/
def Made (H0 : Heap) (p : PlanD) (H2 : Heap) (u : Value) : Prop := ∃ ev wv nv, u = plV p ev wv nv ∧ Ext H0 H2 ∧ Ew H2 ev p.edges ∧ Iw H2 wv p.weights ∧ RowsW H2 nv p.next

theorem make_rows {H0 : Heap} {pb rb n joined : Nat} {a4 : Value} {next : List Nat} {zs : List Value} (hn6 : n ≤ 6) (hnx : Us H0 a4 next) (hu8 : ∀ x ∈ next, x < 256) (hnl : next.length ≤ 72057594037927936) (hpn : p.nodes = (n : Int)) (hm : 50 < m) (hpx : p.next = (List.range n).map (mkRow n next)) : ∀ (q i k : Nat) (H1 : Heap) (nv1 : Value), n - i = q → i ≤ n → q < k → MS H0 H1 pb rb zs p ev wv nv1 p.edges p.weights → RowsW H1 nv1 ((List.range i).map (mkRow n next)) → New H0 nv1 → ∀ (x0 x1 x2 x5 x6 x7 x8 x9 x12 x13 x14 x15 x18 x19 x20 x21 x22 x23 x24 x25 x26 x27 x28 x29 x30 x31 x32 x33 x34 x35 x36 x37 x38 x39 x40 x41 x42 x43 x44 x45 x46 x47 x48 x49 x50 x51 x52 x53 x54 x55 x56 x57 x58 x59 x60 x61 x62 x63 x64 x65 x66 x67 x68 x69 x70 x71 x72 x73 x74 x75 x76 x77 x78 x79 x80 x81 x82 x83 x84 x85 x86 x87 x88 x89 x90 x91 x92 x93 x94 x95 x96 x97 x98 x99 x100 x101 x102 x103 x104 x105 x106 x107 x108 x109 x110 x111 x112 x113 x114 x115 x116 x117 x118 x119 x120 x121 x122 x123 x124 x125 x126 x127 x128 x129 x130 x131 x132 x133 x134 x135 x136 x137 x138 : Value),
    ∃ H2 u2, loopN k (runCode Try.prog (lvl Try.prog pk12 m) (loopN m) f15_c3) (f15_k3 (lvl Try.prog pk12 m) (loopN m)) [x0, x1, x2, (.int .u16 joined), a4, x5, x6, x7, x8, x9, (.pointer (some ⟨rb, 0, none⟩)), (.pointer (some ⟨pb, 0, none⟩)), x12, x13, x14, x15, (.int .i64 (i * n : Nat)), (.int .i64 (i : Nat)), x18, x19, x20, x21, x22, x23, x24, x25, x26, x27, x28, x29, x30, x31, x32, x33, x34, x35, x36, x37, x38, x39, x40, x41, x42, x43, x44, x45, x46, x47, x48, x49, x50, x51, x52, x53, x54, x55, x56, x57, x58, x59, x60, x61, x62, x63, x64, x65, x66, x67, x68, x69, x70, x71, x72, x73, x74, x75, x76, x77, x78, x79, x80, x81, x82, x83, x84, x85, x86, x87, x88, x89, x90, x91, x92, x93, x94, x95, x96, x97, x98, x99, x100, x101, x102, x103, x104, x105, x106, x107, x108, x109, x110, x111, x112, x113, x114, x115, x116, x117, x118, x119, x120, x121, x122, x123, x124, x125, x126, x127, x128, x129, x130, x131, x132, x133, x134, x135, x136, x137, x138] H1 = some (u2, H2) ∧ Made H0 p H2 u2 := by
  intro q

  induction q with
  | zero =>
    intro i k H1 nv1 hr hi hk hM hR hnew
    intros
    obtain ⟨k, rfl⟩ : ∃ n, k = n + 1 := ⟨k - 1, by omega⟩
    obtain rfl : n = i := by omega
    have e : decide (((n : Nat) : Int) < (n : Nat)) = false := by simp
    have l0 := ld_pl hM.hb 0 _ rfl
    rw [hpn] at l0
    rw [loop_succ, f15_b3_eq]
    unfold f15_b3
    simp -implicitDefEqProofs only [r_opt, r_ret, ob_some, ifB_true, iteV_true, iteV_false, r_gdt, r_gdt2, r_gdtf, r_gdtf2, r_gdff, r_gdff2, r_gdft, r_gdft2, r_gdu, r_gdu2, pick_t, pick_f, ext_0, ext_1, x_newB, r_nil, r_fAddr, Nat.zero_add, b_lss, b_leq, b_gtr, b_geq, b_eql, b_neq, u_not, Bool.not_true, Bool.not_false, oneOf_one, oneOf_two, again_normal, again_exit, again_ret, Bool.and_true, l0, e]
    rw [f15_e3_6_eq]
    exact make_out hM hR (fun H2 g2 g3 g4 g5 => ⟨ev, wv, nv1, rfl, g2, g3, g4, by rw [hpx]; exact g5⟩) ..
  | succ q ih =>
    intro i k H1 nv1 hr hi hk hM hR hnew
    intros
    obtain ⟨k, rfl⟩ : ∃ n, k = n + 1 := ⟨k - 1, by omega⟩
    have e : decide ((i : Int) < (n : Nat)) = true := decide_eq_true (by omega)
    have e3 : IntKind.i64.wrap ((i : Int) + 1) = ((i + 1 : Nat) : Int) := by rw [wrap_i64 (by omega) (by omega)]; omega
    have l0 := ld_pl hM.hb 0 _ rfl
    rw [hpn] at l0
    rw [loop_succ, f15_b3_eq]
    unfold f15_b3
    simp -implicitDefEqProofs only [r_opt, r_ret, ob_some, ifB_true, iteV_true, iteV_false, r_gdt, r_gdt2, r_gdtf, r_gdtf2, r_gdff, r_gdff2, r_gdft, r_gdft2, r_gdu, r_gdu2, pick_t, pick_f, ext_0, ext_1, x_newB, r_nil, r_fAddr, Nat.zero_add, b_lss, b_leq, b_gtr, b_geq, b_eql, b_neq, u_not, Bool.not_true, Bool.not_false, oneOf_one, oneOf_two, again_normal, again_exit, again_ret, Bool.and_true, l0, e]
    have hz0 : i * n = i * n + 0 := rfl
    rw [hz0]
    refine make_row (H0 := H1) (b := pb) (rb := rb) (v := i) (zs := zs) (next := next) (Q := Made H0 p) hn6 (by omega) (hnx.ext hM.ext) hu8 hnl hpn hM.hr hM.hb ?_ n 0 m H1 (.slice none 0 0) (by omega) (by omega) (by omega) (Fr.refl _ _) (Rw.nil (el := inC)) (New.nil _) ..
    intro H2 u x2 hu hun
    intros
    have hM2 := hM.on x2
    obtain ⟨us, hi1⟩ := hR
    have hi : RowsI H2 nv1 ((List.range i).map (mkRow n next)) us := hi1.keep (fun b hb => x2.2 b (hi1.row.lt hb) id) fun u hu b hb => x2.2 b (hi1.lt hu hb) id
    have l10 := ld_pl hM2.hb 10 _ rfl
    obtain ⟨s1, s2⟩ := Rw.shape hu
    have s3 : u.cells = #[u] := Array.toList_inj.mp s1
    obtain ⟨su, rfl⟩ : ∃ su : SV, su.1 = u := ⟨⟨u, s2, s3⟩, rfl⟩
    have hb1 := bld_one 24 (.slice none 0 0) su.1 s2 s3 H2
    obtain ⟨nv2, H3, H4, g1, g2, g3, g4, g5, g6, g7⟩ := push_field (by' := 24) sC_len sC_all (by decide) (j := 10) (H0 := H0) su hM2.hb (by simp [plC]) hi.row hnew hM.lp hM2.ext (roomy_mono (n := 1000) (by decide) (by have := hi.len; rw [List.length_map, List.length_range] at this; omega))
    have g1' : app 24 1 24 nv1 (.slice (some ⟨H2.length, 0, none⟩) 1 1) (H2 ++ [.cells [su.1] 24 .row]) = some (nv2, H3) := g1
    have hb4 : H4[pb]? = some (plB p ev wv nv2) := g6
    have e5 : IntKind.i64.wrap ((i : Int) + 1) = ((i + 1 : Nat) : Int) := e3
    unfold f15_e4_8
    simp -implicitDefEqProofs only [r_opt, r_ret, ob_some, ifB_true, iteV_true, iteV_false, r_gdt, r_gdt2, r_gdtf, r_gdtf2, r_gdff, r_gdff2, r_gdft, r_gdft2, r_gdu, r_gdu2, pick_t, pick_f, ext_0, ext_1, x_newB, r_nil, r_fAddr, Nat.zero_add, b_lss, b_leq, b_gtr, b_geq, b_eql, b_neq, u_not, Bool.not_true, Bool.not_false, oneOf_one, oneOf_two, again_normal, again_exit, again_ret, Bool.and_true, l10, hb1, g1', g2, b_add, e5]
    have kI : ∀ (w : Value) (xs : List Int), Iw H2 w xs → Iw H4 w xs := fun w xs hw => Rw.keepX hw g7 hM2.hb (by decide)
    refine ih (i + 1) k H4 nv2 (by omega) (by omega) (by omega) ⟨g5, hb4, g7 _ _ hM.ne (fun cs hh => by cases hh) hM2.hr, Rw.keepX hM2.e g7 hM2.hb (by decide), hM.en, kI _ _ hM2.w, hM.wn, hM.ne, hM.lp, hM.lr, hM.zl⟩ ⟨us ++ [su], g3, ?_, ?_, ?_⟩ g4 ..
    · rw [List.length_append, hi.len]
      simp
    · intro j w xs hw hxs
      rw [List.range_succ, List.map_append] at hxs
      by_cases hj : j < us.length
      · rw [List.getElem?_append_left hj] at hw
        rw [List.getElem?_append_left (by rw [← hi.len]; exact hj)] at hxs
        exact kI _ _ (hi.el j w xs hw hxs)
      · rw [List.getElem?_append_right (by omega)] at hw
        rw [List.getElem?_append_right (by rw [← hi.len]; omega), ← hi.len] at hxs
        by_cases h0 : j - us.length = 0
        · rw [h0] at hw hxs
          cases hw
          cases hxs
          exact kI _ _ hu
        · rw [List.getElem?_eq_none (by simp; omega)] at hw
          cases hw
    · intro j j' w w' hjj hw hw' bb hb1' hb2'
      by_cases hj' : j' < us.length
      · rw [List.getElem?_append_left hj'] at hw'
        rw [List.getElem?_append_left (by omega)] at hw
        exact hi.ap j j' w w' hjj hw hw' bb hb1' hb2'
      · rw [List.getElem?_append_right (by omega)] at hw'
        by_cases h0 : j' - us.length = 0
        · rw [h0] at hw'
          cases hw'
          rw [List.getElem?_append_left (by omega)] at hw
          have h1 := hi1.lt (List.mem_of_getElem? hw) hb1'
          have h2 := hun bb hb2'
          omega
        · rw [List.getElem?_eq_none (by simp; omega)] at hw'
          cases hw' 

/-! ### edges -/
theorem selE_snoc (a b : Nat) : ∀ (L : List (Nat × Nat)) (bit : Nat), selE bit (L ++ [(a, b)]) = selE bit L ++ (if bit / 2 ^ L.length % 2 = 1 then [((a : Int), (b : Int))] else [])
  | [], bit => by
    simp only [List.nil_append, selE, List.length_nil, Nat.pow_zero, Nat.div_one]
  | (c, d) :: L, bit => by
    have ih := selE_snoc a b L (bit / 2)
    have hp : bit / 2 / 2 ^ L.length = bit / 2 ^ (L.length + 1) := by rw [Nat.div_div_eq_div_mul, Nat.pow_succ, Nat.mul_comm]
    rw [hp] at ih
    simp only [List.cons_append, selE, List.length_cons, ih]
    by_cases h : bit % 2 = 1
    · rw [if_pos h, if_pos h]; rfl
    · rw [if_neg h, if_neg h]
theorem selE_len : ∀ (L : List (Nat × Nat)) (bit : Nat), (selE bit L).length ≤ L.length
  | [], _ => Nat.le_refl _
  | (c, d) :: L, bit => by
    have ih := selE_len L (bit / 2)
    unfold selE
    split
    · simp only [List.length_cons]; omega
    · simp only [List.length_cons]; omega
theorem prs_succ (n : Nat) : prs (n + 1) = prs n ++ (List.range n).map fun a => (a, n) := by
  unfold prs
  rw [List.range_succ, List.flatMap_append]
  simp
theorem prs_len : ∀ n, (prs n).length ≤ n * n
  | 0 => by simp [prs]
  | n + 1 => by
    have := prs_len n
    rw [prs_succ, List.length_append, List.length_map, List.length_range]
    have e : (n + 1) * (n + 1) = n * n + n + n + 1 := by rw [Nat.succ_mul, Nat.mul_succ]; omega
    omega
theorem halve (bit k : Nat) : bit / 2 ^ k / 2 = bit / 2 ^ (k + 1) := by rw [Nat.div_div_eq_div_mul, Nat.pow_succ]

theorem make_a {H0 : Heap} {pb rb B joined : Nat} {a4 : Value} {zs : List Value} {Wt : List Int} (hB : B ≤ 6) (hj : joined < 65536) {Q : Heap → Value → Prop} {K : Ex → K (Value × Heap)}
    (hK : ∀ (H' : Heap) (ev' : Value), MS H0 H' pb rb zs p ev' wv nv (selE joined (prs (B + 1))) Wt → ∀ (x0 x1 x2 x5 x6 x7 x8 x9 x12 x15 x16 x17 x18 x19 x20 x21 x22 x23 x24 x25 x26 x27 x28 x29 x30 x31 x32 x33 x34 x35 x36 x37 x38 x39 x40 x41 x42 x43 x44 x45 x46 x47 x48 x49 x50 x51 x52 x53 x54 x55 x56 x57 x58 x59 x60 x61 x62 x63 x64 x65 x66 x67 x68 x69 x70 x71 x72 x73 x74 x75 x76 x77 x78 x79 x80 x81 x82 x83 x84 x85 x86 x87 x88 x89 x90 x91 x92 x93 x94 x95 x96 x97 x98 x99 x100 x101 x102 x103 x104 x105 x106 x107 x108 x109 x110 x111 x112 x113 x114 x115 x116 x117 x118 x119 x120 x121 x122 x123 x124 x125 x126 x127 x128 x129 x130 x131 x132 x133 x134 x135 x136 x137 x138 : Value), ∃ H2 u2, K .normal [x0, x1, x2, (.int .u16 joined), a4, x5, x6, x7, x8, x9, (.pointer (some ⟨rb, 0, none⟩)), (.pointer (some ⟨pb, 0, none⟩)), x12, (.int .u16 (joined / 2 ^ (prs (B + 1)).length : Nat)), (.int .i64 (IntKind.i64.wrap ((B : Int) + 1))), x15, x16, x17, x18, x19, x20, x21, x22, x23, x24, x25, x26, x27, x28, x29, x30, x31, x32, x33, x34, x35, x36, x37, x38, x39, x40, x41, x42, x43, x44, x45, x46, x47, x48, x49, x50, x51, x52, x53, x54, x55, x56, x57, x58, x59, x60, x61, x62, x63, x64, x65, x66, x67, x68, x69, x70, x71, x72, x73, x74, x75, x76, x77, x78, x79, x80, x81, x82, x83, x84, x85, x86, x87, x88, x89, x90, x91, x92, x93, x94, x95, x96, x97, x98, x99, x100, x101, x102, x103, x104, x105, x106, x107, x108, x109, x110, x111, x112, x113, x114, x115, x116, x117, x118, x119, x120, x121, x122, x123, x124, x125, x126, x127, x128, x129, x130, x131, x132, x133, x134, x135, x136, x137, x138] H' = some (u2, H2) ∧ Q H2 u2) : ∀ (q i k : Nat) (H1 : Heap) (ev1 : Value), B - i = q → i ≤ B → q < k → MS H0 H1 pb rb zs p ev1 wv nv (selE joined (prs B ++ (List.range i).map fun a => (a, B))) Wt → ∀ (x0 x1 x2 x5 x6 x7 x8 x9 x12 x16 x17 x18 x19 x20 x21 x22 x23 x24 x25 x26 x27 x28 x29 x30 x31 x32 x33 x34 x35 x36 x37 x38 x39 x40 x41 x42 x43 x44 x45 x46 x47 x48 x49 x50 x51 x52 x53 x54 x55 x56 x57 x58 x59 x60 x61 x62 x63 x64 x65 x66 x67 x68 x69 x70 x71 x72 x73 x74 x75 x76 x77 x78 x79 x80 x81 x82 x83 x84 x85 x86 x87 x88 x89 x90 x91 x92 x93 x94 x95 x96 x97 x98 x99 x100 x101 x102 x103 x104 x105 x106 x107 x108 x109 x110 x111 x112 x113 x114 x115 x116 x117 x118 x119 x120 x121 x122 x123 x124 x125 x126 x127 x128 x129 x130 x131 x132 x133 x134 x135 x136 x137 x138 : Value),
    ∃ H2 u2, loopN k (runCode Try.prog (lvl Try.prog pk12 m) (loopN m) f15_c2) (f15_k2 (lvl Try.prog pk12 m) (loopN m) K) [x0, x1, x2, (.int .u16 joined), a4, x5, x6, x7, x8, x9, (.pointer (some ⟨rb, 0, none⟩)), (.pointer (some ⟨pb, 0, none⟩)), x12, (.int .u16 (joined / 2 ^ ((prs B).length + i) : Nat)), (.int .i64 (B : Nat)), (.int .i64 (i : Nat)), x16, x17, x18, x19, x20, x21, x22, x23, x24, x25, x26, x27, x28, x29, x30, x31, x32, x33, x34, x35, x36, x37, x38, x39, x40, x41, x42, x43, x44, x45, x46, x47, x48, x49, x50, x51, x52, x53, x54, x55, x56, x57, x58, x59, x60, x61, x62, x63, x64, x65, x66, x67, x68, x69, x70, x71, x72, x73, x74, x75, x76, x77, x78, x79, x80, x81, x82, x83, x84, x85, x86, x87, x88, x89, x90, x91, x92, x93, x94, x95, x96, x97, x98, x99, x100, x101, x102, x103, x104, x105, x106, x107, x108, x109, x110, x111, x112, x113, x114, x115, x116, x117, x118, x119, x120, x121, x122, x123, x124, x125, x126, x127, x128, x129, x130, x131, x132, x133, x134, x135, x136, x137, x138] H1 = some (u2, H2) ∧ Q H2 u2 := by
  intro q

  induction q with
  | zero =>
    intro i k H1 ev1 hr hi hk hM
    intros
    obtain ⟨k, rfl⟩ : ∃ n, k = n + 1 := ⟨k - 1, by omega⟩
    obtain rfl : B = i := by omega
    have e : decide (((B : Nat) : Int) < (B : Nat)) = false := by simp
    rw [← prs_succ] at hM
    have hl : (prs B).length + B = (prs (B + 1)).length := by rw [prs_succ, List.length_append, List.length_map, List.length_range]
    rw [hl]
    rw [loop_succ, f15_b2_eq]
    unfold f15_b2
    simp -implicitDefEqProofs only [r_opt, r_ret, ob_some, ifB_true, iteV_true, iteV_false, r_gdt, r_gdt2, r_gdtf, r_gdtf2, r_gdff, r_gdff2, r_gdft, r_gdft2, r_gdu, r_gdu2, pick_t, pick_f, ext_0, ext_1, x_newB, r_nil, r_fAddr, Nat.zero_add, b_lss, b_leq, b_gtr, b_geq, b_eql, b_neq, u_not, Bool.not_true, Bool.not_false, oneOf_one, oneOf_two, again_normal, again_exit, again_ret, Bool.and_true, e]
    rw [f15_e2_4_eq]
    unfold f15_e2_4
    simp -implicitDefEqProofs only [r_opt, r_ret, ob_some, ifB_true, iteV_true, iteV_false, r_gdt, r_gdt2, r_gdtf, r_gdtf2, r_gdff, r_gdff2, r_gdft, r_gdft2, r_gdu, r_gdu2, pick_t, pick_f, ext_0, ext_1, x_newB, r_nil, r_fAddr, Nat.zero_add, b_lss, b_leq, b_gtr, b_geq, b_eql, b_neq, u_not, Bool.not_true, Bool.not_false, oneOf_one, oneOf_two, again_normal, again_exit, again_ret, Bool.and_true, b_add]
    exact hK H1 ev1 hM ..
  | succ q ih =>
    intro i k H1 ev1 hr hi hk hM
    intros
    obtain ⟨k, rfl⟩ : ∃ n, k = n + 1 := ⟨k - 1, by omega⟩
    have e : decide ((i : Int) < (B : Nat)) = true := decide_eq_true (by omega)
    have e3 : IntKind.i64.wrap ((i : Int) + 1) = ((i + 1 : Nat) : Int) := by rw [wrap_i64 (by omega) (by omega)]; omega
    have hpl := prs_len B
    have hpl2 : B * B ≤ 36 := Nat.mul_le_mul hB hB
    have hbit : joined / 2 ^ ((prs B).length + i) < 65536 := Nat.lt_of_le_of_lt (Nat.div_le_self _ _) hj
    have r2 := rem16 (joined / 2 ^ ((prs B).length + i)) 2 2 rfl (by omega)
    have q2 := quo16 (joined / 2 ^ ((prs B).length + i)) 2 2 rfl (by omega) hbit
    rw [halve, Nat.add_assoc] at q2
    have l1 := ld_pl hM.hb 1 _ rfl
    have hlen : (prs B ++ (List.range i).map fun a => (a, B)).length = (prs B).length + i := by rw [List.length_append, List.length_map, List.length_range]
    have hsn := selE_snoc i B (prs B ++ (List.range i).map fun a => (a, B)) joined
    rw [hlen] at hsn
    have hap : prs B ++ (List.range (i + 1)).map (fun a => (a, B)) = (prs B ++ (List.range i).map fun a => (a, B)) ++ [(i, B)] := by rw [List.range_succ, List.map_append, List.append_assoc]; rfl
    have hsl := selE_len (prs B ++ (List.range i).map fun a => (a, B)) joined
    rw [hlen] at hsl
    rw [loop_succ, f15_b2_eq]
    unfold f15_b2
    by_cases c : joined / 2 ^ ((prs B).length + i) % 2 = 1
    · have d : (((joined / 2 ^ ((prs B).length + i) % 2 : Nat) : Int) == 1) = true := by rw [c]; rfl
      rw [if_pos c] at hsn
      obtain ⟨ev2, H3, H4, g1, g2, g3, g4, g5, g6, g7⟩ := push_field (by' := 16) edC_len edC_all (by decide) (j := 1) (H0 := H0) ((i : Int), (B : Int)) hM.hb (by simp [plC]) hM.e hM.en hM.lp hM.ext (roomy_mono (n := 1000) (by decide) (by omega))
      have hb4 : H4[pb]? = some (plB p ev2 wv nv) := g6
      simp -implicitDefEqProofs only [r_opt, r_ret, ob_some, ifB_true, iteV_true, iteV_false, r_gdt, r_gdt2, r_gdtf, r_gdtf2, r_gdff, r_gdff2, r_gdft, r_gdft2, r_gdu, r_gdu2, pick_t, pick_f, ext_0, ext_1, x_newB, r_nil, r_fAddr, Nat.zero_add, b_lss, b_leq, b_gtr, b_geq, b_eql, b_neq, u_not, Bool.not_true, Bool.not_false, oneOf_one, oneOf_two, again_normal, again_exit, again_ret, Bool.and_true, e, r2, d, l1, bEd, bldEd, g1, g2, q2, b_add, e3]
      exact ih (i + 1) k H4 ev2 (by omega) (by omega) (by omega) ⟨g5, hb4, g7 _ _ hM.ne (fun cs hh => by cases hh) hM.hr, by rw [hap, hsn]; exact g3, g4, Rw.keepX hM.w g7 hM.hb (by decide), hM.wn, hM.ne, hM.lp, hM.lr, hM.zl⟩ ..
    · have d : (((joined / 2 ^ ((prs B).length + i) % 2 : Nat) : Int) == 1) = false := beq_eq_false_iff_ne.mpr (fun h => c (Int.ofNat.inj h))
      rw [if_neg c, List.append_nil] at hsn
      simp -implicitDefEqProofs only [r_opt, r_ret, ob_some, ifB_true, iteV_true, iteV_false, r_gdt, r_gdt2, r_gdtf, r_gdtf2, r_gdff, r_gdff2, r_gdft, r_gdft2, r_gdu, r_gdu2, pick_t, pick_f, ext_0, ext_1, x_newB, r_nil, r_fAddr, Nat.zero_add, b_lss, b_leq, b_gtr, b_geq, b_eql, b_neq, u_not, Bool.not_true, Bool.not_false, oneOf_one, oneOf_two, again_normal, again_exit, again_ret, Bool.and_true, e, r2, d, q2, b_add, e3]
      exact ih (i + 1) k H1 ev1 (by omega) (by omega) (by omega) (by rw [hap, hsn]; exact hM) ..
theorem make_b {H0 : Heap} {pb rb n joined : Nat} {a4 : Value} {next : List Nat} {zs : List Value} (hn6 : n ≤ 6) (hnx : Us H0 a4 next) (hu8 : ∀ x ∈ next, x < 256) (hnl : next.length ≤ 72057594037927936) (hpn : p.nodes = (n : Int)) (hm : 50 < m) (hj : joined < 65536) (hpx : p.next = (List.range n).map (mkRow n next)) (hpe : p.edges = selE joined (prs n)) (hn1 : 1 ≤ n) : ∀ (q i k : Nat) (H1 : Heap) (ev1 : Value), n - i = q → i ≤ n → q < k → 1 ≤ i → MS H0 H1 pb rb zs p ev1 wv (.slice none 0 0) (selE joined (prs i)) p.weights → ∀ (x0 x1 x2 x5 x6 x7 x8 x9 x12 x15 x16 x17 x18 x19 x20 x21 x22 x23 x24 x25 x26 x27 x28 x29 x30 x31 x32 x33 x34 x35 x36 x37 x38 x39 x40 x41 x42 x43 x44 x45 x46 x47 x48 x49 x50 x51 x52 x53 x54 x55 x56 x57 x58 x59 x60 x61 x62 x63 x64 x65 x66 x67 x68 x69 x70 x71 x72 x73 x74 x75 x76 x77 x78 x79 x80 x81 x82 x83 x84 x85 x86 x87 x88 x89 x90 x91 x92 x93 x94 x95 x96 x97 x98 x99 x100 x101 x102 x103 x104 x105 x106 x107 x108 x109 x110 x111 x112 x113 x114 x115 x116 x117 x118 x119 x120 x121 x122 x123 x124 x125 x126 x127 x128 x129 x130 x131 x132 x133 x134 x135 x136 x137 x138 : Value),
    ∃ H2 u2, loopN k (runCode Try.prog (lvl Try.prog pk12 m) (loopN m) f15_c1) (f15_k1 (lvl Try.prog pk12 m) (loopN m)) [x0, x1, x2, (.int .u16 joined), a4, x5, x6, x7, x8, x9, (.pointer (some ⟨rb, 0, none⟩)), (.pointer (some ⟨pb, 0, none⟩)), x12, (.int .u16 (joined / 2 ^ (prs i).length : Nat)), (.int .i64 (i : Nat)), x15, x16, x17, x18, x19, x20, x21, x22, x23, x24, x25, x26, x27, x28, x29, x30, x31, x32, x33, x34, x35, x36, x37, x38, x39, x40, x41, x42, x43, x44, x45, x46, x47, x48, x49, x50, x51, x52, x53, x54, x55, x56, x57, x58, x59, x60, x61, x62, x63, x64, x65, x66, x67, x68, x69, x70, x71, x72, x73, x74, x75, x76, x77, x78, x79, x80, x81, x82, x83, x84, x85, x86, x87, x88, x89, x90, x91, x92, x93, x94, x95, x96, x97, x98, x99, x100, x101, x102, x103, x104, x105, x106, x107, x108, x109, x110, x111, x112, x113, x114, x115, x116, x117, x118, x119, x120, x121, x122, x123, x124, x125, x126, x127, x128, x129, x130, x131, x132, x133, x134, x135, x136, x137, x138] H1 = some (u2, H2) ∧ Made H0 p H2 u2 := by
  intro q

  induction q with
  | zero =>
    intro i k H1 ev1 hr hi hk h1i hM
    intros
    obtain ⟨k, rfl⟩ : ∃ n, k = n + 1 := ⟨k - 1, by omega⟩
    obtain rfl : n = i := by omega
    have e : decide (((n : Nat) : Int) < (n : Nat)) = false := by simp
    have l0 := ld_pl hM.hb 0 _ rfl
    rw [hpn] at l0
    rw [← hpe] at hM
    rw [loop_succ, f15_b1_eq]
    unfold f15_b1
    simp -implicitDefEqProofs only [r_opt, r_ret, ob_some, ifB_true, iteV_true, iteV_false, r_gdt, r_gdt2, r_gdtf, r_gdtf2, r_gdff, r_gdff2, r_gdft, r_gdft2, r_gdu, r_gdu2, pick_t, pick_f, ext_0, ext_1, x_newB, r_nil, r_fAddr, Nat.zero_add, b_lss, b_leq, b_gtr, b_geq, b_eql, b_neq, u_not, Bool.not_true, Bool.not_false, oneOf_one, oneOf_two, again_normal, again_exit, again_ret, Bool.and_true, l0, e]
    rw [f15_e1_2_eq]
    unfold f15_e1_2
    have := make_rows (m := m) (pb := pb) (rb := rb) (zs := zs) (wv := wv) (ev := ev1) (joined := joined) hn6 hnx hu8 hnl hpn hm hpx n 0 m H1 (.slice none 0 0) (by omega) (by omega) (by omega) hM ⟨[], Rw.nil, rfl, fun j u xs h => by simp at h, fun j j' u u' _ h => by simp at h⟩ (New.nil _)
    rw [Nat.zero_mul] at this
    exact this ..
  | succ q ih =>
    intro i k H1 ev1 hr hi hk h1i hM
    intros
    obtain ⟨k, rfl⟩ : ∃ n, k = n + 1 := ⟨k - 1, by omega⟩
    have e : decide ((i : Int) < (n : Nat)) = true := decide_eq_true (by omega)
    have e3 : IntKind.i64.wrap ((i : Int) + 1) = ((i + 1 : Nat) : Int) := by rw [wrap_i64 (by omega) (by omega)]; omega
    have l0 := ld_pl hM.hb 0 _ rfl
    rw [hpn] at l0
    rw [loop_succ, f15_b1_eq]
    unfold f15_b1
    simp -implicitDefEqProofs only [r_opt, r_ret, ob_some, ifB_true, iteV_true, iteV_false, r_gdt, r_gdt2, r_gdtf, r_gdtf2, r_gdff, r_gdff2, r_gdft, r_gdft2, r_gdu, r_gdu2, pick_t, pick_f, ext_0, ext_1, x_newB, r_nil, r_fAddr, Nat.zero_add, b_lss, b_leq, b_gtr, b_geq, b_eql, b_neq, u_not, Bool.not_true, Bool.not_false, oneOf_one, oneOf_two, again_normal, again_exit, again_ret, Bool.and_true, l0, e]
    refine make_a (H0 := H0) (pb := pb) (rb := rb) (B := i) (joined := joined) (zs := zs) (wv := wv) (Wt := p.weights) (Q := Made H0 p) (by omega) hj ?_ i 0 m H1 ev1 (by omega) (by omega) (by omega) (by simpa using hM) ..
    intro H2 ev2 hM2
    intros
    rw [again_normal, e3]
    exact ih (i + 1) k H2 ev2 (by omega) (by omega) (by omega) (by omega) hM2 ..
theorem make_w {H0 : Heap} {pb rb n joined : Nat} {a4 : Value} {next : List Nat} {zs : List Value} (hn6 : n ≤ 6) (hnx : Us H0 a4 next) (hu8 : ∀ x ∈ next, x < 256) (hnl : next.length ≤ 72057594037927936) (hpn : p.nodes = (n : Int)) (hm : 50 < m) {more : Nat} (hmore : more < 256) (hj : joined < 65536) (hpx : p.next = (List.range n).map (mkRow n next)) (hpe : p.edges = selE joined (prs n)) (hpw : p.weights = (List.range (1 + more % 3)).map (mkW more)) (hpl : p.lanes = ((1 + more % 3 : Nat) : Int)) (hn1 : 1 ≤ n) : ∀ (q i k : Nat) (H1 : Heap) (wv1 : Value), (1 + more % 3) - i = q → i ≤ (1 + more % 3) → q < k → MS H0 H1 pb rb zs p (.slice none 0 0) wv1 (.slice none 0 0) [] ((List.range i).map (mkW more)) → ∀ (x0 x1 x5 x6 x7 x8 x9 x13 x14 x15 x16 x17 x18 x19 x20 x21 x22 x23 x24 x25 x26 x27 x28 x29 x30 x31 x32 x33 x34 x35 x36 x37 x38 x39 x40 x41 x42 x43 x44 x45 x46 x47 x48 x49 x50 x51 x52 x53 x54 x55 x56 x57 x58 x59 x60 x61 x62 x63 x64 x65 x66 x67 x68 x69 x70 x71 x72 x73 x74 x75 x76 x77 x78 x79 x80 x81 x82 x83 x84 x85 x86 x87 x88 x89 x90 x91 x92 x93 x94 x95 x96 x97 x98 x99 x100 x101 x102 x103 x104 x105 x106 x107 x108 x109 x110 x111 x112 x113 x114 x115 x116 x117 x118 x119 x120 x121 x122 x123 x124 x125 x126 x127 x128 x129 x130 x131 x132 x133 x134 x135 x136 x137 x138 : Value),
    ∃ H2 u2, loopN k (runCode Try.prog (lvl Try.prog pk12 m) (loopN m) f15_c0) (f15_k0 (lvl Try.prog pk12 m) (loopN m)) [x0, x1, (.int .u8 more), (.int .u16 joined), a4, x5, x6, x7, x8, x9, (.pointer (some ⟨rb, 0, none⟩)), (.pointer (some ⟨pb, 0, none⟩)), (.int .i64 (i : Nat)), x13, x14, x15, x16, x17, x18, x19, x20, x21, x22, x23, x24, x25, x26, x27, x28, x29, x30, x31, x32, x33, x34, x35, x36, x37, x38, x39, x40, x41, x42, x43, x44, x45, x46, x47, x48, x49, x50, x51, x52, x53, x54, x55, x56, x57, x58, x59, x60, x61, x62, x63, x64, x65, x66, x67, x68, x69, x70, x71, x72, x73, x74, x75, x76, x77, x78, x79, x80, x81, x82, x83, x84, x85, x86, x87, x88, x89, x90, x91, x92, x93, x94, x95, x96, x97, x98, x99, x100, x101, x102, x103, x104, x105, x106, x107, x108, x109, x110, x111, x112, x113, x114, x115, x116, x117, x118, x119, x120, x121, x122, x123, x124, x125, x126, x127, x128, x129, x130, x131, x132, x133, x134, x135, x136, x137, x138] H1 = some (u2, H2) ∧ Made H0 p H2 u2 := by
  intro q

  induction q with
  | zero =>
    intro i k H1 wv1 hr hi hk hM
    intros
    obtain ⟨k, rfl⟩ : ∃ n, k = n + 1 := ⟨k - 1, by omega⟩
    obtain rfl : (1 + more % 3) = i := by omega
    have e : decide ((((1 + more % 3) : Nat) : Int) < ((1 + more % 3) : Nat)) = false := by simp
    have l2 := ld_pl hM.hb 2 _ rfl
    rw [hpl] at l2
    rw [← hpw] at hM
    rw [loop_succ, f15_b0_eq]
    unfold f15_b0
    simp -implicitDefEqProofs only [r_opt, r_ret, ob_some, ifB_true, iteV_true, iteV_false, r_gdt, r_gdt2, r_gdtf, r_gdtf2, r_gdff, r_gdff2, r_gdft, r_gdft2, r_gdu, r_gdu2, pick_t, pick_f, ext_0, ext_1, x_newB, r_nil, r_fAddr, Nat.zero_add, b_lss, b_leq, b_gtr, b_geq, b_eql, b_neq, u_not, Bool.not_true, Bool.not_false, oneOf_one, oneOf_two, again_normal, again_exit, again_ret, Bool.and_true, l2, e]
    rw [f15_e0_0_eq]
    unfold f15_e0_0
    have := make_b (m := m) (pb := pb) (rb := rb) (zs := zs) (wv := wv1) (joined := joined) hn6 hnx hu8 hnl hpn hm hj hpx hpe hn1 (n - 1) 1 m H1 (.slice none 0 0) rfl hn1 (by omega) (Nat.le_refl _) hM
    have hp1 : joined / 2 ^ (prs 1).length = joined := by
      have : (prs 1).length = 0 := rfl
      rw [this, Nat.pow_zero, Nat.div_one]
    rw [hp1] at this
    exact this ..
  | succ q ih =>
    intro i k H1 wv1 hr hi hk hM
    intros
    obtain ⟨k, rfl⟩ : ∃ n, k = n + 1 := ⟨k - 1, by omega⟩
    have e : decide ((i : Int) < ((1 + more % 3) : Nat)) = true := decide_eq_true (by omega)
    have e3 : IntKind.i64.wrap ((i : Int) + 1) = ((i + 1 : Nat) : Int) := by rw [wrap_i64 (by omega) (by omega)]; omega
    have l2 := ld_pl hM.hb 2 _ rfl
    rw [hpl] at l2
    have l8 := ld_pl hM.hb 8 _ rfl
    have hcv := fun H => cvU H more hmore
    have a1 : IntKind.i64.wrap ((i : Int) + (more : Int)) = ((i + more : Nat) : Int) := by rw [wrap_i64 (by omega) (by omega)]; omega
    have a2 := remI (i + more) 5 5 rfl (by omega)
    have a3 : IntKind.i64.wrap (1 + ((((i + more) % 5 : Nat)) : Int)) = mkW more i := by unfold mkW; rw [wrap_i64 (by omega) (by omega)]; omega
    obtain ⟨wv2, H2, H3, g1, g2, g3, g4, g5, g6, g7⟩ := push_field (by' := 8) inC_len inC_all (by decide) (j := 8) (H0 := H0) (mkW more i) hM.hb (by simp [plC]) hM.w hM.wn hM.lp hM.ext (roomy_mono (n := 1000) (by decide) (by simp; omega))
    have hb3 : H3[pb]? = some (plB p (.slice none 0 0) wv2 (.slice none 0 0)) := g6
    rw [loop_succ, f15_b0_eq]
    unfold f15_b0
    simp -implicitDefEqProofs only [r_opt, r_ret, ob_some, ifB_true, iteV_true, iteV_false, r_gdt, r_gdt2, r_gdtf, r_gdtf2, r_gdff, r_gdff2, r_gdft, r_gdft2, r_gdu, r_gdu2, pick_t, pick_f, ext_0, ext_1, x_newB, r_nil, r_fAddr, Nat.zero_add, b_lss, b_leq, b_gtr, b_geq, b_eql, b_neq, u_not, Bool.not_true, Bool.not_false, oneOf_one, oneOf_two, again_normal, again_exit, again_ret, Bool.and_true, l2, e, l8, hcv, b_add, a1, a2, a3, bldI, g1, g2, e3]
    exact ih (i + 1) k H3 wv2 (by omega) (by omega) (by omega) ⟨g5, hb3, g7 _ _ hM.ne (fun cs hh => by cases hh) hM.hr, Rw.nil, New.nil _, by rw [List.range_succ, List.map_append]; exact g3, g4, hM.ne, hM.lp, hM.lr, hM.zl⟩ ..

theorem zPl : Blk.cells [Value.int .i64 0, .slice none 0 0, .int .i64 0, .int .i64 0, .int .i64 0, .int .i64 0, .int .i64 0, .int .i64 0, .slice none 0 0, .int .u16 0, .slice none 0 0] 27 .fix = .cells [Value.int .i64 0, .slice none 0 0, .int .i64 0, .int .i64 0, .int .i64 0, .int .i64 0, .int .i64 0, .int .i64 0, .slice none 0 0, .int .u16 0, .slice none 0 0] 27 .fix := rfl
theorem bPl (a b c d e f g h : Int) : bld Try.prog 27 [(0, .int .i64 a), (2, .int .i64 b), (3, .int .i64 c), (4, .int .i64 d), (5, .int .i64 e), (6, .int .i64 f), (7, .int .i64 g), (9, .int .u16 h)] = some (.agg #[.int .i64 a, .slice none 0 0, .int .i64 b, .int .i64 c, .int .i64 d, .int .i64 e, .int .i64 f, .int .i64 g, .slice none 0 0, .int .u16 h, .slice none 0 0]) := by kernel_rfl

theorem make_is (nodes room more joined : Nat) (h1 : nodes < 256) (h2 : room < 256) (h3 : more < 256) (h4 : joined < 65536) {a4 : Value} {next : List Nat} (hnx : Us H a4 next) (hu8 : ∀ x ∈ next, x < 256) (hnl : next.length ≤ 72057594037927936) (hm : 60 < m) :
    ∃ H2 u, lvl Try.prog pk12 m (.func 15) [.int .u8 nodes, .int .u8 room, .int .u8 more, .int .u16 joined, a4] H = some (u, H2) ∧ Made H (mkP nodes room more joined next) H2 u := by
  obtain ⟨p, hp⟩ : ∃ p, p = mkP nodes room more joined next := ⟨_, rfl⟩
  rw [← hp]
  obtain ⟨zs, hzs⟩ : ∃ zs, zs = [Value.int .i64 0, .slice none 0 0, .int .i64 0, .int .i64 0, .int .i64 0, .int .i64 0, .int .i64 0, .int .i64 0, .slice none 0 0, .int .u16 0, .slice none 0 0] := ⟨_, rfl⟩
  obtain ⟨H1, hH1⟩ : ∃ H1, H1 = H ++ [Blk.cells zs 27 .fix] := ⟨_, rfl⟩
  have x1 : Ext H H1 := by rw [hH1]; exact Fr.app _ _ _
  have n1 := remU nodes 5 5 rfl (by omega)
  have n2 := fun H => cvU H (nodes % 5) (by omega)
  have n3 : IntKind.i64.wrap (2 + ((nodes % 5 : Nat) : Int)) = p.nodes := by rw [wrap_i64 (by omega) (by omega), hp]; simp [mkP, mkN]
  have n4 := remU more 3 3 rfl (by omega)
  have n5 := fun H => cvU H (more % 3) (by omega)
  have n6 : IntKind.i64.wrap (1 + ((more % 3 : Nat) : Int)) = p.lanes := by rw [wrap_i64 (by omega) (by omega), hp]; simp [mkP]
  have r1 := remU room 8 8 rfl (by omega)
  have r2 := fun H => cvU H (room % 8) (by omega)
  have r3 : IntKind.i64.wrap (1 + ((room % 8 : Nat) : Int)) = p.room := by rw [wrap_i64 (by omega) (by omega), hp]; simp [mkP]
  have r4 := quoU room 8 8 rfl (by omega) h2
  have r5 := remU (room / 8) 8 8 rfl (by omega)
  have r6 := fun H => cvU H (room / 8 % 8) (by omega)
  have r7 : IntKind.i64.wrap (1 + ((room / 8 % 8 : Nat) : Int)) = p.queue := by rw [wrap_i64 (by omega) (by omega), hp]; simp [mkP]
  have m1 := quoU more 3 3 rfl (by omega) h3
  have m2 := remU (more / 3) 4 4 rfl (by omega)
  have m3 := fun H => cvU H (more / 3 % 4) (by omega)
  have m4 : IntKind.i64.wrap (1 + ((more / 3 % 4 : Nat) : Int)) = p.rounds := by rw [wrap_i64 (by omega) (by omega), hp]; simp [mkP]
  have m5 := quoU more 12 12 rfl (by omega) h3
  have m6 := remU (more / 12) 8 8 rfl (by omega)
  have m7 := fun H => cvU H (more / 12 % 8) (by omega)
  have m8 : IntKind.i64.wrap (1 + ((more / 12 % 8 : Nat) : Int)) = p.every := by rw [wrap_i64 (by omega) (by omega), hp]; simp [mkP]
  have b64 : p.bag = 64 := by rw [hp]; rfl
  have bst : p.start = joined := by rw [hp]; rfl
  obtain ⟨H2, hH2⟩ : ∃ H2, H2 = H1 ++ [plB p (.slice none 0 0) (.slice none 0 0) (.slice none 0 0)] := ⟨_, rfl⟩
  have x2 : Ext H1 H2 := by rw [hH2]; exact Fr.app _ _ _
  have st : stN 11 (.pointer (some ⟨H1.length, 0, none⟩)) (.agg #[.int .i64 p.nodes, .slice none 0 0, .int .i64 p.lanes, .int .i64 p.room, .int .i64 p.queue, .int .i64 p.rounds, .int .i64 p.every, .int .i64 64, .slice none 0 0, .int .u16 joined, .slice none 0 0]) (H1 ++ [.cells zs 27 .fix]) = some (undef, H2) := by
    rw [x_stN 11 _ _ _ rfl, at_last, x_stC _ _ _ _ _ _ (by decide) (by rw [hzs]; simp [Value.cells]) rfl, hH2, hzs]
    simp [setCells, Value.cells, plB, plC, b64, bst]
  have hr1 : H1[H.length]? = some (.cells zs 27 .fix) := by rw [hH1]; exact at_last _ _
  have hM : MS H H2 H1.length H.length zs p (.slice none 0 0) (.slice none 0 0) (.slice none 0 0) [] ((List.range 0).map (mkW more)) :=
    ⟨x1.tr x2, by rw [hH2]; exact at_last _ _, ld_of hr1 x2, Rw.nil, New.nil _, Rw.nil, New.nil _, by rw [hH1, List.length_append]; simp, x1.1, Nat.le_refl _, by rw [hzs]; rfl⟩
  refine lvl_ex (pk_no rfl rfl) (by omega) ?_
  rw [f15_eq]
  unfold f15
  simp -implicitDefEqProofs only [r_opt, r_ret, ob_some, ifB_true, iteV_true, iteV_false, r_gdt, r_gdt2, r_gdtf, r_gdtf2, r_gdff, r_gdff2, r_gdft, r_gdft2, r_gdu, r_gdu2, pick_t, pick_f, ext_0, ext_1, x_newB, r_nil, r_fAddr, Nat.zero_add, b_lss, b_leq, b_gtr, b_geq, b_eql, b_neq, u_not, Bool.not_true, Bool.not_false, oneOf_one, oneOf_two, again_normal, again_exit, again_ret, Bool.and_true, ← hzs, ← hH1, n1, n2, b_add, n3, n4, n5, n6, r1, r2, r3, r4, r5, r6, r7, m1, m2, m3, m4, m5, m6, m7, m8, bPl, st]
  exact make_w (m := m - 1) (n := mkN nodes) (p := p) (pb := H1.length) (rb := H.length) (zs := zs) (by unfold mkN; omega) hnx hu8 hnl (by rw [hp]; rfl) (by omega) h3 h4 (by rw [hp]; rfl) (by rw [hp]; rfl) (by rw [hp]; rfl) (by rw [hp]; rfl) (by unfold mkN; omega) (1 + more % 3) 0 (m - 1) H2 (.slice none 0 0) (by omega) (by omega) (by omega) hM ..

end

end Go.Proofs.Ytdobnaldfmpimaa
