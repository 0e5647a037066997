/-
  PARTS OF THIS CLAIM'S PROOF, laid together by a program of mine out of texts written from templates.
-/
import Derived.Test.YtdobnaldfmpimaaAbsM1
import Derived.Test.YtdobnaldfmpimaaAbsSim
import Derived.Test.YtdobnaldfmpimaaProg
import Derived.KernelRfl
import Derived.Test.YtdobnaldfmpimaaAbsGraph
set_option linter.unusedSectionVars false
set_option linter.unusedSimpArgs false
set_option linter.unusedVariables false
set_option maxRecDepth 100000
namespace Go.Proofs.Ytdobnaldfmpimaa
open Go.Abs
def mkN (nodes : Nat) : Nat := 2 + nodes % 5
def mkW (more : Nat) (i : Nat) : Int := ((1 + (i + more) % 5 : Nat) : Int)
def prs (n : Nat) : List (Nat × Nat) := (List.range n).flatMap fun b => (List.range b).map fun a => (a, b)
def selE : Nat → List (Nat × Nat) → List Ed
  | _, [] => []
  | bit, (a, b) :: r => if bit % 2 = 1 then ((a : Int), (b : Int)) :: selE (bit / 2) r else selE (bit / 2) r
def nxt (n : Nat) (next : List Nat) (k w : Nat) : Nat := match next[k]? with
  | some x => if x % 4 = 0 then (x / 4) % n else w
  | none => w
def mkRow (n : Nat) (next : List Nat) (v : Nat) : List Int := (List.range n).map fun w => ((nxt n next (v * n + w) w : Nat) : Int)
def mkP (nodes room more joined : Nat) (next : List Nat) : PlanD where
  nodes := mkN nodes
  edges := selE joined (prs (mkN nodes))
  lanes := ((1 + more % 3 : Nat) : Int)
  room := ((1 + room % 8 : Nat) : Int)
  queue := ((1 + room / 8 % 8 : Nat) : Int)
  rounds := ((1 + more / 3 % 4 : Nat) : Int)
  every := ((1 + more / 12 % 8 : Nat) : Int)
  bag := 64
  weights := (List.range (1 + more % 3)).map (mkW more)
  start := joined
  next := (List.range (mkN nodes)).map (mkRow (mkN nodes) next)
def u8C (n : Nat) : List Value := [.int .u8 n]
theorem u8C_len (n : Nat) : (u8C n).length = 1 := rfl
abbrev Us (H : Heap) (v : Value) (xs : List Nat) := Rs u8C 5 H v xs
theorem cvU (H : Heap) (n : Nat) (h : n < 256) : conv Try.prog 5 3 (.int .u8 n) H = some (.int .i64 n, H) := by
  have h1 : Try.prog.underlying 5 = some (.int .u8) := by kernel_rfl
  have h2 : Try.prog.underlying 3 = some (.int .i64) := by kernel_rfl
  rw [c_int _ _ h1 h2, wrap_i64 (by omega) (by omega)]
theorem remU (a b : Nat) (c : Int) (hc : c = b) (hb : 0 < b) : bin Try.prog .rem 5 (.int .u8 a) (.int .u8 c) = some (.int .u8 (a % b : Nat)) := by rw [hc, b_rem _ _ _ _ (by omega), Int.tmod_eq_emod_of_nonneg (by omega)]; congr 2
theorem remI (a b : Nat) (c : Int) (hc : c = b) (hb : 0 < b) : bin Try.prog .rem 3 (.int .i64 a) (.int .i64 c) = some (.int .i64 (a % b : Nat)) := by rw [hc, b_rem _ _ _ _ (by omega), Int.tmod_eq_emod_of_nonneg (by omega)]; congr 2
theorem rem16 (a b : Nat) (c : Int) (hc : c = b) (hb : 0 < b) : bin Try.prog .rem 22 (.int .u16 a) (.int .u16 c) = some (.int .u16 (a % b : Nat)) := by rw [hc, b_rem _ _ _ _ (by omega), Int.tmod_eq_emod_of_nonneg (by omega)]; congr 2
theorem wrap_u8 {n : Nat} (h : n < 256) : IntKind.u8.wrap (n : Int) = n := by simp [IntKind.wrap, IntKind.bits, IntKind.signed]; omega
theorem wrap_u16 {n : Nat} (h : n < 65536) : IntKind.u16.wrap (n : Int) = n := by simp [IntKind.wrap, IntKind.bits, IntKind.signed]; omega
theorem quoU (a b : Nat) (c : Int) (hc : c = b) (hb : 0 < b) (ha : a < 256) : bin Try.prog .quo 5 (.int .u8 a) (.int .u8 c) = some (.int .u8 (a / b : Nat)) := by
  rw [hc, b_quo _ _ _ _ (by omega), Int.tdiv_eq_ediv_of_nonneg (by omega)]
  have h2 : ((a : Int) / (b : Int)) = ((a / b : Nat) : Int) := by simp
  rw [h2, wrap_u8 (Nat.lt_of_le_of_lt (Nat.div_le_self a b) ha)]
theorem quo16 (a b : Nat) (c : Int) (hc : c = b) (hb : 0 < b) (ha : a < 65536) : bin Try.prog .quo 22 (.int .u16 a) (.int .u16 c) = some (.int .u16 (a / b : Nat)) := by
  rw [hc, b_quo _ _ _ _ (by omega), Int.tdiv_eq_ediv_of_nonneg (by omega)]
  have h2 : ((a : Int) / (b : Int)) = ((a / b : Nat) : Int) := by simp
  rw [h2, wrap_u16 (Nat.lt_of_le_of_lt (Nat.div_le_self a b) ha)]
def KeepX (b : Nat) (e : TypeId) (H H' : Heap) : Prop := ∀ (c : Nat) (y : Blk), c ≠ b → (∀ cs, y ≠ .cells cs e .row) → H[c]? = some y → H'[c]? = some y
section
variable {H : Heap} {m : Nat} {p : PlanD} {ev wv nv : Value}
theorem push_field {α : Type} {el : α → List Value} {e : TypeId} {sz by' : Nat} (hsz : ∀ x, (el x).length = sz) (hall : ∀ x, allCells (el x) = true) (h0 : 0 < sz) {H0 : Heap} {v : Value} {xs : List α} {b j : Nat} {cs : List Value} (x : α)
    (hb : H[b]? = some (.cells cs 27 .fix)) (hj : j < cs.length) (hv : Rw el e sz H v xs) (hn : New H0 v) (hbn : H0.length ≤ b) (he : Ext H0 H) (hr : roomy (xs.length + 1) by' = true) :
    ∃ v' H1 H', app e sz by' v (.slice (some ⟨H.length, 0, none⟩) 1 1) (H ++ [.cells (el x) e .row]) = some (v', H1) ∧ stN 1 (.pointer (some ⟨b, j, none⟩)) v' H1 = some (undef, H') ∧
      Rw el e sz H' v' (xs ++ [x]) ∧ New H0 v' ∧ Ext H0 H' ∧ H'[b]? = some (.cells (cs.set j v') 27 .fix) ∧ KeepX b e H H' := by
  obtain ⟨v', H1, g1, g2, g3, g4, g5, g6⟩ := hv.push2 hsz hall h0 (by' := by') x hn he hr
  have hbl := (List.getElem?_eq_some_iff.mp hb).1
  have hnh : ¬ home v b := fun hh => by
    obtain ⟨c', hc'⟩ := hv.blk hh
    rw [hb] at hc'
    simp at hc'
  have hb1 : H1[b]? = some (.cells cs 27 .fix) := by rw [g5.2 b hbl hnh, hb]
  obtain ⟨s1, s2⟩ := g2.shape
  have hb1l := (List.getElem?_eq_some_iff.mp hb1).1
  refine ⟨v', H1, H1.set b (.cells (cs.set j v') 27 .fix), g1, ?_, g2.keep fun c hc => ?_, g3, ⟨by rw [List.length_set]; exact g4.1, fun c hc _ => ?_⟩, List.getElem?_set_self hb1l, fun c y hcb hA hy => ?_⟩
  · rw [x_stN 1 _ _ _ (by rw [s1]; rfl), hb1, s1, x_stC _ _ _ _ _ _ (by decide) (by simp; omega) s2]
    rfl
  · refine List.getElem?_set_ne fun hh => ?_
    subst hh
    obtain ⟨c', hc'⟩ := g2.blk hc
    rw [hb1] at hc'
    simp at hc'
  · rw [List.getElem?_set_ne (by omega), g4.2 c hc id]
  · have hch : ¬ home v c := fun hh => by
      obtain ⟨c', hc'⟩ := hv.blk hh
      rw [hy] at hc'
      cases hc'
      exact hA _ rfl
    rw [List.getElem?_set_ne (Ne.symm hcb), g5.2 c (List.getElem?_eq_some_iff.mp hy).1 hch, hy]
theorem Rw.keepX {α : Type} {el : α → List Value} {e e' : TypeId} {sz b : Nat} {H' : Heap} {v : Value} {xs : List α} {cs : List Value} (h : Rw el e' sz H v xs) (hk : KeepX b e H H') (hb : H[b]? = some (.cells cs 27 .fix)) (hne : e' ≠ e) : Rw el e' sz H' v xs := h.keep fun c hc => by
  obtain ⟨cs', hx⟩ := h.blk hc
  have hcb : c ≠ b := fun hh => by
    subst hh
    rw [hb] at hx
    simp at hx
  rw [hx]
  exact hk c _ hcb (fun cs'' hh => by cases hh; exact hne rfl) hx
theorem bEd (a b : Int) : bld Try.prog 33 [(0, .int .i64 a), (1, .int .i64 b)] = some (edV (a, b)) := rfl
theorem bldEd (H : Heap) (y : Ed) : bldSlice 33 2 1 [.int .i64 0, .int .i64 0] [(0, edV y)] H = some (.slice (some ⟨H.length, 0, none⟩) 1 1, H ++ [.cells (edC y) 33 .row]) := rfl
theorem make_row {H0 : Heap} {b rb n v joined : Nat} {a4 : Value} {next : List Nat} {zs : List Value} {Q : Heap → Value → Prop} {K : Ex → K (Value × Heap)} (hn6 : n ≤ 6) (hv6 : v < n) (hnx : Us H0 a4 next) (hu8 : ∀ x ∈ next, x < 256) (hnl : next.length ≤ 72057594037927936) (hpn : p.nodes = (n : Int)) (hbr : H0[rb]? = some (.cells zs 27 .fix)) (hb : H0[b]? = some (plB p ev wv nv))
    (hK : ∀ (H' : Heap) (u : Value), Ext H0 H' → Iw H' u (mkRow n next v) → New H0 u → ∀ (x0 x1 x2 x5 x6 x7 x8 x9 x12 x13 x14 x15 x19 x20 x21 x22 x23 x24 x25 x26 x27 x28 x29 x30 x31 x32 x33 x34 x35 x36 x37 x38 x39 x40 x41 x42 x43 x44 x45 x46 x47 x48 x49 x50 x51 x52 x53 x54 x55 x56 x57 x58 x59 x60 x61 x62 x63 x64 x65 x66 x67 x68 x69 x70 x71 x72 x73 x74 x75 x76 x77 x78 x79 x80 x81 x82 x83 x84 x85 x86 x87 x88 x89 x90 x91 x92 x93 x94 x95 x96 x97 x98 x99 x100 x101 x102 x103 x104 x105 x106 x107 x108 x109 x110 x111 x112 x113 x114 x115 x116 x117 x118 x119 x120 x121 x122 x123 x124 x125 x126 x127 x128 x129 x130 x131 x132 x133 x134 x135 x136 x137 x138 : Value), ∃ H2 u2, f15_e4_8 (lvl Try.prog pk12 m) (loopN m) K x0 x1 x2 (.int .u16 joined) a4 x5 x6 x7 x8 x9 (.pointer (some ⟨rb, 0, none⟩)) (.pointer (some ⟨b, 0, none⟩)) x12 x13 x14 x15 (.int .i64 ((v + 1) * n : Nat)) (.int .i64 (v : Nat)) u x19 x20 x21 x22 x23 x24 x25 x26 x27 x28 x29 x30 x31 x32 x33 x34 x35 x36 x37 x38 x39 x40 x41 x42 x43 x44 x45 x46 x47 x48 x49 x50 x51 x52 x53 x54 x55 x56 x57 x58 x59 x60 x61 x62 x63 x64 x65 x66 x67 x68 x69 x70 x71 x72 x73 x74 x75 x76 x77 x78 x79 x80 x81 x82 x83 x84 x85 x86 x87 x88 x89 x90 x91 x92 x93 x94 x95 x96 x97 x98 x99 x100 x101 x102 x103 x104 x105 x106 x107 x108 x109 x110 x111 x112 x113 x114 x115 x116 x117 x118 x119 x120 x121 x122 x123 x124 x125 x126 x127 x128 x129 x130 x131 x132 x133 x134 x135 x136 x137 x138 H' = some (u2, H2) ∧ Q H2 u2) : ∀ (q i k : Nat) (H1 : Heap) (acc : Value), n - i = q → i ≤ n → q < k → Ext H0 H1 → Iw H1 acc ((List.range i).map fun w => ((nxt n next (v * n + w) w : Nat) : Int)) → New H0 acc → ∀ (x0 x1 x2 x5 x6 x7 x8 x9 x12 x13 x14 x15 x20 x21 x22 x23 x24 x25 x26 x27 x28 x29 x30 x31 x32 x33 x34 x35 x36 x37 x38 x39 x40 x41 x42 x43 x44 x45 x46 x47 x48 x49 x50 x51 x52 x53 x54 x55 x56 x57 x58 x59 x60 x61 x62 x63 x64 x65 x66 x67 x68 x69 x70 x71 x72 x73 x74 x75 x76 x77 x78 x79 x80 x81 x82 x83 x84 x85 x86 x87 x88 x89 x90 x91 x92 x93 x94 x95 x96 x97 x98 x99 x100 x101 x102 x103 x104 x105 x106 x107 x108 x109 x110 x111 x112 x113 x114 x115 x116 x117 x118 x119 x120 x121 x122 x123 x124 x125 x126 x127 x128 x129 x130 x131 x132 x133 x134 x135 x136 x137 x138 : Value),
    ∃ H2 u2, loopN k (runCode Try.prog (lvl Try.prog pk12 m) (loopN m) f15_c4) (f15_k4 (lvl Try.prog pk12 m) (loopN m) K) [x0, x1, x2, (.int .u16 joined), a4, x5, x6, x7, x8, x9, (.pointer (some ⟨rb, 0, none⟩)), (.pointer (some ⟨b, 0, none⟩)), x12, x13, x14, x15, (.int .i64 (v * n + i : Nat)), (.int .i64 (v : Nat)), acc, (.int .i64 (i : Nat)), x20, x21, x22, x23, x24, x25, x26, x27, x28, x29, x30, x31, x32, x33, x34, x35, x36, x37, x38, x39, x40, x41, x42, x43, x44, x45, x46, x47, x48, x49, x50, x51, x52, x53, x54, x55, x56, x57, x58, x59, x60, x61, x62, x63, x64, x65, x66, x67, x68, x69, x70, x71, x72, x73, x74, x75, x76, x77, x78, x79, x80, x81, x82, x83, x84, x85, x86, x87, x88, x89, x90, x91, x92, x93, x94, x95, x96, x97, x98, x99, x100, x101, x102, x103, x104, x105, x106, x107, x108, x109, x110, x111, x112, x113, x114, x115, x116, x117, x118, x119, x120, x121, x122, x123, x124, x125, x126, x127, x128, x129, x130, x131, x132, x133, x134, x135, x136, x137, x138] H1 = some (u2, H2) ∧ Q H2 u2 := by
  intro q

  induction q with
  | zero =>
    intro i k H1 acc hr hi hk he ha hnew
    intros
    obtain ⟨k, rfl⟩ : ∃ n, k = n + 1 := ⟨k - 1, by omega⟩
    obtain rfl : n = i := by omega
    have e : decide (((n : Nat) : Int) < (n : Nat)) = false := by simp
    have l0 := ld_pl (ld_of hb he) 0 _ rfl
    rw [hpn] at l0
    rw [loop_succ, f15_b4_eq]
    unfold f15_b4
    simp -implicitDefEqProofs only [r_opt, r_ret, ob_some, ifB_true, iteV_true, iteV_false, r_gdt, r_gdt2, r_gdtf, r_gdtf2, r_gdff, r_gdff2, r_gdft, r_gdft2, r_gdu, r_gdu2, pick_t, pick_f, ext_0, ext_1, x_newB, r_nil, r_fAddr, Nat.zero_add, b_lss, b_leq, b_gtr, b_geq, b_eql, b_neq, u_not, Bool.not_true, Bool.not_false, oneOf_one, oneOf_two, again_normal, again_exit, again_ret, Bool.and_true, l0, e]
    rw [f15_e4_8_eq]
    have hk : v * n + n = (v + 1) * n := by rw [Nat.succ_mul]
    rw [hk]
    exact hK H1 acc he ha hnew ..
  | succ q ih =>
    intro i k H1 acc hr hi hk he ha hnew
    intros
    obtain ⟨k, rfl⟩ : ∃ n, k = n + 1 := ⟨k - 1, by omega⟩
    have e : decide ((i : Int) < (n : Nat)) = true := decide_eq_true (by omega)
    have e3 : IntKind.i64.wrap ((i : Int) + 1) = ((i + 1 : Nat) : Int) := by rw [wrap_i64 (by omega) (by omega)]; omega
    have l0 := ld_pl (ld_of hb he) 0 _ rfl
    rw [hpn] at l0
    have hlen := (hnx.ext he).len
    have hvn : v * n + i < 42 := by
      have : v * n ≤ 5 * n := Nat.mul_le_mul_right _ (by omega)
      omega
    have e4 : IntKind.i64.wrap (((v * n + i : Nat) : Int) + 1) = ((v * n + (i + 1) : Nat) : Int) := by rw [wrap_i64 (by omega) (by omega)]; omega
    have hrange : (List.range (i + 1)).map (fun w => ((nxt n next (v * n + w) w : Nat) : Int)) = (List.range i).map (fun w => ((nxt n next (v * n + w) w : Nat) : Int)) ++ [((nxt n next (v * n + i) i : Nat) : Int)] := by rw [List.range_succ, List.map_append]; rfl
    obtain ⟨acc2, H2, t1, t2, t3, t4⟩ := ha.push1 (by' := 8) inC_len inC_all (by decide) ((nxt n next (v * n + i) i : Nat) : Int) hnew he (roomy_mono (n := 1000) (by decide) (by simp; omega))
    rw [← hrange] at t2
    rw [loop_succ, f15_b4_eq]
    unfold f15_b4
    by_cases c : v * n + i < next.length
    · have d : decide (((v * n + i : Nat) : Int) < next.length) = true := decide_eq_true (by omega)
      have hx : next[v * n + i]? = some next[v * n + i] := List.getElem?_eq_getElem c
      obtain ⟨bb, oo, g1, g2, g3⟩ := (hnx.ext he).at_ u8C_len hx .i64
      have l1 : ld1 (.pointer (some ⟨bb, oo, none⟩)) H1 = some (.int .u8 (next[v * n + i] : Nat), H1) := (g3 H1 rfl).2.1 0 _ rfl
      have hx8 := hu8 _ (List.getElem_mem c)
      have r4 := remU next[v * n + i] 4 4 rfl (by omega)
      by_cases c4 : next[v * n + i] % 4 = 0
      · have d4 : (((next[v * n + i] % 4 : Nat) : Int) == 0) = true := by rw [c4]; rfl
        have q4 := quoU next[v * n + i] 4 4 rfl (by omega) hx8
        have hcv := fun H => cvU H (next[v * n + i] / 4) (by omega)
        have rn := remI (next[v * n + i] / 4) n n rfl (by omega)
        have hval : nxt n next (v * n + i) i = next[v * n + i] / 4 % n := by unfold nxt; rw [hx]; simp only; rw [if_pos c4]
        rw [hval] at t1
        simp -implicitDefEqProofs only [r_opt, r_ret, ob_some, ifB_true, iteV_true, iteV_false, r_gdt, r_gdt2, r_gdtf, r_gdtf2, r_gdff, r_gdff2, r_gdft, r_gdft2, r_gdu, r_gdu2, pick_t, pick_f, ext_0, ext_1, x_newB, r_nil, r_fAddr, Nat.zero_add, b_lss, b_leq, b_gtr, b_geq, b_eql, b_neq, u_not, Bool.not_true, Bool.not_false, oneOf_one, oneOf_two, again_normal, again_exit, again_ret, Bool.and_true, l0, e, hlen, d, g1, l1, r4, d4, q4, hcv, rn, bldI, t1, b_add, e4, e3]
        exact ih (i + 1) k H2 acc2 (by omega) (by omega) (by omega) t4 t2 t3 ..
      · have d4 : (((next[v * n + i] % 4 : Nat) : Int) == 0) = false := by simpa using fun h => c4 (by omega)
        have hval : nxt n next (v * n + i) i = i := by unfold nxt; rw [hx]; simp only; rw [if_neg c4]
        rw [hval] at t1
        simp -implicitDefEqProofs only [r_opt, r_ret, ob_some, ifB_true, iteV_true, iteV_false, r_gdt, r_gdt2, r_gdtf, r_gdtf2, r_gdff, r_gdff2, r_gdft, r_gdft2, r_gdu, r_gdu2, pick_t, pick_f, ext_0, ext_1, x_newB, r_nil, r_fAddr, Nat.zero_add, b_lss, b_leq, b_gtr, b_geq, b_eql, b_neq, u_not, Bool.not_true, Bool.not_false, oneOf_one, oneOf_two, again_normal, again_exit, again_ret, Bool.and_true, l0, e, hlen, d, g1, l1, r4, d4, bldI, t1, b_add, e4, e3]
        exact ih (i + 1) k H2 acc2 (by omega) (by omega) (by omega) t4 t2 t3 ..
    · have d : decide (((v * n + i : Nat) : Int) < next.length) = false := decide_eq_false (by omega)
      have hval : nxt n next (v * n + i) i = i := by unfold nxt; rw [List.getElem?_eq_none (by omega)]
      rw [hval] at t1
      simp -implicitDefEqProofs only [r_opt, r_ret, ob_some, ifB_true, iteV_true, iteV_false, r_gdt, r_gdt2, r_gdtf, r_gdtf2, r_gdff, r_gdff2, r_gdft, r_gdft2, r_gdu, r_gdu2, pick_t, pick_f, ext_0, ext_1, x_newB, r_nil, r_fAddr, Nat.zero_add, b_lss, b_leq, b_gtr, b_geq, b_eql, b_neq, u_not, Bool.not_true, Bool.not_false, oneOf_one, oneOf_two, again_normal, again_exit, again_ret, Bool.and_true, l0, e, hlen, d, bldI, t1, b_add, e4, e3]
      exact ih (i + 1) k H2 acc2 (by omega) (by omega) (by omega) t4 t2 t3 ..
def SV := {u : Value // allCells [u] = true ∧ u.cells = #[u]}
def sC (u : SV) : List Value := [u.1]
theorem sC_len (u : SV) : (sC u).length = 1 := rfl
theorem sC_all (u : SV) : allCells (sC u) = true := u.2.1
theorem sC_map : ∀ us : List SV, (us.map sC) = (us.map (·.1)).map vC
  | [] => rfl
  | u :: us => by rw [List.map_cons, List.map_cons, List.map_cons, sC_map us]; rfl
structure RowsI (H : Heap) (v : Value) (xss : List (List Int)) (us : List SV) : Prop where
  row : Rw sC 24 1 H v us
  len : us.length = xss.length
  el : ∀ (j : Nat) (u : SV) (xs : List Int), us[j]? = some u → xss[j]? = some xs → Iw H u.1 xs
  ap : ∀ (j j' : Nat) (u u' : SV), j < j' → us[j]? = some u → us[j']? = some u' → ∀ b, home u.1 b → home u'.1 b → False
def RowsW (H : Heap) (v : Value) (xss : List (List Int)) : Prop := ∃ us, RowsI H v xss us
theorem RowsI.keep {H' : Heap} {v : Value} {xss : List (List Int)} {us : List SV} (h : RowsI H v xss us) (h1 : ∀ b, home v b → H'[b]? = H[b]?) (h2 : ∀ u ∈ us, ∀ b, home u.1 b → H'[b]? = H[b]?) : RowsI H' v xss us :=
  ⟨h.row.keep h1, h.len, fun j u xs hu hx => (h.el j u xs hu hx).keep fun b hb => h2 u (List.mem_of_getElem? hu) b hb, h.ap⟩
theorem RowsI.lt {v : Value} {xss : List (List Int)} {us : List SV} (h : RowsI H v xss us) {u : SV} (hu : u ∈ us) {b : Nat} (hb : home u.1 b) : b < H.length := by
  obtain ⟨j, hj⟩ := List.getElem?_of_mem hu
  have := (List.getElem?_eq_some_iff.mp hj).1
  exact (h.el j u _ hj (List.getElem?_eq_getElem (by rw [← h.len]; exact this))).lt hb
theorem RowsI.blk {v : Value} {xss : List (List Int)} {us : List SV} (h : RowsI H v xss us) {u : SV} (hu : u ∈ us) {b : Nat} (hb : home u.1 b) : ∃ cs, H[b]? = some (.cells cs 3 .row) := by
  obtain ⟨j, hj⟩ := List.getElem?_of_mem hu
  have := (List.getElem?_eq_some_iff.mp hj).1
  exact (h.el j u _ hj (List.getElem?_eq_getElem (by rw [← h.len]; exact this))).blk hb
theorem RowsW.ext {H' : Heap} {v : Value} {xss : List (List Int)} (h : RowsW H v xss) (he : Ext H H') : RowsW H' v xss := by
  obtain ⟨us, hi⟩ := h
  exact ⟨us, hi.keep (fun b hb => he.2 b (hi.row.lt hb) id) fun u hu b hb => he.2 b (hi.lt hu hb) id⟩
theorem RowsW.rows {v : Value} {xss : List (List Int)} (h : RowsW H v xss) : Rows H v xss := by
  obtain ⟨us, hi⟩ := h
  refine ⟨us.map (·.1), ?_, by rw [List.length_map, hi.len], fun j u xs hu hx => ?_⟩
  · have := hi.row.rs
    unfold Rs at this ⊢
    rw [List.length_map, ← sC_map]
    rcases this with ⟨h1, h2⟩ | ⟨b, o, cap, h1, h2, h3⟩
    · exact .inl ⟨h1, by rw [h2]; rfl⟩
    · exact .inr ⟨b, o, cap, h1, h2, fun hne => h3 fun hh => hne (by rw [hh]; rfl)⟩
  · rw [List.getElem?_map] at hu
    cases hj : us[j]? with
    | none => rw [hj] at hu; cases hu
    | some u' =>
      rw [hj] at hu
      cases hu
      exact (hi.el j u' xs hj hx).rs
def RowsA (H0 H : Heap) (v : Value) (xss : List (List Int)) (wv : Value) : Prop := ∃ us, RowsI H v xss us ∧ ∀ u ∈ us, ∀ b, home u.1 b → ¬ home wv b ∧ H0.length ≤ b
theorem RowsA.rw {H0 : Heap} {v wv : Value} {xss : List (List Int)} (h : RowsA H0 H v xss wv) : RowsW H v xss := let ⟨us, hi, _⟩ := h; ⟨us, hi⟩
theorem RowsA.ext {H0 H' : Heap} {v wv : Value} {xss : List (List Int)} (h : RowsA H0 H v xss wv) (he : Ext H H') : RowsA H0 H' v xss wv := by
  obtain ⟨us, hi, ha⟩ := h
  exact ⟨us, hi.keep (fun b hb => he.2 b (hi.row.lt hb) id) (fun u hu b hb => he.2 b (hi.lt hu hb) id), ha⟩
structure MS (H0 H1 : Heap) (pb rb : Nat) (zs : List Value) (p : PlanD) (ev wv nv : Value) (E : List Ed) (W : List Int) : Prop where
  ext : Ext H0 H1
  hb : H1[pb]? = some (plB p ev wv nv)
  hr : H1[rb]? = some (.cells zs 27 .fix)
  e : Ew H1 ev E
  en : New H0 ev
  w : Iw H1 wv W
  wn : New H0 wv
  ne : rb ≠ pb
  lp : H0.length ≤ pb
  lr : H0.length ≤ rb
  zl : zs.length = 11
theorem MS.on {H0 H1 H2 : Heap} {pb rb : Nat} {zs : List Value} {E : List Ed} {W : List Int} (h : MS H0 H1 pb rb zs p ev wv nv E W) (he : Ext H1 H2) : MS H0 H2 pb rb zs p ev wv nv E W :=
  ⟨h.ext.tr he, ld_of h.hb he, ld_of h.hr he, h.e.keep fun b hb => he.2 b (h.e.lt hb) id, h.en, h.w.keep fun b hb => he.2 b (h.w.lt hb) id, h.wn, h.ne, h.lp, h.lr, h.zl⟩
theorem make_out {H0 H1 : Heap} {pb rb : Nat} {zs : List Value} {E : List Ed} {W : List Int} {N : List (List Int)} (h : MS H0 H1 pb rb zs p ev wv nv E W) (hn : RowsA H0 H1 nv N wv) {Q : Heap → Value → Prop} (hQ : ∀ H2, Ext H0 H2 → Ew H2 ev E → Iw H2 wv W → RowsA H0 H2 nv N wv → Q H2 (plV p ev wv nv)) (x0 x1 x2 x3 x4 x5 x6 x7 x8 x9 x12 x13 x14 x15 x16 x17 x18 x19 x20 x21 x22 x23 x24 x25 x26 x27 x28 x29 x30 x31 x32 x33 x34 x35 x36 x37 x38 x39 x40 x41 x42 x43 x44 x45 x46 x47 x48 x49 x50 x51 x52 x53 x54 x55 x56 x57 x58 x59 x60 x61 x62 x63 x64 x65 x66 x67 x68 x69 x70 x71 x72 x73 x74 x75 x76 x77 x78 x79 x80 x81 x82 x83 x84 x85 x86 x87 x88 x89 x90 x91 x92 x93 x94 x95 x96 x97 x98 x99 x100 x101 x102 x103 x104 x105 x106 x107 x108 x109 x110 x111 x112 x113 x114 x115 x116 x117 x118 x119 x120 x121 x122 x123 x124 x125 x126 x127 x128 x129 x130 x131 x132 x133 x134 x135 x136 x137 x138 : Value) :
    ∃ H2 u2, f15_e3_6 (lvl Try.prog pk12 m) (loopN m) x0 x1 x2 x3 x4 x5 x6 x7 x8 x9 (.pointer (some ⟨rb, 0, none⟩)) (.pointer (some ⟨pb, 0, none⟩)) x12 x13 x14 x15 x16 x17 x18 x19 x20 x21 x22 x23 x24 x25 x26 x27 x28 x29 x30 x31 x32 x33 x34 x35 x36 x37 x38 x39 x40 x41 x42 x43 x44 x45 x46 x47 x48 x49 x50 x51 x52 x53 x54 x55 x56 x57 x58 x59 x60 x61 x62 x63 x64 x65 x66 x67 x68 x69 x70 x71 x72 x73 x74 x75 x76 x77 x78 x79 x80 x81 x82 x83 x84 x85 x86 x87 x88 x89 x90 x91 x92 x93 x94 x95 x96 x97 x98 x99 x100 x101 x102 x103 x104 x105 x106 x107 x108 x109 x110 x111 x112 x113 x114 x115 x116 x117 x118 x119 x120 x121 x122 x123 x124 x125 x126 x127 x128 x129 x130 x131 x132 x133 x134 x135 x136 x137 x138 H1 = some (u2, H2) ∧ Q H2 u2 := by
  have l11 := ld_pl11 h.hb
  have hrl := (List.getElem?_eq_some_iff.mp h.hr).1
  obtain ⟨a1, a2⟩ := Rw.shape h.e
  obtain ⟨b1, b2⟩ := Rw.shape h.w
  obtain ⟨us, hi, hap⟩ := hn
  obtain ⟨c1, c2⟩ := Rw.shape hi.row
  have hall : allCells (plC p ev wv nv) = true := by
    have e1 : ∀ (v : Value) (vs : List Value), allCells [v] = true → allCells (v :: vs) = allCells vs := fun v vs h => by
      simp only [allCells, List.all_cons, List.all_nil, Bool.and_true] at h ⊢
      rw [h, Bool.true_and]
    simp only [plC, all_int, e1 _ _ a2, e1 _ _ b2, e1 _ _ c2, all_nil]
  have st : stN 11 (.pointer (some ⟨rb, 0, none⟩)) (plV p ev wv nv) H1 = some (undef, H1.set rb (plB p ev wv nv)) := by
    have e1 : (plV p ev wv nv).cells.toList = plC p ev wv nv := rfl
    rw [x_stN 11 _ _ _ rfl, h.hr, e1, x_stC _ _ _ _ _ _ (by decide) (by rw [h.zl]; simp [plC]) hall]
    have hs : setCells zs 0 (plC p ev wv nv) = plC p ev wv nv := by
      match zs, h.zl with
      | [z1, z2, z3, z4, z5, z6, z7, z8, z9, z10, z11], _ => rfl
    rw [hs]
    rfl
  have hb2 : (H1.set rb (plB p ev wv nv))[rb]? = some (plB p ev wv nv) := List.getElem?_set_self hrl
  have l2 := ld_pl11 hb2
  have kp : ∀ (b : Nat) (cs : List Value) (e : TypeId), H1[b]? = some (.cells cs e .row) → (H1.set rb (plB p ev wv nv))[b]? = H1[b]? := fun b cs e hb => by
    refine List.getElem?_set_ne fun hh => ?_
    subst hh
    rw [h.hr] at hb
    simp at hb
  refine ⟨H1.set rb (plB p ev wv nv), plV p ev wv nv, ?_, hQ _ ⟨by rw [List.length_set]; exact h.ext.1, fun b hb _ => ?_⟩ (h.e.keep fun b hb => ?_) (h.w.keep fun b hb => ?_) ⟨us, hi.keep (fun b hb => ?_) (fun u hu b hb => ?_), hap⟩⟩
  · unfold f15_e3_6
    simp -implicitDefEqProofs only [r_opt, r_ret, ob_some, ifB_true, iteV_true, iteV_false, r_gdt, r_gdt2, r_gdtf, r_gdtf2, r_gdff, r_gdff2, r_gdft, r_gdft2, r_gdu, r_gdu2, pick_t, pick_f, ext_0, ext_1, x_newB, r_nil, r_fAddr, Nat.zero_add, b_lss, b_leq, b_gtr, b_geq, b_eql, b_neq, u_not, Bool.not_true, Bool.not_false, oneOf_one, oneOf_two, again_normal, again_exit, again_ret, Bool.and_true, l11, st, l2]
  · rw [List.getElem?_set_ne (by have := h.lr; omega), h.ext.2 b hb id]
  · obtain ⟨cs, hc⟩ := h.e.blk hb
    exact kp b cs _ hc
  · obtain ⟨cs, hc⟩ := h.w.blk hb
    exact kp b cs _ hc
  · obtain ⟨cs, hc⟩ := hi.row.blk hb
    exact kp b cs _ hc
  · obtain ⟨cs, hc⟩ := hi.blk hu hb
    exact kp b cs _ hc
def Made (H0 : Heap) (p : PlanD) (H2 : Heap) (u : Value) : Prop := ∃ ev wv nv, u = plV p ev wv nv ∧ Ext H0 H2 ∧ Ew H2 ev p.edges ∧ Iw H2 wv p.weights ∧ RowsA H0 H2 nv p.next wv
theorem make_rows {H0 : Heap} {pb rb n joined : Nat} {a4 : Value} {next : List Nat} {zs : List Value} (hn6 : n ≤ 6) (hnx : Us H0 a4 next) (hu8 : ∀ x ∈ next, x < 256) (hnl : next.length ≤ 72057594037927936) (hpn : p.nodes = (n : Int)) (hm : 50 < m) (hpx : p.next = (List.range n).map (mkRow n next)) : ∀ (q i k : Nat) (H1 : Heap) (nv1 : Value), n - i = q → i ≤ n → q < k → MS H0 H1 pb rb zs p ev wv nv1 p.edges p.weights → RowsA H0 H1 nv1 ((List.range i).map (mkRow n next)) wv → New H0 nv1 → ∀ (x0 x1 x2 x5 x6 x7 x8 x9 x12 x13 x14 x15 x18 x19 x20 x21 x22 x23 x24 x25 x26 x27 x28 x29 x30 x31 x32 x33 x34 x35 x36 x37 x38 x39 x40 x41 x42 x43 x44 x45 x46 x47 x48 x49 x50 x51 x52 x53 x54 x55 x56 x57 x58 x59 x60 x61 x62 x63 x64 x65 x66 x67 x68 x69 x70 x71 x72 x73 x74 x75 x76 x77 x78 x79 x80 x81 x82 x83 x84 x85 x86 x87 x88 x89 x90 x91 x92 x93 x94 x95 x96 x97 x98 x99 x100 x101 x102 x103 x104 x105 x106 x107 x108 x109 x110 x111 x112 x113 x114 x115 x116 x117 x118 x119 x120 x121 x122 x123 x124 x125 x126 x127 x128 x129 x130 x131 x132 x133 x134 x135 x136 x137 x138 : Value),
    ∃ H2 u2, loopN k (runCode Try.prog (lvl Try.prog pk12 m) (loopN m) f15_c3) (f15_k3 (lvl Try.prog pk12 m) (loopN m)) [x0, x1, x2, (.int .u16 joined), a4, x5, x6, x7, x8, x9, (.pointer (some ⟨rb, 0, none⟩)), (.pointer (some ⟨pb, 0, none⟩)), x12, x13, x14, x15, (.int .i64 (i * n : Nat)), (.int .i64 (i : Nat)), x18, x19, x20, x21, x22, x23, x24, x25, x26, x27, x28, x29, x30, x31, x32, x33, x34, x35, x36, x37, x38, x39, x40, x41, x42, x43, x44, x45, x46, x47, x48, x49, x50, x51, x52, x53, x54, x55, x56, x57, x58, x59, x60, x61, x62, x63, x64, x65, x66, x67, x68, x69, x70, x71, x72, x73, x74, x75, x76, x77, x78, x79, x80, x81, x82, x83, x84, x85, x86, x87, x88, x89, x90, x91, x92, x93, x94, x95, x96, x97, x98, x99, x100, x101, x102, x103, x104, x105, x106, x107, x108, x109, x110, x111, x112, x113, x114, x115, x116, x117, x118, x119, x120, x121, x122, x123, x124, x125, x126, x127, x128, x129, x130, x131, x132, x133, x134, x135, x136, x137, x138] H1 = some (u2, H2) ∧ Made H0 p H2 u2 := by
  intro q

  induction q with
  | zero =>
    intro i k H1 nv1 hr hi hk hM hR hnew
    intros
    obtain ⟨k, rfl⟩ : ∃ n, k = n + 1 := ⟨k - 1, by omega⟩
    obtain rfl : n = i := by omega
    have e : decide (((n : Nat) : Int) < (n : Nat)) = false := by simp
    have l0 := ld_pl hM.hb 0 _ rfl
    rw [hpn] at l0
    rw [loop_succ, f15_b3_eq]
    unfold f15_b3
    simp -implicitDefEqProofs only [r_opt, r_ret, ob_some, ifB_true, iteV_true, iteV_false, r_gdt, r_gdt2, r_gdtf, r_gdtf2, r_gdff, r_gdff2, r_gdft, r_gdft2, r_gdu, r_gdu2, pick_t, pick_f, ext_0, ext_1, x_newB, r_nil, r_fAddr, Nat.zero_add, b_lss, b_leq, b_gtr, b_geq, b_eql, b_neq, u_not, Bool.not_true, Bool.not_false, oneOf_one, oneOf_two, again_normal, again_exit, again_ret, Bool.and_true, l0, e]
    rw [f15_e3_6_eq]
    exact make_out hM hR (fun H2 g2 g3 g4 g5 => ⟨ev, wv, nv1, rfl, g2, g3, g4, by rw [hpx]; exact g5⟩) ..
  | succ q ih =>
    intro i k H1 nv1 hr hi hk hM hR hnew
    intros
    obtain ⟨k, rfl⟩ : ∃ n, k = n + 1 := ⟨k - 1, by omega⟩
    have e : decide ((i : Int) < (n : Nat)) = true := decide_eq_true (by omega)
    have e3 : IntKind.i64.wrap ((i : Int) + 1) = ((i + 1 : Nat) : Int) := by rw [wrap_i64 (by omega) (by omega)]; omega
    have l0 := ld_pl hM.hb 0 _ rfl
    rw [hpn] at l0
    rw [loop_succ, f15_b3_eq]
    unfold f15_b3
    simp -implicitDefEqProofs only [r_opt, r_ret, ob_some, ifB_true, iteV_true, iteV_false, r_gdt, r_gdt2, r_gdtf, r_gdtf2, r_gdff, r_gdff2, r_gdft, r_gdft2, r_gdu, r_gdu2, pick_t, pick_f, ext_0, ext_1, x_newB, r_nil, r_fAddr, Nat.zero_add, b_lss, b_leq, b_gtr, b_geq, b_eql, b_neq, u_not, Bool.not_true, Bool.not_false, oneOf_one, oneOf_two, again_normal, again_exit, again_ret, Bool.and_true, l0, e]
    have hz0 : i * n = i * n + 0 := rfl
    rw [hz0]
    refine make_row (H0 := H1) (b := pb) (rb := rb) (v := i) (zs := zs) (next := next) (Q := Made H0 p) hn6 (by omega) (hnx.ext hM.ext) hu8 hnl hpn hM.hr hM.hb ?_ n 0 m H1 (.slice none 0 0) (by omega) (by omega) (by omega) (Fr.refl _ _) (Rw.nil (el := inC)) (New.nil _) ..
    intro H2 u x2 hu hun
    intros
    have hM2 := hM.on x2
    obtain ⟨us, hi1, hap⟩ := hR
    have hi : RowsI H2 nv1 ((List.range i).map (mkRow n next)) us := hi1.keep (fun b hb => x2.2 b (hi1.row.lt hb) id) fun u hu b hb => x2.2 b (hi1.lt hu hb) id
    have l10 := ld_pl hM2.hb 10 _ rfl
    obtain ⟨s1, s2⟩ := Rw.shape hu
    have s3 : u.cells = #[u] := Array.toList_inj.mp s1
    obtain ⟨su, rfl⟩ : ∃ su : SV, su.1 = u := ⟨⟨u, s2, s3⟩, rfl⟩
    have hb1 := bld_one 24 (.slice none 0 0) su.1 s2 s3 H2
    obtain ⟨nv2, H3, H4, g1, g2, g3, g4, g5, g6, g7⟩ := push_field (by' := 24) sC_len sC_all (by decide) (j := 10) (H0 := H0) su hM2.hb (by simp [plC]) hi.row hnew hM.lp hM2.ext (roomy_mono (n := 1000) (by decide) (by have := hi.len; rw [List.length_map, List.length_range] at this; omega))
    have g1' : app 24 1 24 nv1 (.slice (some ⟨H2.length, 0, none⟩) 1 1) (H2 ++ [.cells [su.1] 24 .row]) = some (nv2, H3) := g1
    have hb4 : H4[pb]? = some (plB p ev wv nv2) := g6
    have e5 : IntKind.i64.wrap ((i : Int) + 1) = ((i + 1 : Nat) : Int) := e3
    unfold f15_e4_8
    simp -implicitDefEqProofs only [r_opt, r_ret, ob_some, ifB_true, iteV_true, iteV_false, r_gdt, r_gdt2, r_gdtf, r_gdtf2, r_gdff, r_gdff2, r_gdft, r_gdft2, r_gdu, r_gdu2, pick_t, pick_f, ext_0, ext_1, x_newB, r_nil, r_fAddr, Nat.zero_add, b_lss, b_leq, b_gtr, b_geq, b_eql, b_neq, u_not, Bool.not_true, Bool.not_false, oneOf_one, oneOf_two, again_normal, again_exit, again_ret, Bool.and_true, l10, hb1, g1', g2, b_add, e5]
    have kI : ∀ (w : Value) (xs : List Int), Iw H2 w xs → Iw H4 w xs := fun w xs hw => Rw.keepX hw g7 hM2.hb (by decide)
    refine ih (i + 1) k H4 nv2 (by omega) (by omega) (by omega) ⟨g5, hb4, g7 _ _ hM.ne (fun cs hh => by cases hh) hM2.hr, Rw.keepX hM2.e g7 hM2.hb (by decide), hM.en, kI _ _ hM2.w, hM.wn, hM.ne, hM.lp, hM.lr, hM.zl⟩ ⟨us ++ [su], ⟨g3, ?_, ?_, ?_⟩, ?_⟩ g4 ..
    · rw [List.length_append, hi.len]
      simp
    · intro j w xs hw hxs
      rw [List.range_succ, List.map_append] at hxs
      by_cases hj : j < us.length
      · rw [List.getElem?_append_left hj] at hw
        rw [List.getElem?_append_left (by rw [← hi.len]; exact hj)] at hxs
        exact kI _ _ (hi.el j w xs hw hxs)
      · rw [List.getElem?_append_right (by omega)] at hw
        rw [List.getElem?_append_right (by rw [← hi.len]; omega), ← hi.len] at hxs
        by_cases h0 : j - us.length = 0
        · rw [h0] at hw hxs
          cases hw
          cases hxs
          exact kI _ _ hu
        · rw [List.getElem?_eq_none (by simp; omega)] at hw
          cases hw
    · intro j j' w w' hjj hw hw' bb hb1' hb2'
      by_cases hj' : j' < us.length
      · rw [List.getElem?_append_left hj'] at hw'
        rw [List.getElem?_append_left (by omega)] at hw
        exact hi.ap j j' w w' hjj hw hw' bb hb1' hb2'
      · rw [List.getElem?_append_right (by omega)] at hw'
        by_cases h0 : j' - us.length = 0
        · rw [h0] at hw'
          cases hw'
          rw [List.getElem?_append_left (by omega)] at hw
          have h1 := hi1.lt (List.mem_of_getElem? hw) hb1'
          have h2 := hun bb hb2'
          omega
        · rw [List.getElem?_eq_none (by simp; omega)] at hw'
          cases hw'
    · intro w hw bb hb1'
      rcases List.mem_append.mp hw with hw | hw
      · exact hap w hw bb hb1'
      · have : w = su := by simpa using hw
        subst this
        have h1 := hun bb hb1'
        have h3 := hM.ext.1
        exact ⟨fun hb2' => by have h2 := hM.w.lt hb2'; omega, by omega⟩
theorem selE_snoc (a b : Nat) : ∀ (L : List (Nat × Nat)) (bit : Nat), selE bit (L ++ [(a, b)]) = selE bit L ++ (if bit / 2 ^ L.length % 2 = 1 then [((a : Int), (b : Int))] else [])
  | [], bit => by
    simp only [List.nil_append, selE, List.length_nil, Nat.pow_zero, Nat.div_one]
  | (c, d) :: L, bit => by
    have ih := selE_snoc a b L (bit / 2)
    have hp : bit / 2 / 2 ^ L.length = bit / 2 ^ (L.length + 1) := by rw [Nat.div_div_eq_div_mul, Nat.pow_succ, Nat.mul_comm]
    rw [hp] at ih
    simp only [List.cons_append, selE, List.length_cons, ih]
    by_cases h : bit % 2 = 1
    · rw [if_pos h, if_pos h]; rfl
    · rw [if_neg h, if_neg h]
theorem selE_len : ∀ (L : List (Nat × Nat)) (bit : Nat), (selE bit L).length ≤ L.length
  | [], _ => Nat.le_refl _
  | (c, d) :: L, bit => by
    have ih := selE_len L (bit / 2)
    unfold selE
    split
    · simp only [List.length_cons]; omega
    · simp only [List.length_cons]; omega
theorem prs_succ (n : Nat) : prs (n + 1) = prs n ++ (List.range n).map fun a => (a, n) := by
  unfold prs
  rw [List.range_succ, List.flatMap_append]
  simp
theorem prs_len : ∀ n, (prs n).length ≤ n * n
  | 0 => by simp [prs]
  | n + 1 => by
    have := prs_len n
    rw [prs_succ, List.length_append, List.length_map, List.length_range]
    have e : (n + 1) * (n + 1) = n * n + n + n + 1 := by rw [Nat.succ_mul, Nat.mul_succ]; omega
    omega
theorem halve (bit k : Nat) : bit / 2 ^ k / 2 = bit / 2 ^ (k + 1) := by rw [Nat.div_div_eq_div_mul, Nat.pow_succ]
theorem make_a {H0 : Heap} {pb rb B joined : Nat} {a4 : Value} {zs : List Value} {Wt : List Int} (hB : B ≤ 6) (hj : joined < 65536) {Q : Heap → Value → Prop} {K : Ex → K (Value × Heap)}
    (hK : ∀ (H' : Heap) (ev' : Value), MS H0 H' pb rb zs p ev' wv nv (selE joined (prs (B + 1))) Wt → ∀ (x0 x1 x2 x5 x6 x7 x8 x9 x12 x15 x16 x17 x18 x19 x20 x21 x22 x23 x24 x25 x26 x27 x28 x29 x30 x31 x32 x33 x34 x35 x36 x37 x38 x39 x40 x41 x42 x43 x44 x45 x46 x47 x48 x49 x50 x51 x52 x53 x54 x55 x56 x57 x58 x59 x60 x61 x62 x63 x64 x65 x66 x67 x68 x69 x70 x71 x72 x73 x74 x75 x76 x77 x78 x79 x80 x81 x82 x83 x84 x85 x86 x87 x88 x89 x90 x91 x92 x93 x94 x95 x96 x97 x98 x99 x100 x101 x102 x103 x104 x105 x106 x107 x108 x109 x110 x111 x112 x113 x114 x115 x116 x117 x118 x119 x120 x121 x122 x123 x124 x125 x126 x127 x128 x129 x130 x131 x132 x133 x134 x135 x136 x137 x138 : Value), ∃ H2 u2, K .normal [x0, x1, x2, (.int .u16 joined), a4, x5, x6, x7, x8, x9, (.pointer (some ⟨rb, 0, none⟩)), (.pointer (some ⟨pb, 0, none⟩)), x12, (.int .u16 (joined / 2 ^ (prs (B + 1)).length : Nat)), (.int .i64 (IntKind.i64.wrap ((B : Int) + 1))), x15, x16, x17, x18, x19, x20, x21, x22, x23, x24, x25, x26, x27, x28, x29, x30, x31, x32, x33, x34, x35, x36, x37, x38, x39, x40, x41, x42, x43, x44, x45, x46, x47, x48, x49, x50, x51, x52, x53, x54, x55, x56, x57, x58, x59, x60, x61, x62, x63, x64, x65, x66, x67, x68, x69, x70, x71, x72, x73, x74, x75, x76, x77, x78, x79, x80, x81, x82, x83, x84, x85, x86, x87, x88, x89, x90, x91, x92, x93, x94, x95, x96, x97, x98, x99, x100, x101, x102, x103, x104, x105, x106, x107, x108, x109, x110, x111, x112, x113, x114, x115, x116, x117, x118, x119, x120, x121, x122, x123, x124, x125, x126, x127, x128, x129, x130, x131, x132, x133, x134, x135, x136, x137, x138] H' = some (u2, H2) ∧ Q H2 u2) : ∀ (q i k : Nat) (H1 : Heap) (ev1 : Value), B - i = q → i ≤ B → q < k → MS H0 H1 pb rb zs p ev1 wv nv (selE joined (prs B ++ (List.range i).map fun a => (a, B))) Wt → ∀ (x0 x1 x2 x5 x6 x7 x8 x9 x12 x16 x17 x18 x19 x20 x21 x22 x23 x24 x25 x26 x27 x28 x29 x30 x31 x32 x33 x34 x35 x36 x37 x38 x39 x40 x41 x42 x43 x44 x45 x46 x47 x48 x49 x50 x51 x52 x53 x54 x55 x56 x57 x58 x59 x60 x61 x62 x63 x64 x65 x66 x67 x68 x69 x70 x71 x72 x73 x74 x75 x76 x77 x78 x79 x80 x81 x82 x83 x84 x85 x86 x87 x88 x89 x90 x91 x92 x93 x94 x95 x96 x97 x98 x99 x100 x101 x102 x103 x104 x105 x106 x107 x108 x109 x110 x111 x112 x113 x114 x115 x116 x117 x118 x119 x120 x121 x122 x123 x124 x125 x126 x127 x128 x129 x130 x131 x132 x133 x134 x135 x136 x137 x138 : Value),
    ∃ H2 u2, loopN k (runCode Try.prog (lvl Try.prog pk12 m) (loopN m) f15_c2) (f15_k2 (lvl Try.prog pk12 m) (loopN m) K) [x0, x1, x2, (.int .u16 joined), a4, x5, x6, x7, x8, x9, (.pointer (some ⟨rb, 0, none⟩)), (.pointer (some ⟨pb, 0, none⟩)), x12, (.int .u16 (joined / 2 ^ ((prs B).length + i) : Nat)), (.int .i64 (B : Nat)), (.int .i64 (i : Nat)), x16, x17, x18, x19, x20, x21, x22, x23, x24, x25, x26, x27, x28, x29, x30, x31, x32, x33, x34, x35, x36, x37, x38, x39, x40, x41, x42, x43, x44, x45, x46, x47, x48, x49, x50, x51, x52, x53, x54, x55, x56, x57, x58, x59, x60, x61, x62, x63, x64, x65, x66, x67, x68, x69, x70, x71, x72, x73, x74, x75, x76, x77, x78, x79, x80, x81, x82, x83, x84, x85, x86, x87, x88, x89, x90, x91, x92, x93, x94, x95, x96, x97, x98, x99, x100, x101, x102, x103, x104, x105, x106, x107, x108, x109, x110, x111, x112, x113, x114, x115, x116, x117, x118, x119, x120, x121, x122, x123, x124, x125, x126, x127, x128, x129, x130, x131, x132, x133, x134, x135, x136, x137, x138] H1 = some (u2, H2) ∧ Q H2 u2 := by
  intro q

  induction q with
  | zero =>
    intro i k H1 ev1 hr hi hk hM
    intros
    obtain ⟨k, rfl⟩ : ∃ n, k = n + 1 := ⟨k - 1, by omega⟩
    obtain rfl : B = i := by omega
    have e : decide (((B : Nat) : Int) < (B : Nat)) = false := by simp
    rw [← prs_succ] at hM
    have hl : (prs B).length + B = (prs (B + 1)).length := by rw [prs_succ, List.length_append, List.length_map, List.length_range]
    rw [hl]
    rw [loop_succ, f15_b2_eq]
    unfold f15_b2
    simp -implicitDefEqProofs only [r_opt, r_ret, ob_some, ifB_true, iteV_true, iteV_false, r_gdt, r_gdt2, r_gdtf, r_gdtf2, r_gdff, r_gdff2, r_gdft, r_gdft2, r_gdu, r_gdu2, pick_t, pick_f, ext_0, ext_1, x_newB, r_nil, r_fAddr, Nat.zero_add, b_lss, b_leq, b_gtr, b_geq, b_eql, b_neq, u_not, Bool.not_true, Bool.not_false, oneOf_one, oneOf_two, again_normal, again_exit, again_ret, Bool.and_true, e]
    rw [f15_e2_4_eq]
    unfold f15_e2_4
    simp -implicitDefEqProofs only [r_opt, r_ret, ob_some, ifB_true, iteV_true, iteV_false, r_gdt, r_gdt2, r_gdtf, r_gdtf2, r_gdff, r_gdff2, r_gdft, r_gdft2, r_gdu, r_gdu2, pick_t, pick_f, ext_0, ext_1, x_newB, r_nil, r_fAddr, Nat.zero_add, b_lss, b_leq, b_gtr, b_geq, b_eql, b_neq, u_not, Bool.not_true, Bool.not_false, oneOf_one, oneOf_two, again_normal, again_exit, again_ret, Bool.and_true, b_add]
    exact hK H1 ev1 hM ..
  | succ q ih =>
    intro i k H1 ev1 hr hi hk hM
    intros
    obtain ⟨k, rfl⟩ : ∃ n, k = n + 1 := ⟨k - 1, by omega⟩
    have e : decide ((i : Int) < (B : Nat)) = true := decide_eq_true (by omega)
    have e3 : IntKind.i64.wrap ((i : Int) + 1) = ((i + 1 : Nat) : Int) := by rw [wrap_i64 (by omega) (by omega)]; omega
    have hpl := prs_len B
    have hpl2 : B * B ≤ 36 := Nat.mul_le_mul hB hB
    have hbit : joined / 2 ^ ((prs B).length + i) < 65536 := Nat.lt_of_le_of_lt (Nat.div_le_self _ _) hj
    have r2 := rem16 (joined / 2 ^ ((prs B).length + i)) 2 2 rfl (by omega)
    have q2 := quo16 (joined / 2 ^ ((prs B).length + i)) 2 2 rfl (by omega) hbit
    rw [halve, Nat.add_assoc] at q2
    have l1 := ld_pl hM.hb 1 _ rfl
    have hlen : (prs B ++ (List.range i).map fun a => (a, B)).length = (prs B).length + i := by rw [List.length_append, List.length_map, List.length_range]
    have hsn := selE_snoc i B (prs B ++ (List.range i).map fun a => (a, B)) joined
    rw [hlen] at hsn
    have hap : prs B ++ (List.range (i + 1)).map (fun a => (a, B)) = (prs B ++ (List.range i).map fun a => (a, B)) ++ [(i, B)] := by rw [List.range_succ, List.map_append, List.append_assoc]; rfl
    have hsl := selE_len (prs B ++ (List.range i).map fun a => (a, B)) joined
    rw [hlen] at hsl
    rw [loop_succ, f15_b2_eq]
    unfold f15_b2
    by_cases c : joined / 2 ^ ((prs B).length + i) % 2 = 1
    · have d : (((joined / 2 ^ ((prs B).length + i) % 2 : Nat) : Int) == 1) = true := by rw [c]; rfl
      rw [if_pos c] at hsn
      obtain ⟨ev2, H3, H4, g1, g2, g3, g4, g5, g6, g7⟩ := push_field (by' := 16) edC_len edC_all (by decide) (j := 1) (H0 := H0) ((i : Int), (B : Int)) hM.hb (by simp [plC]) hM.e hM.en hM.lp hM.ext (roomy_mono (n := 1000) (by decide) (by omega))
      have hb4 : H4[pb]? = some (plB p ev2 wv nv) := g6
      simp -implicitDefEqProofs only [r_opt, r_ret, ob_some, ifB_true, iteV_true, iteV_false, r_gdt, r_gdt2, r_gdtf, r_gdtf2, r_gdff, r_gdff2, r_gdft, r_gdft2, r_gdu, r_gdu2, pick_t, pick_f, ext_0, ext_1, x_newB, r_nil, r_fAddr, Nat.zero_add, b_lss, b_leq, b_gtr, b_geq, b_eql, b_neq, u_not, Bool.not_true, Bool.not_false, oneOf_one, oneOf_two, again_normal, again_exit, again_ret, Bool.and_true, e, r2, d, l1, bEd, bldEd, g1, g2, q2, b_add, e3]
      exact ih (i + 1) k H4 ev2 (by omega) (by omega) (by omega) ⟨g5, hb4, g7 _ _ hM.ne (fun cs hh => by cases hh) hM.hr, by rw [hap, hsn]; exact g3, g4, Rw.keepX hM.w g7 hM.hb (by decide), hM.wn, hM.ne, hM.lp, hM.lr, hM.zl⟩ ..
    · have d : (((joined / 2 ^ ((prs B).length + i) % 2 : Nat) : Int) == 1) = false := beq_eq_false_iff_ne.mpr (fun h => c (Int.ofNat.inj h))
      rw [if_neg c, List.append_nil] at hsn
      simp -implicitDefEqProofs only [r_opt, r_ret, ob_some, ifB_true, iteV_true, iteV_false, r_gdt, r_gdt2, r_gdtf, r_gdtf2, r_gdff, r_gdff2, r_gdft, r_gdft2, r_gdu, r_gdu2, pick_t, pick_f, ext_0, ext_1, x_newB, r_nil, r_fAddr, Nat.zero_add, b_lss, b_leq, b_gtr, b_geq, b_eql, b_neq, u_not, Bool.not_true, Bool.not_false, oneOf_one, oneOf_two, again_normal, again_exit, again_ret, Bool.and_true, e, r2, d, q2, b_add, e3]
      exact ih (i + 1) k H1 ev1 (by omega) (by omega) (by omega) (by rw [hap, hsn]; exact hM) ..
theorem make_b {H0 : Heap} {pb rb n joined : Nat} {a4 : Value} {next : List Nat} {zs : List Value} (hn6 : n ≤ 6) (hnx : Us H0 a4 next) (hu8 : ∀ x ∈ next, x < 256) (hnl : next.length ≤ 72057594037927936) (hpn : p.nodes = (n : Int)) (hm : 50 < m) (hj : joined < 65536) (hpx : p.next = (List.range n).map (mkRow n next)) (hpe : p.edges = selE joined (prs n)) (hn1 : 1 ≤ n) : ∀ (q i k : Nat) (H1 : Heap) (ev1 : Value), n - i = q → i ≤ n → q < k → 1 ≤ i → MS H0 H1 pb rb zs p ev1 wv (.slice none 0 0) (selE joined (prs i)) p.weights → ∀ (x0 x1 x2 x5 x6 x7 x8 x9 x12 x15 x16 x17 x18 x19 x20 x21 x22 x23 x24 x25 x26 x27 x28 x29 x30 x31 x32 x33 x34 x35 x36 x37 x38 x39 x40 x41 x42 x43 x44 x45 x46 x47 x48 x49 x50 x51 x52 x53 x54 x55 x56 x57 x58 x59 x60 x61 x62 x63 x64 x65 x66 x67 x68 x69 x70 x71 x72 x73 x74 x75 x76 x77 x78 x79 x80 x81 x82 x83 x84 x85 x86 x87 x88 x89 x90 x91 x92 x93 x94 x95 x96 x97 x98 x99 x100 x101 x102 x103 x104 x105 x106 x107 x108 x109 x110 x111 x112 x113 x114 x115 x116 x117 x118 x119 x120 x121 x122 x123 x124 x125 x126 x127 x128 x129 x130 x131 x132 x133 x134 x135 x136 x137 x138 : Value),
    ∃ H2 u2, loopN k (runCode Try.prog (lvl Try.prog pk12 m) (loopN m) f15_c1) (f15_k1 (lvl Try.prog pk12 m) (loopN m)) [x0, x1, x2, (.int .u16 joined), a4, x5, x6, x7, x8, x9, (.pointer (some ⟨rb, 0, none⟩)), (.pointer (some ⟨pb, 0, none⟩)), x12, (.int .u16 (joined / 2 ^ (prs i).length : Nat)), (.int .i64 (i : Nat)), x15, x16, x17, x18, x19, x20, x21, x22, x23, x24, x25, x26, x27, x28, x29, x30, x31, x32, x33, x34, x35, x36, x37, x38, x39, x40, x41, x42, x43, x44, x45, x46, x47, x48, x49, x50, x51, x52, x53, x54, x55, x56, x57, x58, x59, x60, x61, x62, x63, x64, x65, x66, x67, x68, x69, x70, x71, x72, x73, x74, x75, x76, x77, x78, x79, x80, x81, x82, x83, x84, x85, x86, x87, x88, x89, x90, x91, x92, x93, x94, x95, x96, x97, x98, x99, x100, x101, x102, x103, x104, x105, x106, x107, x108, x109, x110, x111, x112, x113, x114, x115, x116, x117, x118, x119, x120, x121, x122, x123, x124, x125, x126, x127, x128, x129, x130, x131, x132, x133, x134, x135, x136, x137, x138] H1 = some (u2, H2) ∧ Made H0 p H2 u2 := by
  intro q

  induction q with
  | zero =>
    intro i k H1 ev1 hr hi hk h1i hM
    intros
    obtain ⟨k, rfl⟩ : ∃ n, k = n + 1 := ⟨k - 1, by omega⟩
    obtain rfl : n = i := by omega
    have e : decide (((n : Nat) : Int) < (n : Nat)) = false := by simp
    have l0 := ld_pl hM.hb 0 _ rfl
    rw [hpn] at l0
    rw [← hpe] at hM
    rw [loop_succ, f15_b1_eq]
    unfold f15_b1
    simp -implicitDefEqProofs only [r_opt, r_ret, ob_some, ifB_true, iteV_true, iteV_false, r_gdt, r_gdt2, r_gdtf, r_gdtf2, r_gdff, r_gdff2, r_gdft, r_gdft2, r_gdu, r_gdu2, pick_t, pick_f, ext_0, ext_1, x_newB, r_nil, r_fAddr, Nat.zero_add, b_lss, b_leq, b_gtr, b_geq, b_eql, b_neq, u_not, Bool.not_true, Bool.not_false, oneOf_one, oneOf_two, again_normal, again_exit, again_ret, Bool.and_true, l0, e]
    rw [f15_e1_2_eq]
    unfold f15_e1_2
    have := make_rows (m := m) (pb := pb) (rb := rb) (zs := zs) (wv := wv) (ev := ev1) (joined := joined) hn6 hnx hu8 hnl hpn hm hpx n 0 m H1 (.slice none 0 0) (by omega) (by omega) (by omega) hM ⟨[], ⟨Rw.nil, rfl, fun j u xs h => by simp at h, fun j j' u u' _ h => by simp at h⟩, fun u hu => by cases hu⟩ (New.nil _)
    rw [Nat.zero_mul] at this
    exact this ..
  | succ q ih =>
    intro i k H1 ev1 hr hi hk h1i hM
    intros
    obtain ⟨k, rfl⟩ : ∃ n, k = n + 1 := ⟨k - 1, by omega⟩
    have e : decide ((i : Int) < (n : Nat)) = true := decide_eq_true (by omega)
    have e3 : IntKind.i64.wrap ((i : Int) + 1) = ((i + 1 : Nat) : Int) := by rw [wrap_i64 (by omega) (by omega)]; omega
    have l0 := ld_pl hM.hb 0 _ rfl
    rw [hpn] at l0
    rw [loop_succ, f15_b1_eq]
    unfold f15_b1
    simp -implicitDefEqProofs only [r_opt, r_ret, ob_some, ifB_true, iteV_true, iteV_false, r_gdt, r_gdt2, r_gdtf, r_gdtf2, r_gdff, r_gdff2, r_gdft, r_gdft2, r_gdu, r_gdu2, pick_t, pick_f, ext_0, ext_1, x_newB, r_nil, r_fAddr, Nat.zero_add, b_lss, b_leq, b_gtr, b_geq, b_eql, b_neq, u_not, Bool.not_true, Bool.not_false, oneOf_one, oneOf_two, again_normal, again_exit, again_ret, Bool.and_true, l0, e]
    refine make_a (H0 := H0) (pb := pb) (rb := rb) (B := i) (joined := joined) (zs := zs) (wv := wv) (Wt := p.weights) (Q := Made H0 p) (by omega) hj ?_ i 0 m H1 ev1 (by omega) (by omega) (by omega) (by simpa using hM) ..
    intro H2 ev2 hM2
    intros
    rw [again_normal, e3]
    exact ih (i + 1) k H2 ev2 (by omega) (by omega) (by omega) (by omega) hM2 ..
theorem make_w {H0 : Heap} {pb rb n joined : Nat} {a4 : Value} {next : List Nat} {zs : List Value} (hn6 : n ≤ 6) (hnx : Us H0 a4 next) (hu8 : ∀ x ∈ next, x < 256) (hnl : next.length ≤ 72057594037927936) (hpn : p.nodes = (n : Int)) (hm : 50 < m) {more : Nat} (hmore : more < 256) (hj : joined < 65536) (hpx : p.next = (List.range n).map (mkRow n next)) (hpe : p.edges = selE joined (prs n)) (hpw : p.weights = (List.range (1 + more % 3)).map (mkW more)) (hpl : p.lanes = ((1 + more % 3 : Nat) : Int)) (hn1 : 1 ≤ n) : ∀ (q i k : Nat) (H1 : Heap) (wv1 : Value), (1 + more % 3) - i = q → i ≤ (1 + more % 3) → q < k → MS H0 H1 pb rb zs p (.slice none 0 0) wv1 (.slice none 0 0) [] ((List.range i).map (mkW more)) → ∀ (x0 x1 x5 x6 x7 x8 x9 x13 x14 x15 x16 x17 x18 x19 x20 x21 x22 x23 x24 x25 x26 x27 x28 x29 x30 x31 x32 x33 x34 x35 x36 x37 x38 x39 x40 x41 x42 x43 x44 x45 x46 x47 x48 x49 x50 x51 x52 x53 x54 x55 x56 x57 x58 x59 x60 x61 x62 x63 x64 x65 x66 x67 x68 x69 x70 x71 x72 x73 x74 x75 x76 x77 x78 x79 x80 x81 x82 x83 x84 x85 x86 x87 x88 x89 x90 x91 x92 x93 x94 x95 x96 x97 x98 x99 x100 x101 x102 x103 x104 x105 x106 x107 x108 x109 x110 x111 x112 x113 x114 x115 x116 x117 x118 x119 x120 x121 x122 x123 x124 x125 x126 x127 x128 x129 x130 x131 x132 x133 x134 x135 x136 x137 x138 : Value),
    ∃ H2 u2, loopN k (runCode Try.prog (lvl Try.prog pk12 m) (loopN m) f15_c0) (f15_k0 (lvl Try.prog pk12 m) (loopN m)) [x0, x1, (.int .u8 more), (.int .u16 joined), a4, x5, x6, x7, x8, x9, (.pointer (some ⟨rb, 0, none⟩)), (.pointer (some ⟨pb, 0, none⟩)), (.int .i64 (i : Nat)), x13, x14, x15, x16, x17, x18, x19, x20, x21, x22, x23, x24, x25, x26, x27, x28, x29, x30, x31, x32, x33, x34, x35, x36, x37, x38, x39, x40, x41, x42, x43, x44, x45, x46, x47, x48, x49, x50, x51, x52, x53, x54, x55, x56, x57, x58, x59, x60, x61, x62, x63, x64, x65, x66, x67, x68, x69, x70, x71, x72, x73, x74, x75, x76, x77, x78, x79, x80, x81, x82, x83, x84, x85, x86, x87, x88, x89, x90, x91, x92, x93, x94, x95, x96, x97, x98, x99, x100, x101, x102, x103, x104, x105, x106, x107, x108, x109, x110, x111, x112, x113, x114, x115, x116, x117, x118, x119, x120, x121, x122, x123, x124, x125, x126, x127, x128, x129, x130, x131, x132, x133, x134, x135, x136, x137, x138] H1 = some (u2, H2) ∧ Made H0 p H2 u2 := by
  intro q

  induction q with
  | zero =>
    intro i k H1 wv1 hr hi hk hM
    intros
    obtain ⟨k, rfl⟩ : ∃ n, k = n + 1 := ⟨k - 1, by omega⟩
    obtain rfl : (1 + more % 3) = i := by omega
    have e : decide ((((1 + more % 3) : Nat) : Int) < ((1 + more % 3) : Nat)) = false := by simp
    have l2 := ld_pl hM.hb 2 _ rfl
    rw [hpl] at l2
    rw [← hpw] at hM
    rw [loop_succ, f15_b0_eq]
    unfold f15_b0
    simp -implicitDefEqProofs only [r_opt, r_ret, ob_some, ifB_true, iteV_true, iteV_false, r_gdt, r_gdt2, r_gdtf, r_gdtf2, r_gdff, r_gdff2, r_gdft, r_gdft2, r_gdu, r_gdu2, pick_t, pick_f, ext_0, ext_1, x_newB, r_nil, r_fAddr, Nat.zero_add, b_lss, b_leq, b_gtr, b_geq, b_eql, b_neq, u_not, Bool.not_true, Bool.not_false, oneOf_one, oneOf_two, again_normal, again_exit, again_ret, Bool.and_true, l2, e]
    rw [f15_e0_0_eq]
    unfold f15_e0_0
    have := make_b (m := m) (pb := pb) (rb := rb) (zs := zs) (wv := wv1) (joined := joined) hn6 hnx hu8 hnl hpn hm hj hpx hpe hn1 (n - 1) 1 m H1 (.slice none 0 0) rfl hn1 (by omega) (Nat.le_refl _) hM
    have hp1 : joined / 2 ^ (prs 1).length = joined := by
      have : (prs 1).length = 0 := rfl
      rw [this, Nat.pow_zero, Nat.div_one]
    rw [hp1] at this
    exact this ..
  | succ q ih =>
    intro i k H1 wv1 hr hi hk hM
    intros
    obtain ⟨k, rfl⟩ : ∃ n, k = n + 1 := ⟨k - 1, by omega⟩
    have e : decide ((i : Int) < ((1 + more % 3) : Nat)) = true := decide_eq_true (by omega)
    have e3 : IntKind.i64.wrap ((i : Int) + 1) = ((i + 1 : Nat) : Int) := by rw [wrap_i64 (by omega) (by omega)]; omega
    have l2 := ld_pl hM.hb 2 _ rfl
    rw [hpl] at l2
    have l8 := ld_pl hM.hb 8 _ rfl
    have hcv := fun H => cvU H more hmore
    have a1 : IntKind.i64.wrap ((i : Int) + (more : Int)) = ((i + more : Nat) : Int) := by rw [wrap_i64 (by omega) (by omega)]; omega
    have a2 := remI (i + more) 5 5 rfl (by omega)
    have a3 : IntKind.i64.wrap (1 + ((((i + more) % 5 : Nat)) : Int)) = mkW more i := by unfold mkW; rw [wrap_i64 (by omega) (by omega)]; omega
    obtain ⟨wv2, H2, H3, g1, g2, g3, g4, g5, g6, g7⟩ := push_field (by' := 8) inC_len inC_all (by decide) (j := 8) (H0 := H0) (mkW more i) hM.hb (by simp [plC]) hM.w hM.wn hM.lp hM.ext (roomy_mono (n := 1000) (by decide) (by simp; omega))
    have hb3 : H3[pb]? = some (plB p (.slice none 0 0) wv2 (.slice none 0 0)) := g6
    rw [loop_succ, f15_b0_eq]
    unfold f15_b0
    simp -implicitDefEqProofs only [r_opt, r_ret, ob_some, ifB_true, iteV_true, iteV_false, r_gdt, r_gdt2, r_gdtf, r_gdtf2, r_gdff, r_gdff2, r_gdft, r_gdft2, r_gdu, r_gdu2, pick_t, pick_f, ext_0, ext_1, x_newB, r_nil, r_fAddr, Nat.zero_add, b_lss, b_leq, b_gtr, b_geq, b_eql, b_neq, u_not, Bool.not_true, Bool.not_false, oneOf_one, oneOf_two, again_normal, again_exit, again_ret, Bool.and_true, l2, e, l8, hcv, b_add, a1, a2, a3, bldI, g1, g2, e3]
    exact ih (i + 1) k H3 wv2 (by omega) (by omega) (by omega) ⟨g5, hb3, g7 _ _ hM.ne (fun cs hh => by cases hh) hM.hr, Rw.nil, New.nil _, by rw [List.range_succ, List.map_append]; exact g3, g4, hM.ne, hM.lp, hM.lr, hM.zl⟩ ..
theorem bPl (a b c d e f g h : Int) : bld Try.prog 27 [(0, .int .i64 a), (2, .int .i64 b), (3, .int .i64 c), (4, .int .i64 d), (5, .int .i64 e), (6, .int .i64 f), (7, .int .i64 g), (9, .int .u16 h)] = some (.agg #[.int .i64 a, .slice none 0 0, .int .i64 b, .int .i64 c, .int .i64 d, .int .i64 e, .int .i64 f, .int .i64 g, .slice none 0 0, .int .u16 h, .slice none 0 0]) := by kernel_rfl
theorem make_is (nodes room more joined : Nat) (h1 : nodes < 256) (h2 : room < 256) (h3 : more < 256) (h4 : joined < 65536) {a4 : Value} {next : List Nat} (hnx : Us H a4 next) (hu8 : ∀ x ∈ next, x < 256) (hnl : next.length ≤ 72057594037927936) (hm : 60 < m) :
    ∃ H2 u, lvl Try.prog pk12 m (.func 15) [.int .u8 nodes, .int .u8 room, .int .u8 more, .int .u16 joined, a4] H = some (u, H2) ∧ Made H (mkP nodes room more joined next) H2 u := by
  obtain ⟨p, hp⟩ : ∃ p, p = mkP nodes room more joined next := ⟨_, rfl⟩
  rw [← hp]
  obtain ⟨zs, hzs⟩ : ∃ zs, zs = [Value.int .i64 0, .slice none 0 0, .int .i64 0, .int .i64 0, .int .i64 0, .int .i64 0, .int .i64 0, .int .i64 0, .slice none 0 0, .int .u16 0, .slice none 0 0] := ⟨_, rfl⟩
  obtain ⟨H1, hH1⟩ : ∃ H1, H1 = H ++ [Blk.cells zs 27 .fix] := ⟨_, rfl⟩
  have x1 : Ext H H1 := by rw [hH1]; exact Fr.app _ _ _
  have n1 := remU nodes 5 5 rfl (by omega)
  have n2 := fun H => cvU H (nodes % 5) (by omega)
  have n3 : IntKind.i64.wrap (2 + ((nodes % 5 : Nat) : Int)) = p.nodes := by rw [wrap_i64 (by omega) (by omega), hp]; simp [mkP, mkN]
  have n4 := remU more 3 3 rfl (by omega)
  have n5 := fun H => cvU H (more % 3) (by omega)
  have n6 : IntKind.i64.wrap (1 + ((more % 3 : Nat) : Int)) = p.lanes := by rw [wrap_i64 (by omega) (by omega), hp]; simp [mkP]
  have r1 := remU room 8 8 rfl (by omega)
  have r2 := fun H => cvU H (room % 8) (by omega)
  have r3 : IntKind.i64.wrap (1 + ((room % 8 : Nat) : Int)) = p.room := by rw [wrap_i64 (by omega) (by omega), hp]; simp [mkP]
  have r4 := quoU room 8 8 rfl (by omega) h2
  have r5 := remU (room / 8) 8 8 rfl (by omega)
  have r6 := fun H => cvU H (room / 8 % 8) (by omega)
  have r7 : IntKind.i64.wrap (1 + ((room / 8 % 8 : Nat) : Int)) = p.queue := by rw [wrap_i64 (by omega) (by omega), hp]; simp [mkP]
  have m1 := quoU more 3 3 rfl (by omega) h3
  have m2 := remU (more / 3) 4 4 rfl (by omega)
  have m3 := fun H => cvU H (more / 3 % 4) (by omega)
  have m4 : IntKind.i64.wrap (1 + ((more / 3 % 4 : Nat) : Int)) = p.rounds := by rw [wrap_i64 (by omega) (by omega), hp]; simp [mkP]
  have m5 := quoU more 12 12 rfl (by omega) h3
  have m6 := remU (more / 12) 8 8 rfl (by omega)
  have m7 := fun H => cvU H (more / 12 % 8) (by omega)
  have m8 : IntKind.i64.wrap (1 + ((more / 12 % 8 : Nat) : Int)) = p.every := by rw [wrap_i64 (by omega) (by omega), hp]; simp [mkP]
  have b64 : p.bag = 64 := by rw [hp]; rfl
  have bst : p.start = joined := by rw [hp]; rfl
  obtain ⟨H2, hH2⟩ : ∃ H2, H2 = H1 ++ [plB p (.slice none 0 0) (.slice none 0 0) (.slice none 0 0)] := ⟨_, rfl⟩
  have x2 : Ext H1 H2 := by rw [hH2]; exact Fr.app _ _ _
  have st : stN 11 (.pointer (some ⟨H1.length, 0, none⟩)) (.agg #[.int .i64 p.nodes, .slice none 0 0, .int .i64 p.lanes, .int .i64 p.room, .int .i64 p.queue, .int .i64 p.rounds, .int .i64 p.every, .int .i64 64, .slice none 0 0, .int .u16 joined, .slice none 0 0]) (H1 ++ [.cells zs 27 .fix]) = some (undef, H2) := by
    rw [x_stN 11 _ _ _ rfl, at_last, x_stC _ _ _ _ _ _ (by decide) (by rw [hzs]; simp [Value.cells]) rfl, hH2, hzs]
    simp [setCells, Value.cells, plB, plC, b64, bst]
  have hr1 : H1[H.length]? = some (.cells zs 27 .fix) := by rw [hH1]; exact at_last _ _
  have hM : MS H H2 H1.length H.length zs p (.slice none 0 0) (.slice none 0 0) (.slice none 0 0) [] ((List.range 0).map (mkW more)) :=
    ⟨x1.tr x2, by rw [hH2]; exact at_last _ _, ld_of hr1 x2, Rw.nil, New.nil _, Rw.nil, New.nil _, by rw [hH1, List.length_append]; simp, x1.1, Nat.le_refl _, by rw [hzs]; rfl⟩
  refine lvl_ex (pk_no rfl rfl) (by omega) ?_
  rw [f15_eq]
  unfold f15
  simp -implicitDefEqProofs only [r_opt, r_ret, ob_some, ifB_true, iteV_true, iteV_false, r_gdt, r_gdt2, r_gdtf, r_gdtf2, r_gdff, r_gdff2, r_gdft, r_gdft2, r_gdu, r_gdu2, pick_t, pick_f, ext_0, ext_1, x_newB, r_nil, r_fAddr, Nat.zero_add, b_lss, b_leq, b_gtr, b_geq, b_eql, b_neq, u_not, Bool.not_true, Bool.not_false, oneOf_one, oneOf_two, again_normal, again_exit, again_ret, Bool.and_true, ← hzs, ← hH1, n1, n2, b_add, n3, n4, n5, n6, r1, r2, r3, r4, r5, r6, r7, m1, m2, m3, m4, m5, m6, m7, m8, bPl, st]
  exact make_w (m := m - 1) (n := mkN nodes) (p := p) (pb := H1.length) (rb := H.length) (zs := zs) (by unfold mkN; omega) hnx hu8 hnl (by rw [hp]; rfl) (by omega) h3 h4 (by rw [hp]; rfl) (by rw [hp]; rfl) (by rw [hp]; rfl) (by rw [hp]; rfl) (by unfold mkN; omega) (1 + more % 3) 0 (m - 1) H2 (.slice none 0 0) (by omega) (by omega) (by omega) hM ..
end
end Go.Proofs.Ytdobnaldfmpimaa

set_option linter.unusedSectionVars false
set_option linter.unusedSimpArgs false
set_option linter.unusedVariables false
set_option maxRecDepth 100000
namespace Go.Proofs.Ytdobnaldfmpimaa
open Go.Abs
def okE (n : Int) (e : Ed) : Prop := 0 ≤ e.1 ∧ e.1 < e.2 ∧ e.2 < n
structure VE (n : Int) (E : List Ed) : Prop where
  ok : ∀ e ∈ E, okE n e
  nd : E.Nodup
theorem edOk_iff (n : Int) : ∀ (E old : List Ed), edOk n old E = true ↔ ((∀ e ∈ E, okE n e) ∧ E.Nodup ∧ ∀ e ∈ E, e ∉ old)
  | [], old => by simp [edOk]
  | e :: E, old => by
    have ih := edOk_iff n E (old ++ [e])
    have hany : (old.any fun x => x == e) = true ↔ e ∈ old := by
      rw [List.any_eq_true]
      constructor
      · rintro ⟨x, h1, h2⟩
        have : x = e := by simpa using h2
        exact this ▸ h1
      · intro h
        exact ⟨e, h, by simp⟩
    unfold edOk
    rw [Bool.and_eq_true, ih, Bool.not_eq_true', Bool.or_eq_false_iff, Bool.or_eq_false_iff, Bool.or_eq_false_iff]
    simp only [decide_eq_false_iff_not, List.nodup_cons, List.mem_cons, List.mem_append, List.not_mem_nil, or_false]
    have hany' : (old.any fun x => x == e) = false ↔ e ∉ old := by rw [← Bool.not_eq_true, hany]
    rw [hany']
    constructor
    · rintro ⟨⟨h1, h2, h3, h4⟩, h5, h6, h7⟩
      refine ⟨?_, ⟨fun hh => (h7 e hh) (.inr rfl), h6⟩, ?_⟩
      · rintro x (rfl | hx)
        · exact ⟨by omega, by omega, by omega⟩
        · exact h5 x hx
      · rintro x (rfl | hx)
        · exact h4
        · exact fun hh => h7 x hx (.inl hh)
    · rintro ⟨h1, ⟨h2, h3⟩, h4⟩
      obtain ⟨a1, a2, a3⟩ := h1 e (.inl rfl)
      refine ⟨⟨by omega, by omega, by omega, h4 e (.inl rfl)⟩, fun x hx => h1 x (.inr hx), h3, fun x hx => ?_⟩
      rintro (hh | rfl)
      · exact h4 x (.inr hx) hh
      · exact h2 hx
theorem edOk_ve (n : Int) (E : List Ed) : edOk n [] E = true ↔ VE n E := by
  rw [edOk_iff]
  exact ⟨fun h => ⟨h.1, h.2.1⟩, fun h => ⟨h.ok, h.nd, fun _ _ => List.not_mem_nil⟩⟩
def castE (p : Nat × Nat) : Ed := ((p.1 : Int), (p.2 : Int))
theorem selE_sub : ∀ (L : List (Nat × Nat)) (bit : Nat), (selE bit L).Sublist (L.map castE)
  | [], _ => List.Sublist.slnil
  | (a, b) :: L, bit => by
    unfold selE
    split
    · exact (selE_sub L (bit / 2)).cons_cons _
    · exact (selE_sub L (bit / 2)).cons _
theorem prs_mem {n a b : Nat} : (a, b) ∈ prs n ↔ a < b ∧ b < n := by
  unfold prs
  rw [List.mem_flatMap]
  constructor
  · rintro ⟨x, h1, h2⟩
    obtain ⟨y, h3, h4⟩ := List.mem_map.mp h2
    cases h4
    exact ⟨List.mem_range.mp h3, List.mem_range.mp h1⟩
  · rintro ⟨h1, h2⟩
    exact ⟨b, List.mem_range.mpr h2, List.mem_map.mpr ⟨a, List.mem_range.mpr h1, rfl⟩⟩
theorem prs_nd : ∀ n, (prs n).Nodup
  | 0 => List.Pairwise.nil
  | n + 1 => by
    rw [prs_succ]
    refine List.nodup_append.mpr ⟨prs_nd n, ?_, ?_⟩
    · exact (List.nodup_range).map (fun a => (a, n)) fun a b hab h => hab (by cases h; rfl)
    · intro x hx y hy
      obtain ⟨a, _, rfl⟩ := List.mem_map.mp hy
      obtain ⟨x1, x2⟩ := x
      have := (prs_mem.mp hx).2
      intro hh
      cases hh
      omega
theorem castE_inj {x y : Nat × Nat} (h : castE x = castE y) : x = y := by
  obtain ⟨a, b⟩ := x
  obtain ⟨c, d⟩ := y
  simp only [castE, Prod.mk.injEq] at h
  have h1 : a = c := by omega
  have h2 : b = d := by omega
  rw [h1, h2]
theorem selE_ve (bit n : Nat) : VE n (selE bit (prs n)) := by
  have hs := selE_sub (prs n) bit
  refine ⟨fun e he => ?_, (((prs_nd n).map castE fun a b hab h => hab (castE_inj h)).sublist hs)⟩
  obtain ⟨⟨a, b⟩, h1, rfl⟩ := List.mem_map.mp (hs.subset he)
  obtain ⟨h2, h3⟩ := prs_mem.mp h1
  simp only [okE, castE]
  omega
theorem prs_15 {n : Nat} (h : n ≤ 6) : (prs n).length ≤ 15 := by
  have : n = 0 ∨ n = 1 ∨ n = 2 ∨ n = 3 ∨ n = 4 ∨ n = 5 ∨ n = 6 := by omega
  rcases this with rfl | rfl | rfl | rfl | rfl | rfl | rfl <;> decide
theorem candE_mem {v w : Int} {e : Ed} : w ∈ candE v e ↔ v ≠ w ∧ (e = (v, w) ∨ e = (w, v)) := by
  obtain ⟨a, b⟩ := e
  unfold candE
  simp only [Prod.mk.injEq]
  by_cases h1 : a = b
  · rw [if_pos h1]
    constructor
    · intro h; cases h
    · rintro ⟨h, ⟨h2, h3⟩ | ⟨h2, h3⟩⟩
      · exact absurd (h2.symm.trans (h1.trans h3)) h
      · exact absurd (h3.symm.trans (h1.symm.trans h2)) h
  · rw [if_neg h1]
    by_cases h2 : a = v
    · rw [if_pos h2, List.mem_singleton]
      constructor
      · rintro rfl
        exact ⟨fun hh => h1 (h2.trans hh), .inl ⟨h2, rfl⟩⟩
      · rintro ⟨h, ⟨_, h3⟩ | ⟨h3, h4⟩⟩
        · exact h3.symm
        · exact absurd (h2.symm.trans h3) h
    · rw [if_neg h2]
      by_cases h3 : b = v
      · rw [if_pos h3, List.mem_singleton]
        constructor
        · rintro rfl
          exact ⟨fun hh => h2 hh.symm, .inr ⟨rfl, h3⟩⟩
        · rintro ⟨h, ⟨h4, _⟩ | ⟨h4, _⟩⟩
          · exact absurd h4 h2
          · exact h4.symm
      · rw [if_neg h3]
        constructor
        · intro h; cases h
        · rintro ⟨h, ⟨h4, _⟩ | ⟨_, h4⟩⟩
          · exact absurd h4 h2
          · exact absurd h4 h3
theorem cand_mem {E : List Ed} {v w : Int} : w ∈ cand E v ↔ v ≠ w ∧ ((v, w) ∈ E ∨ (w, v) ∈ E) := by
  unfold cand
  rw [List.mem_flatMap]
  constructor
  · rintro ⟨e, h1, h2⟩
    obtain ⟨h3, h4⟩ := candE_mem.mp h2
    rcases h4 with rfl | rfl
    · exact ⟨h3, .inl h1⟩
    · exact ⟨h3, .inr h1⟩
  · rintro ⟨h3, h4 | h4⟩
    · exact ⟨_, h4, candE_mem.mpr ⟨h3, .inl rfl⟩⟩
    · exact ⟨_, h4, candE_mem.mpr ⟨h3, .inr rfl⟩⟩
theorem beside_mem {E : List Ed} {v w : Int} : w ∈ bes E v ↔ v ≠ w ∧ ((v, w) ∈ E ∨ (w, v) ∈ E) := by rw [bes_mem, cand_mem]
theorem beside_in {n : Int} {E : List Ed} (hE : VE n E) {v w : Int} (h : w ∈ bes E v) : 0 ≤ w ∧ w < n ∧ 0 ≤ v ∧ v < n := by
  obtain ⟨_, h | h⟩ := beside_mem.mp h
  · have := hE.ok _ h
    simp only [okE] at this
    omega
  · have := hE.ok _ h
    simp only [okE] at this
    omega
def under (x : Int) (n : Nat) : Nat := if x < n then 1 else 0
theorem mkN_is (nodes : Nat) : 2 ≤ mkN nodes ∧ mkN nodes ≤ 6 := by unfold mkN; omega
theorem mk_ve (nodes room more joined : Nat) (next : List Nat) : VE (mkP nodes room more joined next).nodes (mkP nodes room more joined next).edges := selE_ve joined (mkN nodes)
theorem mk_e15 (nodes room more joined : Nat) (next : List Nat) : (mkP nodes room more joined next).edges.length ≤ 15 :=
  Nat.le_trans (selE_len _ _) (prs_15 (mkN_is nodes).2)
theorem mk_ok (nodes room more joined : Nat) (next : List Nat) : checkOk (mkP nodes room more joined next) = true := by
  have hn := mkN_is nodes
  unfold checkOk
  simp only [Bool.and_eq_true, decide_eq_true_eq]
  refine ⟨?_, by unfold edgesOk; rw [Bool.and_eq_true, decide_eq_true_eq]; exact ⟨(edOk_ve _ _).mpr (mk_ve ..), by have := mk_e15 nodes room more joined next; omega⟩, ?_, ?_, ?_, ?_⟩
  · unfold numOk wi mkP
    simp only [Bool.and_eq_true, decide_eq_true_eq]
    omega
  · simp [mkP]
  · unfold wOk
    simp only [mkP, List.length_map, List.length_range]
    rw [decide_eq_false (by omega), decide_eq_false (by omega)]
    simp only [Bool.false_or, Bool.not_eq_true', List.any_eq_false]
    intro x hx
    obtain ⟨i, _, rfl⟩ := List.mem_map.mp hx
    unfold wBad mkW
    rw [decide_eq_false (by omega), decide_eq_false (by omega)]
    simp
  · simp [mkP]
  · unfold rowsOk
    simp only [Bool.not_eq_true', List.any_eq_false]
    intro x hx
    obtain ⟨i, _, rfl⟩ := List.mem_map.mp hx
    simp [mkRow, mkP]
theorem Made.pv {H0 H2 : Heap} {nodes room more joined : Nat} {next : List Nat} {u : Value} (h : Made H0 (mkP nodes room more joined next) H2 u) : ∃ ev wv nv, u = plV (mkP nodes room more joined next) ev wv nv ∧ Ext H0 H2 ∧ PV H2 (mkP nodes room more joined next) ev wv nv := by
  obtain ⟨ev, wv, nv, h1, h2, h3, h4, h5⟩ := h
  have := mk_e15 nodes room more joined next
  have hn := mkN_is nodes
  exact ⟨ev, wv, nv, h1, h2, h3.rs, h4.rs, h5.rw.rows, by omega, by simp [mkP]; omega, by simp [mkP]; omega⟩
theorem Made.pa {H0 H2 : Heap} {nodes room more joined : Nat} {next : List Nat} {u : Value} (h : Made H0 (mkP nodes room more joined next) H2 u) : ∃ ev wv nv, u = plV (mkP nodes room more joined next) ev wv nv ∧ Ext H0 H2 ∧ PV H2 (mkP nodes room more joined next) ev wv nv ∧ Ew H2 ev (mkP nodes room more joined next).edges ∧ Iw H2 wv (mkP nodes room more joined next).weights ∧ RowsA H0 H2 nv (mkP nodes room more joined next).next wv := by
  obtain ⟨ev, wv, nv, h1, h2, h3, h4, h5⟩ := h
  have := mk_e15 nodes room more joined next
  have hn := mkN_is nodes
  exact ⟨ev, wv, nv, h1, h2, ⟨h3.rs, h4.rs, h5.rw.rows, by omega, by simp [mkP]; omega, by simp [mkP]; omega⟩, h3, h4, h5⟩
end Go.Proofs.Ytdobnaldfmpimaa

set_option linter.unusedSectionVars false
set_option linter.unusedSimpArgs false
set_option linter.unusedVariables false
set_option maxRecDepth 100000
namespace Go.Proofs.Ytdobnaldfmpimaa
open Go.Abs
def plZ : Blk := .cells [Value.int .i64 0, .slice none 0 0, .int .i64 0, .int .i64 0, .int .i64 0, .int .i64 0, .int .i64 0, .int .i64 0, .slice none 0 0, .int .u16 0, .slice none 0 0] 27 .fix
theorem plZ_is : Blk.cells [Value.int .i64 0, .slice none 0 0, .int .i64 0, .int .i64 0, .int .i64 0, .int .i64 0, .int .i64 0, .int .i64 0, .slice none 0 0, .int .u16 0, .slice none 0 0] 27 .fix = plZ := rfl
section
variable {H : Heap} {m : Nat} {p : PlanD} {ev wv nv : Value}
theorem Rs.shape {α : Type} {el : α → List Value} {e : TypeId} {v : Value} {xs : List α} (h : Rs el e H v xs) : v.cells.toList = [v] ∧ allCells [v] = true ∧ veq 3 v v = true := by
  rcases h with ⟨rfl, _⟩ | ⟨b, o, cap, rfl, _⟩
  · exact ⟨rfl, rfl, rfl⟩
  · exact ⟨rfl, rfl, by simp [veq]⟩
theorem Rows.shape {v : Value} {xss : List (List Int)} (h : Rows H v xss) : v.cells.toList = [v] ∧ allCells [v] = true ∧ veq 3 v v = true := by
  obtain ⟨us, h1, _⟩ := h
  exact Rs.shape h1
theorem PV.all (h : PV H p ev wv nv) : allCells (plC p ev wv nv) = true := by
  have e1 : ∀ (v : Value) (vs : List Value), allCells [v] = true → allCells (v :: vs) = allCells vs := fun v vs h => by
    simp only [allCells, List.all_cons, List.all_nil, Bool.and_true] at h ⊢
    rw [h, Bool.true_and]
  simp only [plC, all_int, e1 _ _ (Rs.shape h.e).2.1, e1 _ _ (Rs.shape h.w).2.1, e1 _ _ (Rows.shape h.n).2.1, all_nil]
theorem PV.chk (h : PV H p ev wv nv) (H' : Heap) : Go.Abs.chk (some (plV p ev wv nv, H')) (plV p ev wv nv) = true := by
  have h1 := (Rs.shape h.e).2.2
  have h2 := (Rs.shape h.w).2.2
  have h3 := (Rows.shape h.n).2.2
  have hi : ∀ (k : IntKind) (a : Int), veq 3 (.int k a) (.int k a) = true := fun k a => by simp [veq]
  show veq 4 (plV p ev wv nv) (plV p ev wv nv) = true
  unfold plV plC
  rw [veq]
  simp only [veqL, hi, h1, h2, h3, Bool.and_self]
theorem pl_copy (h : PV H p ev wv nv) (H' : Heap) : stN 11 (.pointer (some ⟨H'.length, 0, none⟩)) (plV p ev wv nv) (H' ++ [plZ]) = some (undef, H' ++ [plB p ev wv nv]) := by
  have e1 : (plV p ev wv nv).cells.toList = plC p ev wv nv := rfl
  rw [x_stN 11 _ _ _ rfl, at_last, e1]
  unfold plZ
  rw [x_stC _ _ _ _ _ _ (by decide) (by simp [plC]) h.all]
  simp [setCells, plC, plB]
theorem st_pl {q q' : PlanD} {ev' wv' nv' v : Value} {b j : Nat} (hb : H[b]? = some (plB q ev wv nv)) (hv : v.cells.toList = [v]) (ha : allCells [v] = true) (hj : j < 11) (hq : (plC q ev wv nv).set j v = plC q' ev' wv' nv') : stN 1 (.pointer (some ⟨b, j, none⟩)) v H = some (undef, H.set b (plB q' ev' wv' nv')) := by
  rw [x_stN 1 _ _ _ (by rw [hv]; rfl), hb]
  unfold plB
  rw [hv, x_stC _ _ _ _ _ _ (by decide) (by simp [plC]; omega) ha]
  rw [← hq]
  rfl
theorem set_ext {H0 H1 : Heap} {b : Nat} {x : Blk} (he : Ext H0 H1) (hb : H0.length ≤ b) : Ext H0 (H1.set b x) := ⟨by rw [List.length_set]; exact he.1, fun c hc _ => by rw [List.getElem?_set_ne (by omega), he.2 c hc id]⟩
end
end Go.Proofs.Ytdobnaldfmpimaa

set_option linter.unusedSectionVars false
set_option linter.unusedSimpArgs false
set_option linter.unusedVariables false
set_option maxRecDepth 100000
namespace Go.Proofs.Ytdobnaldfmpimaa
open Go.Abs
section
variable {H : Heap} {m : Nat} {p : PlanD} {ev wv nv : Value}
theorem us_nil (H : Heap) : Us H (.slice none 0 0) [] := .inl ⟨rfl, rfl⟩
end
end Go.Proofs.Ytdobnaldfmpimaa

set_option linter.unusedSectionVars false
set_option linter.unusedSimpArgs false
set_option linter.unusedVariables false
set_option maxRecDepth 100000
namespace Go.Proofs.Ytdobnaldfmpimaa
open Go.Abs
section
variable {H : Heap} {m : Nat} {p : PlanD} {ev wv nv : Value}
theorem hopAt_mem {n : Nat} {E : List Ed} (hE : VE n E) (hn : n ≤ 6) {v : Nat} {x : Ed} : x ∈ hopAt E v ↔ x.1 = v ∧ x.2 ∈ bes E v := by
  unfold hopAt
  simp only [List.mem_map, List.mem_filter]
  constructor
  · rintro ⟨w, ⟨h1, _⟩, rfl⟩
    exact ⟨rfl, h1⟩
  · rintro ⟨h1, h2⟩
    obtain ⟨a, b⟩ := x
    simp only at h1 h2
    refine ⟨b, ⟨h2, ?_⟩, by rw [h1]⟩
    have := beside_in hE h2
    unfold wi
    simp
    omega
theorem hops_mem {n : Nat} {E : List Ed} (hE : VE n E) (hn : n ≤ 6) {x : Ed} : x ∈ (List.range n).flatMap (hopAt E) ↔ x.2 ∈ bes E x.1 := by
  rw [List.mem_flatMap]
  constructor
  · rintro ⟨v, _, h2⟩
    obtain ⟨h3, h4⟩ := (hopAt_mem hE hn).mp h2
    rw [h3]; exact h4
  · intro h
    have := beside_in hE h
    have e : ((x.1.toNat : Nat) : Int) = x.1 := by omega
    refine ⟨x.1.toNat, List.mem_range.mpr (by omega), (hopAt_mem hE hn).mpr ⟨e.symm, ?_⟩⟩
    rw [e]; exact h
theorem hops_pw {n : Nat} {E : List Ed} (hE : VE n E) (hn : n ≤ 6) : ((List.range n).flatMap (hopAt E)).Pairwise (fun a b => a.1 < b.1 ∨ (a.1 = b.1 ∧ a.2 < b.2)) := by
  rw [List.pairwise_flatMap]
  constructor
  · intro v _
    unfold hopAt
    rw [List.pairwise_map]
    exact (List.Pairwise.filter _ (bes_pw E v)).imp fun h => .inr ⟨rfl, h⟩
  · refine List.pairwise_lt_range.imp fun {a b} hab x hx y hy => ?_
    have h1 := ((hopAt_mem hE hn).mp hx).1
    have h2 := ((hopAt_mem hE hn).mp hy).1
    left; omega
end
end Go.Proofs.Ytdobnaldfmpimaa

set_option linter.unusedSectionVars false
set_option linter.unusedSimpArgs false
set_option linter.unusedVariables false
set_option maxRecDepth 100000
namespace Go.Proofs.Ytdobnaldfmpimaa
open Go.Abs
section
variable {H : Heap} {m : Nat} {p : PlanD} {ev wv nv : Value}
theorem PV.edges {q : PlanD} {E : List Ed} {xv : Value} (h : PV H q ev wv nv) (hx : Es H xv E) (hl : E.length ≤ 1000) : PV H { q with edges := E } xv wv nv := ⟨hx, h.w, h.n, by simp only; omega, h.bw, h.bn⟩
theorem one_edge (H : Heap) (x : Ed) : bldSlice 33 2 1 [.int .i64 0, .int .i64 0] [(0, edV x)] H = some (.slice (some ⟨H.length, 0, none⟩) 1 1, H ++ [.cells (edC x) 33 .row]) := rfl
end
end Go.Proofs.Ytdobnaldfmpimaa

set_option linter.unusedSectionVars false
set_option linter.unusedSimpArgs false
set_option linter.unusedVariables false
set_option maxRecDepth 100000
namespace Go.Proofs.Ytdobnaldfmpimaa
open Go.Abs
section
variable {H : Heap} {m : Nat} {p : PlanD} {ev wv nv : Value}
theorem szIs : Try.prog.cellsOf 24 = 1 := by kernel_rfl
theorem Rows.sub {v : Value} {xss : List (List Int)} (h : Rows H v xss) (hne : xss ≠ []) {r : Nat} {hi : Option Value} (h2 : bnd xss.length hi = some r) (hr : r ≤ xss.length) : ∃ v', slc Try.prog 1 v none hi none H = some (v', H) ∧ Rows H v' (xss.take r) := by
  obtain ⟨us, h1, h3, h4⟩ := h
  have hne' : us ≠ [] := fun hh => hne (by rw [hh] at h3; exact List.length_eq_zero_iff.mp h3.symm)
  obtain ⟨v', t1, t2, _⟩ := h1.sub (P := Try.prog) vC_len szIs hne' (lo := none) (hi := hi) rfl (by rw [h3]; exact h2) (Nat.zero_le _) (by rw [h3]; exact hr)
  rw [List.drop_zero] at t2
  refine ⟨v', t1, us.take r, t2, by simp [h3], fun i u xs hu hx => h4 i u xs ?_ ?_⟩
  · rw [List.getElem?_take] at hu
    split at hu
    · exact hu
    · cases hu
  · rw [List.getElem?_take] at hx
    split at hx
    · exact hx
    · cases hx
theorem Rs.sv {α : Type} {el : α → List Value} {e : TypeId} {v : Value} {xs : List α} (h : Rs el e H v xs) : allCells [v] = true ∧ v.cells = #[v] := by
  rcases h with ⟨rfl, _⟩ | ⟨b, o, cap, rfl, _⟩ <;> exact ⟨rfl, rfl⟩
theorem PV.next {q : PlanD} {N : List (List Int)} {xv : Value} (h : PV H q ev wv nv) (hx : Rows H xv N) (hl : N.length ≤ 1000) : PV H { q with next := N } ev wv xv := ⟨h.e, h.w, hx, h.be, h.bw, by simp only; omega⟩
theorem ld1_ext {H0 H1 : Heap} {a u : Value} (he : Ext H0 H1) (h : ld1 a H0 = some (u, H0)) : ld1 a H1 = some (u, H1) := by
  unfold ld1 at *
  cases a with
  | pointer x =>
    cases x with
    | none => simp at h
    | some ad =>
      obtain ⟨b, o, s⟩ := ad
      cases s with
      | some s => simp at h
      | none =>
        simp only at h ⊢
        cases hb : H0[b]? with
        | none => rw [hb] at h; simp at h
        | some y =>
          rw [ld_of hb he]
          rw [hb] at h
          cases y with
          | cells cs e k =>
            simp only at h ⊢
            cases hc : cs[o]? with
            | none => rw [hc] at h; simp at h
            | some z =>
              rw [hc] at h
              simp at h
              subst h
              rfl
          | map => simp at h
          | dead => simp at h
  | _ => simp at h
end
end Go.Proofs.Ytdobnaldfmpimaa

set_option linter.unusedVariables false
set_option maxRecDepth 100000
namespace Go.Proofs.Ytdobnaldfmpimaa
open Go.Abs
noncomputable def f23 (O : Oracle) (L : Loops (Value × Heap)) (h : Heap) : Option (Value × Heap) :=
  ob ((O (.func 46) [(.bool true)]) h) fun v0 h0 =>
  ob ((O (.func 25) [v0, (.int .i64 0), (.int .i64 2)]) h0) fun v1 h1 =>
  ob ((O (.func 46) [(.bool true)]) h1) fun v2 h2 =>
  ob ((O (.func 24) [v2]) h2) fun v3 h3 =>
  ob ((M.ofOpt (bin Try.prog .eql 30 v3 (.int .u16 140))) h3) fun v4 h4 =>
  ob ((gd v4 true (O (.func 46) [(.bool false)])) h4) fun v5 h5 =>
  ob ((gd v4 true (O (.func 24) [v5])) h5) fun v6 h6 =>
  ob ((gd v4 true (M.ofOpt (bin Try.prog .eql 30 v6 (.int .u16 0)))) h6) fun v7 h7 =>
  ob ((M.ofOpt (pick v4 v7 (.bool false))) h7) fun v8 h8 =>
  ob ((gd v8 true (M.ret v1)) h8) fun v9 h9 =>
  ob ((gd v8 true (M.ofOpt (lenSl v9))) h9) fun v10 h10 =>
  ob ((gd v8 true (M.ofOpt (bin Try.prog .eql 3 v10 (.int .i64 3)))) h10) fun v11 h11 =>
  ob ((M.ofOpt (pick v8 v11 (.bool false))) h11) fun v12 h12 =>
  ob ((gd v12 true (M.ret v1)) h12) fun v13 h13 =>
  ob ((gd v12 true (M.ofOpt (iAddr 1 v13 (.int .i64 1)))) h13) fun v14 h14 =>
  ob ((gd v12 true (ld1 v14)) h14) fun v15 h15 =>
  ob ((gd v12 true (M.ofOpt (bin Try.prog .eql 3 v15 (.int .i64 1)))) h15) fun v16 h16 =>
  ob ((M.ofOpt (pick v12 v16 (.bool false))) h16) fun v17 h17 =>
  ob ((gd v17 true (O (.func 46) [(.bool true)])) h17) fun v18 h18 =>
  ob ((gd v17 true (O (.func 26) [v18])) h18) fun v19 h19 =>
  ob ((gd v17 true (M.ofOpt (lenSl v19))) h19) fun v20 h20 =>
  ob ((gd v17 true (M.ofOpt (bin Try.prog .eql 3 v20 (.int .i64 6)))) h20) fun v21 h21 =>
  ob ((M.ofOpt (pick v17 v21 (.bool false))) h21) fun v22 h22 =>
  some (oneOf [v22], h22)
theorem f23_eq (O : Oracle) (L : Loops (Value × Heap)) (h : Heap) :
    body Try.prog O L 23 [] h = f23 O L h := by kernel_rfl
noncomputable def f24_c2 : Code := sub [1, 1, 1, 1, 1, 0, 1, 0, 0] (fbody Try.prog 24)
noncomputable def f24_k2 (O : Oracle) (L : Loops (Value × Heap)) : Ex → K (Value × Heap) := (blockK 4 (seqK Try.prog O L (sub [1, 1, 1, 1, 1, 1] (fbody Try.prog 24)) (kRet Try.prog Try.f24)))
noncomputable def f24_e2_4 (O : Oracle) (L : Loops (Value × Heap)) (x0 x1 x2 x3 x4 x5 x6 x7 x8 x9 x10 x11 x12 x13 x14 x15 x16 x17 x18 x19 x20 x21 x22 x23 x24 x25 x26 x27 x28 x29 x30 x31 x32 x33 x34 x35 x36 x37 x38 x39 x40 x41 x42 x43 x44 x45 x46 x47 x48 x49 x50 x51 x52 x53 x54 x55 x56 x57 x58 x59 x60 x61 x62 x63 x64 x65 x66 x67 x68 x69 x70 : Value) (h : Heap) : Option (Value × Heap) :=
  some (oneOf [(.int .u16 0)], h)
theorem f24_e2_4_eq (O : Oracle) (L : Loops (Value × Heap)) (x0 x1 x2 x3 x4 x5 x6 x7 x8 x9 x10 x11 x12 x13 x14 x15 x16 x17 x18 x19 x20 x21 x22 x23 x24 x25 x26 x27 x28 x29 x30 x31 x32 x33 x34 x35 x36 x37 x38 x39 x40 x41 x42 x43 x44 x45 x46 x47 x48 x49 x50 x51 x52 x53 x54 x55 x56 x57 x58 x59 x60 x61 x62 x63 x64 x65 x66 x67 x68 x69 x70 : Value) (h : Heap) :
    f24_k2 O L (.exit 4) [x0, x1, x2, x3, x4, x5, x6, x7, x8, x9, x10, x11, x12, x13, x14, x15, x16, x17, x18, x19, x20, x21, x22, x23, x24, x25, x26, x27, x28, x29, x30, x31, x32, x33, x34, x35, x36, x37, x38, x39, x40, x41, x42, x43, x44, x45, x46, x47, x48, x49, x50, x51, x52, x53, x54, x55, x56, x57, x58, x59, x60, x61, x62, x63, x64, x65, x66, x67, x68, x69, x70] h = f24_e2_4 O L x0 x1 x2 x3 x4 x5 x6 x7 x8 x9 x10 x11 x12 x13 x14 x15 x16 x17 x18 x19 x20 x21 x22 x23 x24 x25 x26 x27 x28 x29 x30 x31 x32 x33 x34 x35 x36 x37 x38 x39 x40 x41 x42 x43 x44 x45 x46 x47 x48 x49 x50 x51 x52 x53 x54 x55 x56 x57 x58 x59 x60 x61 x62 x63 x64 x65 x66 x67 x68 x69 x70 h := by kernel_rfl
noncomputable def f24_r2 (O : Oracle) (L : Loops (Value × Heap)) (x0 x1 x2 x3 x4 x5 x6 x7 x8 x9 x10 x11 x12 x13 x14 x15 x16 x17 x18 x19 x20 x21 x22 x23 x24 x25 x26 x27 x28 x29 x30 x31 x32 x33 x34 x35 x36 x37 x38 x39 x40 x41 x42 x43 x44 x45 x46 x47 x48 x49 x50 x51 x52 x53 x54 x55 x56 x57 x58 x59 x60 x61 x62 x63 x64 x65 x66 x67 x68 x69 x70 : Value) (h : Heap) : Option (Value × Heap) :=
  some (oneOf [x2], h)
theorem f24_r2_eq (O : Oracle) (L : Loops (Value × Heap)) (x0 x1 x2 x3 x4 x5 x6 x7 x8 x9 x10 x11 x12 x13 x14 x15 x16 x17 x18 x19 x20 x21 x22 x23 x24 x25 x26 x27 x28 x29 x30 x31 x32 x33 x34 x35 x36 x37 x38 x39 x40 x41 x42 x43 x44 x45 x46 x47 x48 x49 x50 x51 x52 x53 x54 x55 x56 x57 x58 x59 x60 x61 x62 x63 x64 x65 x66 x67 x68 x69 x70 : Value) (h : Heap) :
    f24_k2 O L .ret [x0, x1, x2, x3, x4, x5, x6, x7, x8, x9, x10, x11, x12, x13, x14, x15, x16, x17, x18, x19, x20, x21, x22, x23, x24, x25, x26, x27, x28, x29, x30, x31, x32, x33, x34, x35, x36, x37, x38, x39, x40, x41, x42, x43, x44, x45, x46, x47, x48, x49, x50, x51, x52, x53, x54, x55, x56, x57, x58, x59, x60, x61, x62, x63, x64, x65, x66, x67, x68, x69, x70] h = f24_r2 O L x0 x1 x2 x3 x4 x5 x6 x7 x8 x9 x10 x11 x12 x13 x14 x15 x16 x17 x18 x19 x20 x21 x22 x23 x24 x25 x26 x27 x28 x29 x30 x31 x32 x33 x34 x35 x36 x37 x38 x39 x40 x41 x42 x43 x44 x45 x46 x47 x48 x49 x50 x51 x52 x53 x54 x55 x56 x57 x58 x59 x60 x61 x62 x63 x64 x65 x66 x67 x68 x69 x70 h := by kernel_rfl
noncomputable def f24_b2 (O : Oracle) (L : Loops (Value × Heap)) (k : Ex → K (Value × Heap)) (x0 x1 x2 x3 x4 x5 x6 x7 x8 x9 x10 x11 x12 x13 x14 x15 x16 x17 x18 x19 x20 x21 x22 x23 x24 x25 x26 x27 x28 x29 x30 x31 x32 x33 x34 x35 x36 x37 x38 x39 x40 x41 x42 x43 x44 x45 x46 x47 x48 x49 x50 x51 x52 x53 x54 x55 x56 x57 x58 x59 x60 x61 x62 x63 x64 x65 x66 x67 x68 x69 x70 : Value) (h : Heap) : Option (Value × Heap) :=
  ob ((M.ofOpt (bin Try.prog .lss 3 x54 x53)) h) fun v33 h33 =>
  iteV v33 (
  ob ((M.ofOpt (nilChk x8)) h33) fun v34 h34 =>
  ob ((M.ofOpt (fAddr 0 v34)) h34) fun v35 h35 =>
  ob ((ld1 v35) h35) fun v36 h36 =>
  ob ((M.ofOpt (iAddr 1 v36 x54)) h36) fun v37 h37 =>
  ob ((ld1 v37) h37) fun v38 h38 =>
  ob ((M.ofOpt (bin Try.prog .eql 3 v38 (.int .i64 0))) h38) fun v39 h39 =>
  ob ((gd v39 true (M.ret x8)) h39) fun v40 h40 =>
  ob ((gd v39 true (M.ret x54)) h40) fun v41 h41 =>
  ob ((gd v39 true (O (.func 48) [v40, v41])) h41) fun v42 h42 =>
  ob ((M.ofOpt (pick v39 v42 (.bool false))) h42) fun v43 h43 =>
  iteV v43 (
  k .ret [x0, x1, (.int .u16 140), x3, x4, x5, x6, x7, x8, x54, x10, x11, x12, x13, x14, x15, x16, x17, x18, x19, x20, x21, x22, x23, x24, x25, x26, x27, x28, x29, x30, x31, x32, x33, x34, x35, x36, x37, x38, x39, x40, x41, x42, x43, x44, x45, x46, x47, x48, x49, x50, x51, x52, x53, x54, v33, x54, x8, v34, v35, v36, x54, v37, v38, v39, v39, v40, v41, v42, v43, x70] h43) (
  ob ((M.ofOpt (bin Try.prog .add 3 x54 (.int .i64 1))) h43) fun v44 h44 =>
  k .normal [x0, x1, x2, x3, x4, x5, x6, x7, x8, x54, x10, x11, x12, x13, x14, x15, x16, x17, x18, x19, x20, x21, x22, x23, x24, x25, x26, x27, x28, x29, x30, x31, x32, x33, x34, x35, x36, x37, x38, x39, x40, x41, x42, x43, x44, x45, x46, x47, x48, x49, x50, x51, x52, x53, v44, v33, x54, x8, v34, v35, v36, x54, v37, v38, v39, v39, v40, v41, v42, v43, v44] h44)) (
  k (.exit 4) [x0, x1, x2, x3, x4, x5, x6, x7, x8, x9, x10, x11, x12, x13, x14, x15, x16, x17, x18, x19, x20, x21, x22, x23, x24, x25, x26, x27, x28, x29, x30, x31, x32, x33, x34, x35, x36, x37, x38, x39, x40, x41, x42, x43, x44, x45, x46, x47, x48, x49, x50, x51, x52, x53, x54, v33, x56, x57, x58, x59, x60, x61, x62, x63, x64, x65, x66, x67, x68, x69, x70] h33)
theorem f24_b2_eq (O : Oracle) (L : Loops (Value × Heap)) (k : Ex → K (Value × Heap)) (x0 x1 x2 x3 x4 x5 x6 x7 x8 x9 x10 x11 x12 x13 x14 x15 x16 x17 x18 x19 x20 x21 x22 x23 x24 x25 x26 x27 x28 x29 x30 x31 x32 x33 x34 x35 x36 x37 x38 x39 x40 x41 x42 x43 x44 x45 x46 x47 x48 x49 x50 x51 x52 x53 x54 x55 x56 x57 x58 x59 x60 x61 x62 x63 x64 x65 x66 x67 x68 x69 x70 : Value) (h : Heap) :
    runCode Try.prog O L f24_c2 k [x0, x1, x2, x3, x4, x5, x6, x7, x8, x9, x10, x11, x12, x13, x14, x15, x16, x17, x18, x19, x20, x21, x22, x23, x24, x25, x26, x27, x28, x29, x30, x31, x32, x33, x34, x35, x36, x37, x38, x39, x40, x41, x42, x43, x44, x45, x46, x47, x48, x49, x50, x51, x52, x53, x54, x55, x56, x57, x58, x59, x60, x61, x62, x63, x64, x65, x66, x67, x68, x69, x70] h = f24_b2 O L k x0 x1 x2 x3 x4 x5 x6 x7 x8 x9 x10 x11 x12 x13 x14 x15 x16 x17 x18 x19 x20 x21 x22 x23 x24 x25 x26 x27 x28 x29 x30 x31 x32 x33 x34 x35 x36 x37 x38 x39 x40 x41 x42 x43 x44 x45 x46 x47 x48 x49 x50 x51 x52 x53 x54 x55 x56 x57 x58 x59 x60 x61 x62 x63 x64 x65 x66 x67 x68 x69 x70 h := by kernel_rfl
noncomputable def f24_c1 : Code := sub [1, 1, 0, 1, 0, 0, 1, 1, 0, 0, 1, 1, 0, 0] (fbody Try.prog 24)
noncomputable def f24_k1 (O : Oracle) (L : Loops (Value × Heap)) (k : Ex → K (Value × Heap)) : Ex → K (Value × Heap) := (blockK 2 (blockK 1 (seqK Try.prog O L (sub [1, 1, 0, 1, 0, 0, 1, 1, 1] (fbody Try.prog 24)) k)))
noncomputable def f24_e1_2 (O : Oracle) (L : Loops (Value × Heap)) (k : Ex → K (Value × Heap)) (x0 x1 x2 x3 x4 x5 x6 x7 x8 x9 x10 x11 x12 x13 x14 x15 x16 x17 x18 x19 x20 x21 x22 x23 x24 x25 x26 x27 x28 x29 x30 x31 x32 x33 x34 x35 x36 x37 x38 x39 x40 x41 x42 x43 x44 x45 x46 x47 x48 x49 x50 x51 x52 x53 x54 x55 x56 x57 x58 x59 x60 x61 x62 x63 x64 x65 x66 x67 x68 x69 x70 : Value) (h : Heap) : Option (Value × Heap) :=
  ob ((M.ofOpt (bin Try.prog .add 3 x17 (.int .i64 1))) h) fun v32 h32 =>
  k .normal [x0, x1, x2, x3, x4, x5, x6, x7, x8, x9, x10, x11, x12, x13, x14, x15, x16, v32, x18, x19, x20, x21, x22, x23, x24, x25, x26, x27, x28, x29, x30, x31, x32, x33, x34, v32, x36, x37, x38, x39, x40, x41, x42, x43, x44, x45, x46, x47, x48, x49, x50, x51, x52, x53, x54, x55, x56, x57, x58, x59, x60, x61, x62, x63, x64, x65, x66, x67, x68, x69, x70] h32
theorem f24_e1_2_eq (O : Oracle) (L : Loops (Value × Heap)) (k : Ex → K (Value × Heap)) (x0 x1 x2 x3 x4 x5 x6 x7 x8 x9 x10 x11 x12 x13 x14 x15 x16 x17 x18 x19 x20 x21 x22 x23 x24 x25 x26 x27 x28 x29 x30 x31 x32 x33 x34 x35 x36 x37 x38 x39 x40 x41 x42 x43 x44 x45 x46 x47 x48 x49 x50 x51 x52 x53 x54 x55 x56 x57 x58 x59 x60 x61 x62 x63 x64 x65 x66 x67 x68 x69 x70 : Value) (h : Heap) :
    f24_k1 O L k (.exit 2) [x0, x1, x2, x3, x4, x5, x6, x7, x8, x9, x10, x11, x12, x13, x14, x15, x16, x17, x18, x19, x20, x21, x22, x23, x24, x25, x26, x27, x28, x29, x30, x31, x32, x33, x34, x35, x36, x37, x38, x39, x40, x41, x42, x43, x44, x45, x46, x47, x48, x49, x50, x51, x52, x53, x54, x55, x56, x57, x58, x59, x60, x61, x62, x63, x64, x65, x66, x67, x68, x69, x70] h = f24_e1_2 O L k x0 x1 x2 x3 x4 x5 x6 x7 x8 x9 x10 x11 x12 x13 x14 x15 x16 x17 x18 x19 x20 x21 x22 x23 x24 x25 x26 x27 x28 x29 x30 x31 x32 x33 x34 x35 x36 x37 x38 x39 x40 x41 x42 x43 x44 x45 x46 x47 x48 x49 x50 x51 x52 x53 x54 x55 x56 x57 x58 x59 x60 x61 x62 x63 x64 x65 x66 x67 x68 x69 x70 h := by kernel_rfl
noncomputable def f24_r1 (O : Oracle) (L : Loops (Value × Heap)) (k : Ex → K (Value × Heap)) (x0 x1 x2 x3 x4 x5 x6 x7 x8 x9 x10 x11 x12 x13 x14 x15 x16 x17 x18 x19 x20 x21 x22 x23 x24 x25 x26 x27 x28 x29 x30 x31 x32 x33 x34 x35 x36 x37 x38 x39 x40 x41 x42 x43 x44 x45 x46 x47 x48 x49 x50 x51 x52 x53 x54 x55 x56 x57 x58 x59 x60 x61 x62 x63 x64 x65 x66 x67 x68 x69 x70 : Value) (h : Heap) : Option (Value × Heap) :=
  k .ret [x0, x1, x2, x3, x4, x5, x6, x7, x8, x9, x10, x11, x12, x13, x14, x15, x16, x17, x18, x19, x20, x21, x22, x23, x24, x25, x26, x27, x28, x29, x30, x31, x32, x33, x34, x35, x36, x37, x38, x39, x40, x41, x42, x43, x44, x45, x46, x47, x48, x49, x50, x51, x52, x53, x54, x55, x56, x57, x58, x59, x60, x61, x62, x63, x64, x65, x66, x67, x68, x69, x70] h
theorem f24_r1_eq (O : Oracle) (L : Loops (Value × Heap)) (k : Ex → K (Value × Heap)) (x0 x1 x2 x3 x4 x5 x6 x7 x8 x9 x10 x11 x12 x13 x14 x15 x16 x17 x18 x19 x20 x21 x22 x23 x24 x25 x26 x27 x28 x29 x30 x31 x32 x33 x34 x35 x36 x37 x38 x39 x40 x41 x42 x43 x44 x45 x46 x47 x48 x49 x50 x51 x52 x53 x54 x55 x56 x57 x58 x59 x60 x61 x62 x63 x64 x65 x66 x67 x68 x69 x70 : Value) (h : Heap) :
    f24_k1 O L k .ret [x0, x1, x2, x3, x4, x5, x6, x7, x8, x9, x10, x11, x12, x13, x14, x15, x16, x17, x18, x19, x20, x21, x22, x23, x24, x25, x26, x27, x28, x29, x30, x31, x32, x33, x34, x35, x36, x37, x38, x39, x40, x41, x42, x43, x44, x45, x46, x47, x48, x49, x50, x51, x52, x53, x54, x55, x56, x57, x58, x59, x60, x61, x62, x63, x64, x65, x66, x67, x68, x69, x70] h = f24_r1 O L k x0 x1 x2 x3 x4 x5 x6 x7 x8 x9 x10 x11 x12 x13 x14 x15 x16 x17 x18 x19 x20 x21 x22 x23 x24 x25 x26 x27 x28 x29 x30 x31 x32 x33 x34 x35 x36 x37 x38 x39 x40 x41 x42 x43 x44 x45 x46 x47 x48 x49 x50 x51 x52 x53 x54 x55 x56 x57 x58 x59 x60 x61 x62 x63 x64 x65 x66 x67 x68 x69 x70 h := by kernel_rfl
noncomputable def f24_b1 (O : Oracle) (L : Loops (Value × Heap)) (k : Ex → K (Value × Heap)) (x0 x1 x2 x3 x4 x5 x6 x7 x8 x9 x10 x11 x12 x13 x14 x15 x16 x17 x18 x19 x20 x21 x22 x23 x24 x25 x26 x27 x28 x29 x30 x31 x32 x33 x34 x35 x36 x37 x38 x39 x40 x41 x42 x43 x44 x45 x46 x47 x48 x49 x50 x51 x52 x53 x54 x55 x56 x57 x58 x59 x60 x61 x62 x63 x64 x65 x66 x67 x68 x69 x70 : Value) (h : Heap) : Option (Value × Heap) :=
  ob ((M.ofOpt (bin Try.prog .lss 3 x22 x21)) h) fun v25 h25 =>
  iteV v25 (
  ob ((ldN 11 x1) h25) fun v26 h26 =>
  ob ((O (.func 47) [v26, x4, x22]) h26) fun v27 h27 =>
  ob ((M.ofOpt (ext 0 v27)) h27) fun v28 h28 =>
  ob ((M.ofOpt (ext 1 v27)) h28) fun v29 h29 =>
  ob ((M.ofOpt (un Try.prog .not v29)) h29) fun v30 h30 =>
  iteV v30 (
  k .ret [x0, x1, (.int .u16 140), x3, x4, x22, v28, v29, x8, x9, x10, x11, x12, x13, x14, x15, x16, x17, x18, x19, x20, x21, x22, v25, x22, v27, v26, x4, x22, v27, v28, v29, v29, v30, x34, x35, x36, x37, x38, x39, x40, x41, x42, x43, x44, x45, x46, x47, x48, x49, x50, x51, x52, x53, x54, x55, x56, x57, x58, x59, x60, x61, x62, x63, x64, x65, x66, x67, x68, x69, x70] h30) (
  ob ((M.ofOpt (bin Try.prog .add 3 x22 (.int .i64 1))) h30) fun v31 h31 =>
  k .normal [x0, x1, x2, x3, x4, x22, v28, v29, x8, x9, x10, x11, x12, x13, x14, x15, x16, x17, x18, x19, x20, x21, v31, v25, x22, v27, v26, x4, x22, v27, v28, v29, v29, v30, v31, x35, x36, x37, x38, x39, x40, x41, x42, x43, x44, x45, x46, x47, x48, x49, x50, x51, x52, x53, x54, x55, x56, x57, x58, x59, x60, x61, x62, x63, x64, x65, x66, x67, x68, x69, x70] h31)) (
  k (.exit 2) [x0, x1, x2, x3, x4, x5, x6, x7, x8, x9, x10, x11, x12, x13, x14, x15, x16, x17, x18, x19, x20, x21, x22, v25, x24, x25, x26, x27, x28, x29, x30, x31, x32, x33, x34, x35, x36, x37, x38, x39, x40, x41, x42, x43, x44, x45, x46, x47, x48, x49, x50, x51, x52, x53, x54, x55, x56, x57, x58, x59, x60, x61, x62, x63, x64, x65, x66, x67, x68, x69, x70] h25)
theorem f24_b1_eq (O : Oracle) (L : Loops (Value × Heap)) (k : Ex → K (Value × Heap)) (x0 x1 x2 x3 x4 x5 x6 x7 x8 x9 x10 x11 x12 x13 x14 x15 x16 x17 x18 x19 x20 x21 x22 x23 x24 x25 x26 x27 x28 x29 x30 x31 x32 x33 x34 x35 x36 x37 x38 x39 x40 x41 x42 x43 x44 x45 x46 x47 x48 x49 x50 x51 x52 x53 x54 x55 x56 x57 x58 x59 x60 x61 x62 x63 x64 x65 x66 x67 x68 x69 x70 : Value) (h : Heap) :
    runCode Try.prog O L f24_c1 k [x0, x1, x2, x3, x4, x5, x6, x7, x8, x9, x10, x11, x12, x13, x14, x15, x16, x17, x18, x19, x20, x21, x22, x23, x24, x25, x26, x27, x28, x29, x30, x31, x32, x33, x34, x35, x36, x37, x38, x39, x40, x41, x42, x43, x44, x45, x46, x47, x48, x49, x50, x51, x52, x53, x54, x55, x56, x57, x58, x59, x60, x61, x62, x63, x64, x65, x66, x67, x68, x69, x70] h = f24_b1 O L k x0 x1 x2 x3 x4 x5 x6 x7 x8 x9 x10 x11 x12 x13 x14 x15 x16 x17 x18 x19 x20 x21 x22 x23 x24 x25 x26 x27 x28 x29 x30 x31 x32 x33 x34 x35 x36 x37 x38 x39 x40 x41 x42 x43 x44 x45 x46 x47 x48 x49 x50 x51 x52 x53 x54 x55 x56 x57 x58 x59 x60 x61 x62 x63 x64 x65 x66 x67 x68 x69 x70 h := by kernel_rfl
noncomputable def f24_c0 : Code := sub [1, 1, 0, 1, 0, 0] (fbody Try.prog 24)
noncomputable def f24_k0 (O : Oracle) (L : Loops (Value × Heap)) : Ex → K (Value × Heap) := (blockK 0 (seqK Try.prog O L (sub [1, 1, 1] (fbody Try.prog 24)) (kRet Try.prog Try.f24)))
noncomputable def f24_e0_0 (O : Oracle) (L : Loops (Value × Heap)) (x0 x1 x2 x3 x4 x5 x6 x7 x8 x9 x10 x11 x12 x13 x14 x15 x16 x17 x18 x19 x20 x21 x22 x23 x24 x25 x26 x27 x28 x29 x30 x31 x32 x33 x34 x35 x36 x37 x38 x39 x40 x41 x42 x43 x44 x45 x46 x47 x48 x49 x50 x51 x52 x53 x54 x55 x56 x57 x58 x59 x60 x61 x62 x63 x64 x65 x66 x67 x68 x69 x70 : Value) (h : Heap) : Option (Value × Heap) :=
  ob ((ldN 11 x1) h) fun v9 h9 =>
  ob ((O (.func 26) [v9]) h9) fun v10 h10 =>
  ob ((M.ofOpt (bld Try.prog 72 [(1, v10)])) h10) fun v11 h11 =>
  ob ((newB 72 (Value.cells v11).toList .fix) h11) fun v12 h12 =>
  ob ((M.ofOpt (nilChk v12)) h12) fun v13 h13 =>
  ob ((M.ofOpt (fAddr 1 v13)) h13) fun v14 h14 =>
  ob ((ld1 v14) h14) fun v15 h15 =>
  ob ((M.ofOpt (lenSl v15)) h15) fun v16 h16 =>
  ob ((mkSlice 3 1 8 [(.int .i64 0)] v16 v16) h16) fun v17 h17 =>
  ob ((M.ofOpt (nilChk v12)) h17) fun v18 h18 =>
  ob ((M.ofOpt (fAddr 0 v18)) h18) fun v19 h19 =>
  ob ((stN 1 v19 v17) h19) fun v20 h20 =>
  ob ((M.ofOpt (nilChk v12)) h20) fun v21 h21 =>
  ob ((M.ofOpt (fAddr 0 v21)) h21) fun v22 h22 =>
  ob ((ld1 v22) h22) fun v23 h23 =>
  ob ((M.ofOpt (lenSl v23)) h23) fun v24 h24 =>
  L (runCode Try.prog O L f24_c2) (f24_k2 O L) [x0, x1, x2, x3, x4, x5, x6, x7, v12, x9, x10, x11, x12, x13, x14, x15, x16, x17, x18, x19, x20, x21, x22, x23, x24, x25, x26, x27, x28, x29, x30, x31, x32, x33, x34, x35, v9, v10, v11, v12, v12, v12, v13, v14, v15, v16, v17, v18, v19, v12, v21, v22, v23, v24, (.int .i64 0), x55, x56, x57, x58, x59, x60, x61, x62, x63, x64, x65, x66, x67, x68, x69, x70] h24
theorem f24_e0_0_eq (O : Oracle) (L : Loops (Value × Heap)) (x0 x1 x2 x3 x4 x5 x6 x7 x8 x9 x10 x11 x12 x13 x14 x15 x16 x17 x18 x19 x20 x21 x22 x23 x24 x25 x26 x27 x28 x29 x30 x31 x32 x33 x34 x35 x36 x37 x38 x39 x40 x41 x42 x43 x44 x45 x46 x47 x48 x49 x50 x51 x52 x53 x54 x55 x56 x57 x58 x59 x60 x61 x62 x63 x64 x65 x66 x67 x68 x69 x70 : Value) (h : Heap) :
    f24_k0 O L (.exit 0) [x0, x1, x2, x3, x4, x5, x6, x7, x8, x9, x10, x11, x12, x13, x14, x15, x16, x17, x18, x19, x20, x21, x22, x23, x24, x25, x26, x27, x28, x29, x30, x31, x32, x33, x34, x35, x36, x37, x38, x39, x40, x41, x42, x43, x44, x45, x46, x47, x48, x49, x50, x51, x52, x53, x54, x55, x56, x57, x58, x59, x60, x61, x62, x63, x64, x65, x66, x67, x68, x69, x70] h = f24_e0_0 O L x0 x1 x2 x3 x4 x5 x6 x7 x8 x9 x10 x11 x12 x13 x14 x15 x16 x17 x18 x19 x20 x21 x22 x23 x24 x25 x26 x27 x28 x29 x30 x31 x32 x33 x34 x35 x36 x37 x38 x39 x40 x41 x42 x43 x44 x45 x46 x47 x48 x49 x50 x51 x52 x53 x54 x55 x56 x57 x58 x59 x60 x61 x62 x63 x64 x65 x66 x67 x68 x69 x70 h := by kernel_rfl
noncomputable def f24_r0 (O : Oracle) (L : Loops (Value × Heap)) (x0 x1 x2 x3 x4 x5 x6 x7 x8 x9 x10 x11 x12 x13 x14 x15 x16 x17 x18 x19 x20 x21 x22 x23 x24 x25 x26 x27 x28 x29 x30 x31 x32 x33 x34 x35 x36 x37 x38 x39 x40 x41 x42 x43 x44 x45 x46 x47 x48 x49 x50 x51 x52 x53 x54 x55 x56 x57 x58 x59 x60 x61 x62 x63 x64 x65 x66 x67 x68 x69 x70 : Value) (h : Heap) : Option (Value × Heap) :=
  some (oneOf [x2], h)
theorem f24_r0_eq (O : Oracle) (L : Loops (Value × Heap)) (x0 x1 x2 x3 x4 x5 x6 x7 x8 x9 x10 x11 x12 x13 x14 x15 x16 x17 x18 x19 x20 x21 x22 x23 x24 x25 x26 x27 x28 x29 x30 x31 x32 x33 x34 x35 x36 x37 x38 x39 x40 x41 x42 x43 x44 x45 x46 x47 x48 x49 x50 x51 x52 x53 x54 x55 x56 x57 x58 x59 x60 x61 x62 x63 x64 x65 x66 x67 x68 x69 x70 : Value) (h : Heap) :
    f24_k0 O L .ret [x0, x1, x2, x3, x4, x5, x6, x7, x8, x9, x10, x11, x12, x13, x14, x15, x16, x17, x18, x19, x20, x21, x22, x23, x24, x25, x26, x27, x28, x29, x30, x31, x32, x33, x34, x35, x36, x37, x38, x39, x40, x41, x42, x43, x44, x45, x46, x47, x48, x49, x50, x51, x52, x53, x54, x55, x56, x57, x58, x59, x60, x61, x62, x63, x64, x65, x66, x67, x68, x69, x70] h = f24_r0 O L x0 x1 x2 x3 x4 x5 x6 x7 x8 x9 x10 x11 x12 x13 x14 x15 x16 x17 x18 x19 x20 x21 x22 x23 x24 x25 x26 x27 x28 x29 x30 x31 x32 x33 x34 x35 x36 x37 x38 x39 x40 x41 x42 x43 x44 x45 x46 x47 x48 x49 x50 x51 x52 x53 x54 x55 x56 x57 x58 x59 x60 x61 x62 x63 x64 x65 x66 x67 x68 x69 x70 h := by kernel_rfl
noncomputable def f24_b0 (O : Oracle) (L : Loops (Value × Heap)) (k : Ex → K (Value × Heap)) (x0 x1 x2 x3 x4 x5 x6 x7 x8 x9 x10 x11 x12 x13 x14 x15 x16 x17 x18 x19 x20 x21 x22 x23 x24 x25 x26 x27 x28 x29 x30 x31 x32 x33 x34 x35 x36 x37 x38 x39 x40 x41 x42 x43 x44 x45 x46 x47 x48 x49 x50 x51 x52 x53 x54 x55 x56 x57 x58 x59 x60 x61 x62 x63 x64 x65 x66 x67 x68 x69 x70 : Value) (h : Heap) : Option (Value × Heap) :=
  ob ((M.ofOpt (bin Try.prog .lss 3 x17 x16)) h) fun v6 h6 =>
  iteV v6 (
  ob ((M.ofOpt (fAddr 0 x1)) h6) fun v7 h7 =>
  ob ((ld1 v7) h7) fun v8 h8 =>
  L (runCode Try.prog O L f24_c1) (f24_k1 O L k) [x0, x1, x2, x3, x17, x5, x6, x7, x8, x9, x10, x11, x12, x13, x14, x15, x16, x17, v6, x17, v7, v8, (.int .i64 0), x23, x24, x25, x26, x27, x28, x29, x30, x31, x32, x33, x34, x35, x36, x37, x38, x39, x40, x41, x42, x43, x44, x45, x46, x47, x48, x49, x50, x51, x52, x53, x54, x55, x56, x57, x58, x59, x60, x61, x62, x63, x64, x65, x66, x67, x68, x69, x70] h8) (
  k (.exit 0) [x0, x1, x2, x3, x4, x5, x6, x7, x8, x9, x10, x11, x12, x13, x14, x15, x16, x17, v6, x19, x20, x21, x22, x23, x24, x25, x26, x27, x28, x29, x30, x31, x32, x33, x34, x35, x36, x37, x38, x39, x40, x41, x42, x43, x44, x45, x46, x47, x48, x49, x50, x51, x52, x53, x54, x55, x56, x57, x58, x59, x60, x61, x62, x63, x64, x65, x66, x67, x68, x69, x70] h6)
theorem f24_b0_eq (O : Oracle) (L : Loops (Value × Heap)) (k : Ex → K (Value × Heap)) (x0 x1 x2 x3 x4 x5 x6 x7 x8 x9 x10 x11 x12 x13 x14 x15 x16 x17 x18 x19 x20 x21 x22 x23 x24 x25 x26 x27 x28 x29 x30 x31 x32 x33 x34 x35 x36 x37 x38 x39 x40 x41 x42 x43 x44 x45 x46 x47 x48 x49 x50 x51 x52 x53 x54 x55 x56 x57 x58 x59 x60 x61 x62 x63 x64 x65 x66 x67 x68 x69 x70 : Value) (h : Heap) :
    runCode Try.prog O L f24_c0 k [x0, x1, x2, x3, x4, x5, x6, x7, x8, x9, x10, x11, x12, x13, x14, x15, x16, x17, x18, x19, x20, x21, x22, x23, x24, x25, x26, x27, x28, x29, x30, x31, x32, x33, x34, x35, x36, x37, x38, x39, x40, x41, x42, x43, x44, x45, x46, x47, x48, x49, x50, x51, x52, x53, x54, x55, x56, x57, x58, x59, x60, x61, x62, x63, x64, x65, x66, x67, x68, x69, x70] h = f24_b0 O L k x0 x1 x2 x3 x4 x5 x6 x7 x8 x9 x10 x11 x12 x13 x14 x15 x16 x17 x18 x19 x20 x21 x22 x23 x24 x25 x26 x27 x28 x29 x30 x31 x32 x33 x34 x35 x36 x37 x38 x39 x40 x41 x42 x43 x44 x45 x46 x47 x48 x49 x50 x51 x52 x53 x54 x55 x56 x57 x58 x59 x60 x61 x62 x63 x64 x65 x66 x67 x68 x69 x70 h := by kernel_rfl
noncomputable def f24 (O : Oracle) (L : Loops (Value × Heap)) (a0 : Value) (h : Heap) : Option (Value × Heap) :=
  ob ((newB 27 (Value.cells a0).toList .fix) h) fun v0 h0 =>
  ob ((ldN 11 v0) h0) fun v1 h1 =>
  ob ((O (.func 17) [v1]) h1) fun v2 h2 =>
  ob ((M.ofOpt (bin Try.prog .neq 30 v2 (.int .u16 0))) h2) fun v3 h3 =>
  iteV v3 (
  some (oneOf [v2], h3)) (
  ob ((M.ofOpt (fAddr 0 v0)) h3) fun v4 h4 =>
  ob ((ld1 v4) h4) fun v5 h5 =>
  L (runCode Try.prog O L f24_c0) (f24_k0 O L) [a0, v0, (.int .u16 0), v2, undef, undef, undef, undef, undef, undef, v1, v2, v2, v3, undef, v4, v5, (.int .i64 0), undef, undef, undef, undef, undef, undef, undef, undef, undef, undef, undef, undef, undef, undef, undef, undef, undef, undef, undef, undef, undef, undef, undef, undef, undef, undef, undef, undef, undef, undef, undef, undef, undef, undef, undef, undef, undef, undef, undef, undef, undef, undef, undef, undef, undef, undef, undef, undef, undef, undef, undef, undef, undef] h5)
theorem f24_eq (O : Oracle) (L : Loops (Value × Heap)) (a0 : Value) (h : Heap) :
    body Try.prog O L 24 [a0] h = f24 O L a0 h := by kernel_rfl
noncomputable def f25 (O : Oracle) (L : Loops (Value × Heap)) (a0 a1 a2 : Value) (h : Heap) : Option (Value × Heap) :=
  ob ((newB 27 (Value.cells a0).toList .fix) h) fun v0 h0 =>
  ob ((ldN 11 v0) h0) fun v1 h1 =>
  ob ((O (.func 17) [v1]) h1) fun v2 h2 =>
  ob ((M.ofOpt (bin Try.prog .neq 30 v2 (.int .u16 0))) h2) fun v3 h3 =>
  ob ((gd v3 false (M.ret a1)) h3) fun v4 h4 =>
  ob ((gd v3 false (M.ret a2)) h4) fun v5 h5 =>
  ob ((gd v3 false (M.ofOpt (minmax Try.prog false [v4, v5]))) h5) fun v6 h6 =>
  ob ((gd v3 false (M.ofOpt (bin Try.prog .lss 3 v6 (.int .i64 0)))) h6) fun v7 h7 =>
  ob ((M.ofOpt (pick v3 (.bool true) v7)) h7) fun v8 h8 =>
  ob ((gd v8 false (M.ret a1)) h8) fun v9 h9 =>
  ob ((gd v8 false (M.ret a2)) h9) fun v10 h10 =>
  ob ((gd v8 false (M.ofOpt (minmax Try.prog true [v9, v10]))) h10) fun v11 h11 =>
  ob ((gd v8 false (M.ofOpt (fAddr 0 v0))) h11) fun v12 h12 =>
  ob ((gd v8 false (ld1 v12)) h12) fun v13 h13 =>
  ob ((gd v8 false (M.ofOpt (bin Try.prog .geq 3 v11 v13))) h13) fun v14 h14 =>
  ob ((M.ofOpt (pick v8 (.bool true) v14)) h14) fun v15 h15 =>
  iteV v15 (
  some (oneOf [(.slice none 0 0)], h15)) (
  ob ((ldN 11 v0) h15) fun v16 h16 =>
  ob ((O (.func 47) [v16, a1, a2]) h16) fun v17 h17 =>
  ob ((M.ofOpt (ext 0 v17)) h17) fun v18 h18 =>
  ob ((M.ofOpt (ext 1 v17)) h18) fun v19 h19 =>
  some (oneOf [v18], h19))
theorem f25_eq (O : Oracle) (L : Loops (Value × Heap)) (a0 a1 a2 : Value) (h : Heap) :
    body Try.prog O L 25 [a0, a1, a2] h = f25 O L a0 a1 a2 h := by kernel_rfl
noncomputable def f26_c0 : Code := sub [1, 1, 1, 1, 0, 1, 0, 0] (fbody Try.prog 26)
noncomputable def f26_k0 (O : Oracle) (L : Loops (Value × Heap)) : Ex → K (Value × Heap) := (blockK 0 (seqK Try.prog O L (sub [1, 1, 1, 1, 1] (fbody Try.prog 26)) (kRet Try.prog Try.f26)))
noncomputable def f26_e0_0 (O : Oracle) (L : Loops (Value × Heap)) (x0 x1 x2 x3 x4 x5 x6 x7 x8 x9 x10 x11 x12 x13 x14 x15 x16 x17 x18 x19 x20 x21 x22 x23 x24 x25 x26 x27 x28 x29 x30 : Value) (h : Heap) : Option (Value × Heap) :=
  some (oneOf [x4], h)
theorem f26_e0_0_eq (O : Oracle) (L : Loops (Value × Heap)) (x0 x1 x2 x3 x4 x5 x6 x7 x8 x9 x10 x11 x12 x13 x14 x15 x16 x17 x18 x19 x20 x21 x22 x23 x24 x25 x26 x27 x28 x29 x30 : Value) (h : Heap) :
    f26_k0 O L (.exit 0) [x0, x1, x2, x3, x4, x5, x6, x7, x8, x9, x10, x11, x12, x13, x14, x15, x16, x17, x18, x19, x20, x21, x22, x23, x24, x25, x26, x27, x28, x29, x30] h = f26_e0_0 O L x0 x1 x2 x3 x4 x5 x6 x7 x8 x9 x10 x11 x12 x13 x14 x15 x16 x17 x18 x19 x20 x21 x22 x23 x24 x25 x26 x27 x28 x29 x30 h := by kernel_rfl
noncomputable def f26_b0 (O : Oracle) (L : Loops (Value × Heap)) (k : Ex → K (Value × Heap)) (x0 x1 x2 x3 x4 x5 x6 x7 x8 x9 x10 x11 x12 x13 x14 x15 x16 x17 x18 x19 x20 x21 x22 x23 x24 x25 x26 x27 x28 x29 x30 : Value) (h : Heap) : Option (Value × Heap) :=
  ob ((M.ofOpt (bin Try.prog .lss 3 x17 x16)) h) fun v9 h9 =>
  iteV v9 (
  ob ((M.ofOpt (iAddr 2 x15 x17)) h9) fun v10 h10 =>
  ob ((ldN 2 v10) h10) fun v11 h11 =>
  ob ((newB 38 [(.int .i64 0), (.int .i64 0)] .fix) h11) fun v12 h12 =>
  ob ((stN 2 v12 v11) h12) fun v13 h13 =>
  ob ((ldN 11 x1) h13) fun v14 h14 =>
  ob ((ldN 2 v12) h14) fun v15 h15 =>
  ob ((O (.func 49) [v14, v15, x3]) h15) fun v16 h16 =>
  ob ((M.ofOpt (iAddr 1 x4 x17)) h16) fun v17 h17 =>
  ob ((stN 1 v17 v16) h17) fun v18 h18 =>
  ob ((M.ofOpt (bin Try.prog .add 3 x17 (.int .i64 1))) h18) fun v19 h19 =>
  k .normal [x0, x1, x2, x3, x4, x17, v12, x7, x8, x9, x10, x11, x12, x13, x14, x15, x16, v19, v9, x17, v10, v11, x4, x17, v14, v15, x3, v16, v17, v19, x30] h19) (
  k (.exit 0) [x0, x1, x2, x3, x4, x5, x6, x7, x8, x9, x10, x11, x12, x13, x14, x15, x16, x17, v9, x19, x20, x21, x22, x23, x24, x25, x26, x27, x28, x29, x30] h9)
theorem f26_b0_eq (O : Oracle) (L : Loops (Value × Heap)) (k : Ex → K (Value × Heap)) (x0 x1 x2 x3 x4 x5 x6 x7 x8 x9 x10 x11 x12 x13 x14 x15 x16 x17 x18 x19 x20 x21 x22 x23 x24 x25 x26 x27 x28 x29 x30 : Value) (h : Heap) :
    runCode Try.prog O L f26_c0 k [x0, x1, x2, x3, x4, x5, x6, x7, x8, x9, x10, x11, x12, x13, x14, x15, x16, x17, x18, x19, x20, x21, x22, x23, x24, x25, x26, x27, x28, x29, x30] h = f26_b0 O L k x0 x1 x2 x3 x4 x5 x6 x7 x8 x9 x10 x11 x12 x13 x14 x15 x16 x17 x18 x19 x20 x21 x22 x23 x24 x25 x26 x27 x28 x29 x30 h := by kernel_rfl
noncomputable def f26 (O : Oracle) (L : Loops (Value × Heap)) (a0 : Value) (h : Heap) : Option (Value × Heap) :=
  ob ((newB 27 (Value.cells a0).toList .fix) h) fun v0 h0 =>
  ob ((ldN 11 v0) h0) fun v1 h1 =>
  ob ((O (.func 17) [v1]) h1) fun v2 h2 =>
  ob ((M.ofOpt (bin Try.prog .neq 30 v2 (.int .u16 0))) h2) fun v3 h3 =>
  iteV v3 (
  some (oneOf [(.slice none 0 0)], h3)) (
  ob ((ldN 11 v0) h3) fun v4 h4 =>
  ob ((O (.func 18) [v4]) h4) fun v5 h5 =>
  ob ((M.ofOpt (lenSl v5)) h5) fun v6 h6 =>
  ob ((mkSlice 24 1 24 [(.slice none 0 0)] v6 v6) h6) fun v7 h7 =>
  ob ((M.ofOpt (lenSl v5)) h7) fun v8 h8 =>
  L (runCode Try.prog O L f26_c0) (f26_k0 O L) [a0, v0, (.slice none 0 0), v5, v7, undef, undef, v1, v2, v3, v4, v5, v5, v6, v7, v5, v8, (.int .i64 0), undef, undef, undef, undef, undef, undef, undef, undef, undef, undef, undef, undef, undef] h8)
theorem f26_eq (O : Oracle) (L : Loops (Value × Heap)) (a0 : Value) (h : Heap) :
    body Try.prog O L 26 [a0] h = f26 O L a0 h := by kernel_rfl
noncomputable def f46_c1 : Code := sub [1, 1, 0, 1, 0, 0, 1, 0, 0, 1, 0, 0] (fbody Try.prog 46)
noncomputable def f46_k1 (O : Oracle) (L : Loops (Value × Heap)) (k : Ex → K (Value × Heap)) : Ex → K (Value × Heap) := (blockK 2 (blockK 1 (seqK Try.prog O L (sub [1, 1, 0, 1, 0, 0, 1, 1] (fbody Try.prog 46)) k)))
noncomputable def f46_e1_2 (O : Oracle) (L : Loops (Value × Heap)) (k : Ex → K (Value × Heap)) (x0 x1 x2 x3 x4 x5 x6 x7 x8 x9 x10 x11 x12 x13 x14 x15 x16 x17 x18 x19 x20 x21 x22 x23 x24 x25 x26 x27 x28 x29 x30 x31 x32 x33 x34 x35 x36 x37 x38 x39 x40 : Value) (h : Heap) : Option (Value × Heap) :=
  ob ((M.ofOpt (bin Try.prog .add 3 x4 (.int .i64 1))) h) fun v30 h30 =>
  k .normal [x0, x1, x2, x3, v30, x5, x6, x7, x8, x9, x10, x11, x12, x13, x14, x4, v30, x17, x18, x19, x20, x21, x22, x23, x24, x25, x26, x27, x28, x29, x30, x31, x32, x33, x34, x35, x36, x37, x38, x39, x40] h30
theorem f46_e1_2_eq (O : Oracle) (L : Loops (Value × Heap)) (k : Ex → K (Value × Heap)) (x0 x1 x2 x3 x4 x5 x6 x7 x8 x9 x10 x11 x12 x13 x14 x15 x16 x17 x18 x19 x20 x21 x22 x23 x24 x25 x26 x27 x28 x29 x30 x31 x32 x33 x34 x35 x36 x37 x38 x39 x40 : Value) (h : Heap) :
    f46_k1 O L k (.exit 2) [x0, x1, x2, x3, x4, x5, x6, x7, x8, x9, x10, x11, x12, x13, x14, x15, x16, x17, x18, x19, x20, x21, x22, x23, x24, x25, x26, x27, x28, x29, x30, x31, x32, x33, x34, x35, x36, x37, x38, x39, x40] h = f46_e1_2 O L k x0 x1 x2 x3 x4 x5 x6 x7 x8 x9 x10 x11 x12 x13 x14 x15 x16 x17 x18 x19 x20 x21 x22 x23 x24 x25 x26 x27 x28 x29 x30 x31 x32 x33 x34 x35 x36 x37 x38 x39 x40 h := by kernel_rfl
noncomputable def f46_b1 (O : Oracle) (L : Loops (Value × Heap)) (k : Ex → K (Value × Heap)) (x0 x1 x2 x3 x4 x5 x6 x7 x8 x9 x10 x11 x12 x13 x14 x15 x16 x17 x18 x19 x20 x21 x22 x23 x24 x25 x26 x27 x28 x29 x30 x31 x32 x33 x34 x35 x36 x37 x38 x39 x40 : Value) (h : Heap) : Option (Value × Heap) :=
  ob ((M.ofOpt (fAddr 10 x3)) h) fun v13 h13 =>
  ob ((ld1 v13) h13) fun v14 h14 =>
  ob ((M.ofOpt (iAddr 1 v14 x4)) h14) fun v15 h15 =>
  ob ((ld1 v15) h15) fun v16 h16 =>
  ob ((M.ofOpt (lenSl v16)) h16) fun v17 h17 =>
  ob ((M.ofOpt (bin Try.prog .lss 3 x5 v17)) h17) fun v18 h18 =>
  iteV v18 (
  ob ((M.ofOpt (bin Try.prog .neq 3 x4 x5)) h18) fun v19 h19 =>
  iteV v19 (
  ob ((M.ofOpt (fAddr 10 x3)) h19) fun v20 h20 =>
  ob ((ld1 v20) h20) fun v21 h21 =>
  ob ((M.ofOpt (iAddr 1 v21 x4)) h21) fun v22 h22 =>
  ob ((ld1 v22) h22) fun v23 h23 =>
  ob ((M.ofOpt (bin Try.prog .add 3 x4 (.int .i64 1))) h23) fun v24 h24 =>
  ob ((M.ofOpt (bin Try.prog .rem 3 v24 (.int .i64 3))) h24) fun v25 h25 =>
  ob ((M.ofOpt (iAddr 1 v23 x5)) h25) fun v26 h26 =>
  ob ((stN 1 v26 v25) h26) fun v27 h27 =>
  ob ((M.ofOpt (bin Try.prog .add 3 x5 (.int .i64 1))) h27) fun v28 h28 =>
  k .normal [x0, x1, x2, x3, x4, v28, x6, x7, x8, x9, x10, x11, x12, x13, x14, x15, x16, x5, v13, v14, x4, v15, v16, v17, v18, x5, v28, x4, x5, v19, v20, v21, x4, v22, v23, x5, x4, v24, v25, v26, x40] h28) (
  ob ((M.ofOpt (bin Try.prog .add 3 x5 (.int .i64 1))) h19) fun v29 h29 =>
  k .normal [x0, x1, x2, x3, x4, v29, x6, x7, x8, x9, x10, x11, x12, x13, x14, x15, x16, x5, v13, v14, x4, v15, v16, v17, v18, x5, v29, x4, x5, v19, x30, x31, x32, x33, x34, x35, x36, x37, x38, x39, x40] h29)) (
  k (.exit 2) [x0, x1, x2, x3, x4, x5, x6, x7, x8, x9, x10, x11, x12, x13, x14, x15, x16, x5, v13, v14, x4, v15, v16, v17, v18, x25, x26, x27, x28, x29, x30, x31, x32, x33, x34, x35, x36, x37, x38, x39, x40] h18)
theorem f46_b1_eq (O : Oracle) (L : Loops (Value × Heap)) (k : Ex → K (Value × Heap)) (x0 x1 x2 x3 x4 x5 x6 x7 x8 x9 x10 x11 x12 x13 x14 x15 x16 x17 x18 x19 x20 x21 x22 x23 x24 x25 x26 x27 x28 x29 x30 x31 x32 x33 x34 x35 x36 x37 x38 x39 x40 : Value) (h : Heap) :
    runCode Try.prog O L f46_c1 k [x0, x1, x2, x3, x4, x5, x6, x7, x8, x9, x10, x11, x12, x13, x14, x15, x16, x17, x18, x19, x20, x21, x22, x23, x24, x25, x26, x27, x28, x29, x30, x31, x32, x33, x34, x35, x36, x37, x38, x39, x40] h = f46_b1 O L k x0 x1 x2 x3 x4 x5 x6 x7 x8 x9 x10 x11 x12 x13 x14 x15 x16 x17 x18 x19 x20 x21 x22 x23 x24 x25 x26 x27 x28 x29 x30 x31 x32 x33 x34 x35 x36 x37 x38 x39 x40 h := by kernel_rfl
noncomputable def f46_c0 : Code := sub [1, 1, 0, 1, 0, 0] (fbody Try.prog 46)
noncomputable def f46_k0 (O : Oracle) (L : Loops (Value × Heap)) : Ex → K (Value × Heap) := (blockK 0 (seqK Try.prog O L (sub [1, 1, 1] (fbody Try.prog 46)) (kRet Try.prog Try.f46)))
noncomputable def f46_e0_0 (O : Oracle) (L : Loops (Value × Heap)) (x0 x1 x2 x3 x4 x5 x6 x7 x8 x9 x10 x11 x12 x13 x14 x15 x16 x17 x18 x19 x20 x21 x22 x23 x24 x25 x26 x27 x28 x29 x30 x31 x32 x33 x34 x35 x36 x37 x38 x39 x40 : Value) (h : Heap) : Option (Value × Heap) :=
  ob ((ldN 11 x3) h) fun v10 h10 =>
  ob ((stN 11 x2 v10) h10) fun v11 h11 =>
  ob ((ldN 11 x2) h11) fun w12 _ => some (oneOf [w12], h11)
theorem f46_e0_0_eq (O : Oracle) (L : Loops (Value × Heap)) (x0 x1 x2 x3 x4 x5 x6 x7 x8 x9 x10 x11 x12 x13 x14 x15 x16 x17 x18 x19 x20 x21 x22 x23 x24 x25 x26 x27 x28 x29 x30 x31 x32 x33 x34 x35 x36 x37 x38 x39 x40 : Value) (h : Heap) :
    f46_k0 O L (.exit 0) [x0, x1, x2, x3, x4, x5, x6, x7, x8, x9, x10, x11, x12, x13, x14, x15, x16, x17, x18, x19, x20, x21, x22, x23, x24, x25, x26, x27, x28, x29, x30, x31, x32, x33, x34, x35, x36, x37, x38, x39, x40] h = f46_e0_0 O L x0 x1 x2 x3 x4 x5 x6 x7 x8 x9 x10 x11 x12 x13 x14 x15 x16 x17 x18 x19 x20 x21 x22 x23 x24 x25 x26 x27 x28 x29 x30 x31 x32 x33 x34 x35 x36 x37 x38 x39 x40 h := by kernel_rfl
noncomputable def f46_b0 (O : Oracle) (L : Loops (Value × Heap)) (k : Ex → K (Value × Heap)) (x0 x1 x2 x3 x4 x5 x6 x7 x8 x9 x10 x11 x12 x13 x14 x15 x16 x17 x18 x19 x20 x21 x22 x23 x24 x25 x26 x27 x28 x29 x30 x31 x32 x33 x34 x35 x36 x37 x38 x39 x40 : Value) (h : Heap) : Option (Value × Heap) :=
  ob ((M.ofOpt (fAddr 10 x3)) h) fun v4 h4 =>
  ob ((ld1 v4) h4) fun v5 h5 =>
  ob ((M.ofOpt (lenSl v5)) h5) fun v6 h6 =>
  ob ((M.ofOpt (bin Try.prog .lss 3 x4 v6)) h6) fun v7 h7 =>
  ob ((gd v7 true (M.ret x0)) h7) fun v8 h8 =>
  ob ((M.ofOpt (pick v7 v8 (.bool false))) h8) fun v9 h9 =>
  iteV v9 (
  L (runCode Try.prog O L f46_c1) (f46_k1 O L k) [x0, x1, x2, x3, x4, (.int .i64 0), x6, x4, v4, v5, v6, v7, v7, v8, v9, x15, x16, x17, x18, x19, x20, x21, x22, x23, x24, x25, x26, x27, x28, x29, x30, x31, x32, x33, x34, x35, x36, x37, x38, x39, x40] h9) (
  k (.exit 0) [x0, x1, x2, x3, x4, x5, x6, x4, v4, v5, v6, v7, v7, v8, v9, x15, x16, x17, x18, x19, x20, x21, x22, x23, x24, x25, x26, x27, x28, x29, x30, x31, x32, x33, x34, x35, x36, x37, x38, x39, x40] h9)
theorem f46_b0_eq (O : Oracle) (L : Loops (Value × Heap)) (k : Ex → K (Value × Heap)) (x0 x1 x2 x3 x4 x5 x6 x7 x8 x9 x10 x11 x12 x13 x14 x15 x16 x17 x18 x19 x20 x21 x22 x23 x24 x25 x26 x27 x28 x29 x30 x31 x32 x33 x34 x35 x36 x37 x38 x39 x40 : Value) (h : Heap) :
    runCode Try.prog O L f46_c0 k [x0, x1, x2, x3, x4, x5, x6, x7, x8, x9, x10, x11, x12, x13, x14, x15, x16, x17, x18, x19, x20, x21, x22, x23, x24, x25, x26, x27, x28, x29, x30, x31, x32, x33, x34, x35, x36, x37, x38, x39, x40] h = f46_b0 O L k x0 x1 x2 x3 x4 x5 x6 x7 x8 x9 x10 x11 x12 x13 x14 x15 x16 x17 x18 x19 x20 x21 x22 x23 x24 x25 x26 x27 x28 x29 x30 x31 x32 x33 x34 x35 x36 x37 x38 x39 x40 h := by kernel_rfl
noncomputable def f46 (O : Oracle) (L : Loops (Value × Heap)) (a0 : Value) (h : Heap) : Option (Value × Heap) :=
  ob ((newB 27 [(.int .i64 0), (.slice none 0 0), (.int .i64 0), (.int .i64 0), (.int .i64 0), (.int .i64 0), (.int .i64 0), (.int .i64 0), (.slice none 0 0), (.int .u16 0), (.slice none 0 0)] .fix) h) fun v0 h0 =>
  ob ((O (.func 15) [(.int .u8 1), (.int .u8 0), (.int .u8 0), (.int .u16 7), (.slice none 0 0)]) h0) fun v1 h1 =>
  ob ((newB 27 [(.int .i64 0), (.slice none 0 0), (.int .i64 0), (.int .i64 0), (.int .i64 0), (.int .i64 0), (.int .i64 0), (.int .i64 0), (.slice none 0 0), (.int .u16 0), (.slice none 0 0)] .fix) h1) fun v2 h2 =>
  ob ((stN 11 v2 v1) h2) fun v3 h3 =>
  L (runCode Try.prog O L f46_c0) (f46_k0 O L) [a0, undef, v0, v2, (.int .i64 0), undef, v1, undef, undef, undef, undef, undef, undef, undef, undef, undef, undef, undef, undef, undef, undef, undef, undef, undef, undef, undef, undef, undef, undef, undef, undef, undef, undef, undef, undef, undef, undef, undef, undef, undef, undef] h3
theorem f46_eq (O : Oracle) (L : Loops (Value × Heap)) (a0 : Value) (h : Heap) :
    body Try.prog O L 46 [a0] h = f46 O L a0 h := by kernel_rfl
noncomputable def f47_c0 : Code := sub [1, 1, 0, 0, 0] (fbody Try.prog 47)
noncomputable def f47_k0 (O : Oracle) (L : Loops (Value × Heap)) : Ex → K (Value × Heap) := (blockK 0 (seqK Try.prog O L (sub [1, 1, 1] (fbody Try.prog 47)) (kRet Try.prog Try.f47)))
noncomputable def f47_e0_0 (O : Oracle) (L : Loops (Value × Heap)) (x0 x1 x2 x3 x4 x5 x6 x7 x8 x9 x10 x11 x12 x13 x14 x15 x16 x17 x18 x19 x20 x21 x22 x23 x24 x25 x26 x27 x28 x29 x30 x31 x32 x33 x34 x35 x36 x37 x38 x39 x40 x41 : Value) (h : Heap) : Option (Value × Heap) :=
  some (oneOf [x8, (.bool true)], h)
theorem f47_e0_0_eq (O : Oracle) (L : Loops (Value × Heap)) (x0 x1 x2 x3 x4 x5 x6 x7 x8 x9 x10 x11 x12 x13 x14 x15 x16 x17 x18 x19 x20 x21 x22 x23 x24 x25 x26 x27 x28 x29 x30 x31 x32 x33 x34 x35 x36 x37 x38 x39 x40 x41 : Value) (h : Heap) :
    f47_k0 O L (.exit 0) [x0, x1, x2, x3, x4, x5, x6, x7, x8, x9, x10, x11, x12, x13, x14, x15, x16, x17, x18, x19, x20, x21, x22, x23, x24, x25, x26, x27, x28, x29, x30, x31, x32, x33, x34, x35, x36, x37, x38, x39, x40, x41] h = f47_e0_0 O L x0 x1 x2 x3 x4 x5 x6 x7 x8 x9 x10 x11 x12 x13 x14 x15 x16 x17 x18 x19 x20 x21 x22 x23 x24 x25 x26 x27 x28 x29 x30 x31 x32 x33 x34 x35 x36 x37 x38 x39 x40 x41 h := by kernel_rfl
noncomputable def f47_r0 (O : Oracle) (L : Loops (Value × Heap)) (x0 x1 x2 x3 x4 x5 x6 x7 x8 x9 x10 x11 x12 x13 x14 x15 x16 x17 x18 x19 x20 x21 x22 x23 x24 x25 x26 x27 x28 x29 x30 x31 x32 x33 x34 x35 x36 x37 x38 x39 x40 x41 : Value) (h : Heap) : Option (Value × Heap) :=
  some (oneOf [x6, x7], h)
theorem f47_r0_eq (O : Oracle) (L : Loops (Value × Heap)) (x0 x1 x2 x3 x4 x5 x6 x7 x8 x9 x10 x11 x12 x13 x14 x15 x16 x17 x18 x19 x20 x21 x22 x23 x24 x25 x26 x27 x28 x29 x30 x31 x32 x33 x34 x35 x36 x37 x38 x39 x40 x41 : Value) (h : Heap) :
    f47_k0 O L .ret [x0, x1, x2, x3, x4, x5, x6, x7, x8, x9, x10, x11, x12, x13, x14, x15, x16, x17, x18, x19, x20, x21, x22, x23, x24, x25, x26, x27, x28, x29, x30, x31, x32, x33, x34, x35, x36, x37, x38, x39, x40, x41] h = f47_r0 O L x0 x1 x2 x3 x4 x5 x6 x7 x8 x9 x10 x11 x12 x13 x14 x15 x16 x17 x18 x19 x20 x21 x22 x23 x24 x25 x26 x27 x28 x29 x30 x31 x32 x33 x34 x35 x36 x37 x38 x39 x40 x41 h := by kernel_rfl
noncomputable def f47_b0 (O : Oracle) (L : Loops (Value × Heap)) (k : Ex → K (Value × Heap)) (x0 x1 x2 x3 x4 x5 x6 x7 x8 x9 x10 x11 x12 x13 x14 x15 x16 x17 x18 x19 x20 x21 x22 x23 x24 x25 x26 x27 x28 x29 x30 x31 x32 x33 x34 x35 x36 x37 x38 x39 x40 x41 : Value) (h : Heap) : Option (Value × Heap) :=
  ob ((M.ofOpt (bin Try.prog .neq 3 x1 x2)) h) fun v2 h2 =>
  iteV v2 (
  ob ((M.ofOpt (fAddr 10 x3)) h2) fun v3 h3 =>
  ob ((ld1 v3) h3) fun v4 h4 =>
  ob ((M.ofOpt (iAddr 1 v4 x1)) h4) fun v5 h5 =>
  ob ((ld1 v5) h5) fun v6 h6 =>
  ob ((M.ofOpt (iAddr 1 v6 x2)) h6) fun v7 h7 =>
  ob ((ld1 v7) h7) fun v8 h8 =>
  ob ((M.ofOpt (lenSl x8)) h8) fun v9 h9 =>
  ob ((M.ofOpt (fAddr 0 x3)) h9) fun v10 h10 =>
  ob ((ld1 v10) h10) fun v11 h11 =>
  ob ((M.ofOpt (bin Try.prog .eql 3 v9 v11)) h11) fun v12 h12 =>
  ob ((gd v12 false (ldN 11 x3)) h12) fun v13 h13 =>
  ob ((gd v12 false (M.ret x1)) h13) fun v14 h14 =>
  ob ((gd v12 false (O (.func 22) [v13, v14])) h14) fun v15 h15 =>
  ob ((gd v12 false (M.ret v8)) h15) fun v16 h16 =>
  ob ((gd v12 false (O (.func 66) [v15, v16])) h16) fun v17 h17 =>
  ob ((gd v12 false (M.ofOpt (un Try.prog .not v17))) h17) fun v18 h18 =>
  ob ((M.ofOpt (pick v12 (.bool true) v18)) h18) fun v19 h19 =>
  iteV v19 (
  k .ret [x0, x1, x2, x3, x4, x5, (.slice none 0 0), (.bool false), x8, v8, x10, x11, x1, x2, v2, v3, v4, x1, v5, v6, x2, v7, v8, x8, v9, v10, v11, v12, v12, v13, v14, v15, v16, v17, v18, v19, x36, x37, x38, x39, x40, x41] h19) (
  ob ((bldSlice 3 1 1 [(.int .i64 0)] [(0, v8)]) h19) fun v20 h20 =>
  ob ((app 3 1 8 x8 v20) h20) fun v21 h21 =>
  k .normal [x0, v8, x2, x3, x4, x5, x6, x7, v21, v8, x10, x11, x1, x2, v2, v3, v4, x1, v5, v6, x2, v7, v8, x8, v9, v10, v11, v12, v12, v13, v14, v15, v16, v17, v18, v19, x8, v8, v20, v21, v8, x41] h21)) (
  k (.exit 0) [x0, x1, x2, x3, x4, x5, x6, x7, x8, x9, x10, x11, x1, x2, v2, x15, x16, x17, x18, x19, x20, x21, x22, x23, x24, x25, x26, x27, x28, x29, x30, x31, x32, x33, x34, x35, x36, x37, x38, x39, x40, x41] h2)
theorem f47_b0_eq (O : Oracle) (L : Loops (Value × Heap)) (k : Ex → K (Value × Heap)) (x0 x1 x2 x3 x4 x5 x6 x7 x8 x9 x10 x11 x12 x13 x14 x15 x16 x17 x18 x19 x20 x21 x22 x23 x24 x25 x26 x27 x28 x29 x30 x31 x32 x33 x34 x35 x36 x37 x38 x39 x40 x41 : Value) (h : Heap) :
    runCode Try.prog O L f47_c0 k [x0, x1, x2, x3, x4, x5, x6, x7, x8, x9, x10, x11, x12, x13, x14, x15, x16, x17, x18, x19, x20, x21, x22, x23, x24, x25, x26, x27, x28, x29, x30, x31, x32, x33, x34, x35, x36, x37, x38, x39, x40, x41] h = f47_b0 O L k x0 x1 x2 x3 x4 x5 x6 x7 x8 x9 x10 x11 x12 x13 x14 x15 x16 x17 x18 x19 x20 x21 x22 x23 x24 x25 x26 x27 x28 x29 x30 x31 x32 x33 x34 x35 x36 x37 x38 x39 x40 x41 h := by kernel_rfl
noncomputable def f47 (O : Oracle) (L : Loops (Value × Heap)) (a0 a1 a2 : Value) (h : Heap) : Option (Value × Heap) :=
  ob ((newB 27 (Value.cells a0).toList .fix) h) fun v0 h0 =>
  ob ((bldSlice 3 1 1 [(.int .i64 0)] [(0, a1)]) h0) fun v1 h1 =>
  L (runCode Try.prog O L f47_c0) (f47_k0 O L) [a0, a1, a2, v0, undef, undef, (.slice none 0 0), (.bool false), v1, undef, a1, v1, undef, undef, undef, undef, undef, undef, undef, undef, undef, undef, undef, undef, undef, undef, undef, undef, undef, undef, undef, undef, undef, undef, undef, undef, undef, undef, undef, undef, undef, undef] h1
theorem f47_eq (O : Oracle) (L : Loops (Value × Heap)) (a0 a1 a2 : Value) (h : Heap) :
    body Try.prog O L 47 [a0, a1, a2] h = f47 O L a0 a1 a2 h := by kernel_rfl
noncomputable def f48_c0 : Code := sub [1, 0, 1, 1, 0, 1, 0, 0] (fbody Try.prog 48)
noncomputable def f48_k0 (O : Oracle) (L : Loops (Value × Heap)) : Ex → K (Value × Heap) := (blockK 0 (seqK Try.prog O L (sub [1, 0, 1, 1, 1] (fbody Try.prog 48)) (kRet Try.prog Try.f48)))
noncomputable def f48_e0_0 (O : Oracle) (L : Loops (Value × Heap)) (x0 x1 x2 x3 x4 x5 x6 x7 x8 x9 x10 x11 x12 x13 x14 x15 x16 x17 x18 x19 x20 x21 x22 x23 x24 x25 x26 x27 x28 x29 x30 x31 x32 x33 x34 x35 x36 x37 x38 x39 x40 x41 x42 x43 x44 x45 x46 x47 x48 x49 x50 x51 x52 x53 : Value) (h : Heap) : Option (Value × Heap) :=
  ob ((M.ofOpt (nilChk x0)) h) fun v29 h29 =>
  ob ((M.ofOpt (fAddr 0 v29)) h29) fun v30 h30 =>
  ob ((ld1 v30) h30) fun v31 h31 =>
  ob ((M.ofOpt (iAddr 1 v31 x1)) h31) fun v32 h32 =>
  ob ((stN 1 v32 (.int .i64 2)) h32) fun v33 h33 =>
  some (oneOf [(.bool false)], h33)
theorem f48_e0_0_eq (O : Oracle) (L : Loops (Value × Heap)) (x0 x1 x2 x3 x4 x5 x6 x7 x8 x9 x10 x11 x12 x13 x14 x15 x16 x17 x18 x19 x20 x21 x22 x23 x24 x25 x26 x27 x28 x29 x30 x31 x32 x33 x34 x35 x36 x37 x38 x39 x40 x41 x42 x43 x44 x45 x46 x47 x48 x49 x50 x51 x52 x53 : Value) (h : Heap) :
    f48_k0 O L (.exit 0) [x0, x1, x2, x3, x4, x5, x6, x7, x8, x9, x10, x11, x12, x13, x14, x15, x16, x17, x18, x19, x20, x21, x22, x23, x24, x25, x26, x27, x28, x29, x30, x31, x32, x33, x34, x35, x36, x37, x38, x39, x40, x41, x42, x43, x44, x45, x46, x47, x48, x49, x50, x51, x52, x53] h = f48_e0_0 O L x0 x1 x2 x3 x4 x5 x6 x7 x8 x9 x10 x11 x12 x13 x14 x15 x16 x17 x18 x19 x20 x21 x22 x23 x24 x25 x26 x27 x28 x29 x30 x31 x32 x33 x34 x35 x36 x37 x38 x39 x40 x41 x42 x43 x44 x45 x46 x47 x48 x49 x50 x51 x52 x53 h := by kernel_rfl
noncomputable def f48_r0 (O : Oracle) (L : Loops (Value × Heap)) (x0 x1 x2 x3 x4 x5 x6 x7 x8 x9 x10 x11 x12 x13 x14 x15 x16 x17 x18 x19 x20 x21 x22 x23 x24 x25 x26 x27 x28 x29 x30 x31 x32 x33 x34 x35 x36 x37 x38 x39 x40 x41 x42 x43 x44 x45 x46 x47 x48 x49 x50 x51 x52 x53 : Value) (h : Heap) : Option (Value × Heap) :=
  some (oneOf [x4], h)
theorem f48_r0_eq (O : Oracle) (L : Loops (Value × Heap)) (x0 x1 x2 x3 x4 x5 x6 x7 x8 x9 x10 x11 x12 x13 x14 x15 x16 x17 x18 x19 x20 x21 x22 x23 x24 x25 x26 x27 x28 x29 x30 x31 x32 x33 x34 x35 x36 x37 x38 x39 x40 x41 x42 x43 x44 x45 x46 x47 x48 x49 x50 x51 x52 x53 : Value) (h : Heap) :
    f48_k0 O L .ret [x0, x1, x2, x3, x4, x5, x6, x7, x8, x9, x10, x11, x12, x13, x14, x15, x16, x17, x18, x19, x20, x21, x22, x23, x24, x25, x26, x27, x28, x29, x30, x31, x32, x33, x34, x35, x36, x37, x38, x39, x40, x41, x42, x43, x44, x45, x46, x47, x48, x49, x50, x51, x52, x53] h = f48_r0 O L x0 x1 x2 x3 x4 x5 x6 x7 x8 x9 x10 x11 x12 x13 x14 x15 x16 x17 x18 x19 x20 x21 x22 x23 x24 x25 x26 x27 x28 x29 x30 x31 x32 x33 x34 x35 x36 x37 x38 x39 x40 x41 x42 x43 x44 x45 x46 x47 x48 x49 x50 x51 x52 x53 h := by kernel_rfl
noncomputable def f48_b0 (O : Oracle) (L : Loops (Value × Heap)) (k : Ex → K (Value × Heap)) (x0 x1 x2 x3 x4 x5 x6 x7 x8 x9 x10 x11 x12 x13 x14 x15 x16 x17 x18 x19 x20 x21 x22 x23 x24 x25 x26 x27 x28 x29 x30 x31 x32 x33 x34 x35 x36 x37 x38 x39 x40 x41 x42 x43 x44 x45 x46 x47 x48 x49 x50 x51 x52 x53 : Value) (h : Heap) : Option (Value × Heap) :=
  ob ((M.ofOpt (bin Try.prog .lss 3 x21 x20)) h) fun v11 h11 =>
  iteV v11 (
  ob ((M.ofOpt (iAddr 1 x19 x21)) h11) fun v12 h12 =>
  ob ((ld1 v12) h12) fun v13 h13 =>
  ob ((M.ofOpt (nilChk x0)) h13) fun v14 h14 =>
  ob ((M.ofOpt (fAddr 0 v14)) h14) fun v15 h15 =>
  ob ((ld1 v15) h15) fun v16 h16 =>
  ob ((M.ofOpt (iAddr 1 v16 v13)) h16) fun v17 h17 =>
  ob ((ld1 v17) h17) fun v18 h18 =>
  ob ((M.ofOpt (bin Try.prog .eql 3 v18 (.int .i64 1))) h18) fun v19 h19 =>
  iteV v19 (
  k .ret [x0, x1, x2, x3, (.bool true), x5, v13, x7, x8, x9, x10, x11, x12, x13, x14, x15, x16, x17, x18, x19, x20, x21, v11, v12, v13, v19, x0, v14, v15, v16, v13, v17, v18, v19, x34, x35, x36, x37, x38, x39, x40, x41, x42, x43, x44, x45, x46, x47, x48, x49, x50, x51, x52, x53] h19) (
  ob ((M.ofOpt (nilChk x0)) h19) fun v20 h20 =>
  ob ((M.ofOpt (fAddr 0 v20)) h20) fun v21 h21 =>
  ob ((ld1 v21) h21) fun v22 h22 =>
  ob ((M.ofOpt (iAddr 1 v22 v13)) h22) fun v23 h23 =>
  ob ((ld1 v23) h23) fun v24 h24 =>
  ob ((M.ofOpt (bin Try.prog .eql 3 v24 (.int .i64 2))) h24) fun v25 h25 =>
  iteV v25 (
  ob ((M.ofOpt (bin Try.prog .add 3 x21 (.int .i64 1))) h25) fun v26 h26 =>
  k .normal [x0, x1, x2, x3, x4, x5, v13, x7, x8, x9, x10, x11, x12, x13, x14, x15, x16, x17, x18, x19, x20, v26, v11, v12, v13, v19, x0, v14, v15, v16, v13, v17, v18, v19, v25, x0, v20, v21, v22, v13, v23, v24, v25, x43, x44, x45, x46, v26, x48, x49, x50, x51, x52, x53] h26) (
  ob ((O (.func 48) [x0, v13]) h25) fun v27 h27 =>
  iteV v27 (
  k .ret [x0, x1, x2, x3, (.bool true), x5, v13, x7, x8, x9, x10, x11, x12, x13, x14, x15, x16, x17, x18, x19, x20, x21, v11, v12, v13, v19, x0, v14, v15, v16, v13, v17, v18, v19, v25, x0, v20, v21, v22, v13, v23, v24, v25, v27, x0, v13, v27, x47, x48, x49, x50, x51, x52, x53] h27) (
  ob ((M.ofOpt (bin Try.prog .add 3 x21 (.int .i64 1))) h27) fun v28 h28 =>
  k .normal [x0, x1, x2, x3, x4, x5, v13, x7, x8, x9, x10, x11, x12, x13, x14, x15, x16, x17, x18, x19, x20, v28, v11, v12, v13, v19, x0, v14, v15, v16, v13, v17, v18, v19, v25, x0, v20, v21, v22, v13, v23, v24, v25, v27, x0, v13, v27, v28, x48, x49, x50, x51, x52, x53] h28)))) (
  k (.exit 0) [x0, x1, x2, x3, x4, x5, x6, x7, x8, x9, x10, x11, x12, x13, x14, x15, x16, x17, x18, x19, x20, x21, v11, x23, x24, x25, x26, x27, x28, x29, x30, x31, x32, x33, x34, x35, x36, x37, x38, x39, x40, x41, x42, x43, x44, x45, x46, x47, x48, x49, x50, x51, x52, x53] h11)
theorem f48_b0_eq (O : Oracle) (L : Loops (Value × Heap)) (k : Ex → K (Value × Heap)) (x0 x1 x2 x3 x4 x5 x6 x7 x8 x9 x10 x11 x12 x13 x14 x15 x16 x17 x18 x19 x20 x21 x22 x23 x24 x25 x26 x27 x28 x29 x30 x31 x32 x33 x34 x35 x36 x37 x38 x39 x40 x41 x42 x43 x44 x45 x46 x47 x48 x49 x50 x51 x52 x53 : Value) (h : Heap) :
    runCode Try.prog O L f48_c0 k [x0, x1, x2, x3, x4, x5, x6, x7, x8, x9, x10, x11, x12, x13, x14, x15, x16, x17, x18, x19, x20, x21, x22, x23, x24, x25, x26, x27, x28, x29, x30, x31, x32, x33, x34, x35, x36, x37, x38, x39, x40, x41, x42, x43, x44, x45, x46, x47, x48, x49, x50, x51, x52, x53] h = f48_b0 O L k x0 x1 x2 x3 x4 x5 x6 x7 x8 x9 x10 x11 x12 x13 x14 x15 x16 x17 x18 x19 x20 x21 x22 x23 x24 x25 x26 x27 x28 x29 x30 x31 x32 x33 x34 x35 x36 x37 x38 x39 x40 x41 x42 x43 x44 x45 x46 x47 x48 x49 x50 x51 x52 x53 h := by kernel_rfl
noncomputable def f48 (O : Oracle) (L : Loops (Value × Heap)) (a0 a1 : Value) (h : Heap) : Option (Value × Heap) :=
  ob ((M.ofOpt (nilChk a0)) h) fun v0 h0 =>
  ob ((M.ofOpt (fAddr 0 v0)) h0) fun v1 h1 =>
  ob ((ld1 v1) h1) fun v2 h2 =>
  ob ((M.ofOpt (iAddr 1 v2 a1)) h2) fun v3 h3 =>
  ob ((stN 1 v3 (.int .i64 1)) h3) fun v4 h4 =>
  ob ((M.ofOpt (nilChk a0)) h4) fun v5 h5 =>
  ob ((M.ofOpt (fAddr 1 v5)) h5) fun v6 h6 =>
  ob ((ld1 v6) h6) fun v7 h7 =>
  ob ((M.ofOpt (iAddr 1 v7 a1)) h7) fun v8 h8 =>
  ob ((ld1 v8) h8) fun v9 h9 =>
  ob ((M.ofOpt (lenSl v9)) h9) fun v10 h10 =>
  L (runCode Try.prog O L f48_c0) (f48_k0 O L) [a0, a1, undef, undef, (.bool false), undef, undef, a0, v0, v1, v2, a1, v3, a0, v5, v6, v7, a1, v8, v9, v10, (.int .i64 0), undef, undef, undef, undef, undef, undef, undef, undef, undef, undef, undef, undef, undef, undef, undef, undef, undef, undef, undef, undef, undef, undef, undef, undef, undef, undef, undef, undef, undef, undef, undef, undef] h10
theorem f48_eq (O : Oracle) (L : Loops (Value × Heap)) (a0 a1 : Value) (h : Heap) :
    body Try.prog O L 48 [a0, a1] h = f48 O L a0 a1 h := by kernel_rfl
noncomputable def f49_c0 : Code := sub [1, 1, 0, 1, 0, 0] (fbody Try.prog 49)
noncomputable def f49_k0 (O : Oracle) (L : Loops (Value × Heap)) : Ex → K (Value × Heap) := (blockK 0 (seqK Try.prog O L (sub [1, 1, 1] (fbody Try.prog 49)) (kRet Try.prog Try.f49)))
noncomputable def f49_e0_0 (O : Oracle) (L : Loops (Value × Heap)) (x0 x1 x2 x3 x4 x5 x6 x7 x8 x9 x10 x11 x12 x13 x14 x15 x16 x17 x18 x19 x20 x21 x22 x23 x24 x25 x26 x27 x28 x29 x30 x31 x32 x33 x34 x35 x36 x37 x38 x39 x40 x41 x42 x43 x44 x45 x46 x47 x48 x49 x50 x51 x52 x53 x54 x55 x56 x57 x58 x59 x60 x61 x62 x63 : Value) (h : Heap) : Option (Value × Heap) :=
  ob ((O (.func 44) [x7]) h) fun v44 h44 =>
  ob ((O (.func 45) [x7]) h44) fun v45 h45 =>
  some (oneOf [v45], h45)
theorem f49_e0_0_eq (O : Oracle) (L : Loops (Value × Heap)) (x0 x1 x2 x3 x4 x5 x6 x7 x8 x9 x10 x11 x12 x13 x14 x15 x16 x17 x18 x19 x20 x21 x22 x23 x24 x25 x26 x27 x28 x29 x30 x31 x32 x33 x34 x35 x36 x37 x38 x39 x40 x41 x42 x43 x44 x45 x46 x47 x48 x49 x50 x51 x52 x53 x54 x55 x56 x57 x58 x59 x60 x61 x62 x63 : Value) (h : Heap) :
    f49_k0 O L (.exit 0) [x0, x1, x2, x3, x4, x5, x6, x7, x8, x9, x10, x11, x12, x13, x14, x15, x16, x17, x18, x19, x20, x21, x22, x23, x24, x25, x26, x27, x28, x29, x30, x31, x32, x33, x34, x35, x36, x37, x38, x39, x40, x41, x42, x43, x44, x45, x46, x47, x48, x49, x50, x51, x52, x53, x54, x55, x56, x57, x58, x59, x60, x61, x62, x63] h = f49_e0_0 O L x0 x1 x2 x3 x4 x5 x6 x7 x8 x9 x10 x11 x12 x13 x14 x15 x16 x17 x18 x19 x20 x21 x22 x23 x24 x25 x26 x27 x28 x29 x30 x31 x32 x33 x34 x35 x36 x37 x38 x39 x40 x41 x42 x43 x44 x45 x46 x47 x48 x49 x50 x51 x52 x53 x54 x55 x56 x57 x58 x59 x60 x61 x62 x63 h := by kernel_rfl
noncomputable def f49_b0 (O : Oracle) (L : Loops (Value × Heap)) (k : Ex → K (Value × Heap)) (x0 x1 x2 x3 x4 x5 x6 x7 x8 x9 x10 x11 x12 x13 x14 x15 x16 x17 x18 x19 x20 x21 x22 x23 x24 x25 x26 x27 x28 x29 x30 x31 x32 x33 x34 x35 x36 x37 x38 x39 x40 x41 x42 x43 x44 x45 x46 x47 x48 x49 x50 x51 x52 x53 x54 x55 x56 x57 x58 x59 x60 x61 x62 x63 : Value) (h : Heap) : Option (Value × Heap) :=
  ob ((M.ofOpt (bin Try.prog .lss 3 x12 x11)) h) fun v4 h4 =>
  iteV v4 (
  ob ((M.ofOpt (fAddr 0 x4)) h4) fun v5 h5 =>
  ob ((ld1 v5) h5) fun v6 h6 =>
  ifB (true) (
  ob ((M.ofOpt (bin Try.prog .eql 3 x12 v6)) h6) fun v7 h7 =>
  ob ((gd v7 false (M.ret x12)) h7) fun v8 h8 =>
  ob ((gd v7 false (M.ofOpt (fAddr 1 x4))) h8) fun v9 h9 =>
  ob ((gd v7 false (ld1 v9)) h9) fun v10 h10 =>
  ifB (true) (
  ob ((gd v7 false (M.ofOpt (bin Try.prog .eql 3 v8 v10))) h10) fun v11 h11 =>
  ob ((M.ofOpt (pick v7 (.bool true) v11)) h11) fun v12 h12 =>
  ob ((gd v12 false (M.ofOpt (fAddr 10 x3))) h12) fun v13 h13 =>
  ob ((gd v12 false (ld1 v13)) h13) fun v14 h14 =>
  ifB (true) (
  ob ((gd v12 false (M.ofOpt (fAddr 0 x4))) h14) fun v15 h15 =>
  ob ((gd v12 false (ld1 v15)) h15) fun v16 h16 =>
  ifB (true) (
  ob ((gd v12 false (M.ofOpt (iAddr 1 v14 v16))) h16) fun v17 h17 =>
  ob ((gd v12 false (ld1 v17)) h17) fun v18 h18 =>
  ifB (true) (
  ob ((gd v12 false (M.ret x12)) h18) fun v19 h19 =>
  ob ((gd v12 false (M.ofOpt (iAddr 1 v18 v19))) h19) fun v20 h20 =>
  ob ((gd v12 false (ld1 v20)) h20) fun v21 h21 =>
  ifB (true) (
  ob ((gd v12 false (M.ofOpt (fAddr 1 x4))) h21) fun v22 h22 =>
  ob ((gd v12 false (ld1 v22)) h22) fun v23 h23 =>
  ifB (true) (
  ob ((gd v12 false (M.ofOpt (bin Try.prog .neq 3 v21 v23))) h23) fun v24 h24 =>
  ob ((M.ofOpt (pick v12 (.bool true) v24)) h24) fun v25 h25 =>
  iteV v25 (
  ob ((M.ofOpt (bin Try.prog .add 3 x12 (.int .i64 1))) h25) fun v26 h26 =>
  k .normal [x0, x1, x2, x3, x4, x5, x6, x7, x12, x9, x10, x11, v26, v4, x12, x12, v5, v6, v7, v7, v8, v9, v10, v11, v12, v12, v13, v14, v15, v16, v17, v18, v19, v20, v21, v22, v23, v24, v25, x39, x40, x41, x42, x43, x44, x45, x46, x47, x48, x49, x50, x51, x52, x53, x54, x55, x56, x57, x58, v26, x60, x61, x62, x63] h26) (
  ob ((M.ofOpt (fAddr 1 x4)) h25) fun v27 h27 =>
  ob ((ld1 v27) h27) fun v28 h28 =>
  ifB (true) (
  ob ((M.ofOpt (fAddr 10 x3)) h28) fun v29 h29 =>
  ob ((ld1 v29) h29) fun v30 h30 =>
  ifB (true) (
  ob ((M.ofOpt (fAddr 1 x4)) h30) fun v31 h31 =>
  ob ((ld1 v31) h31) fun v32 h32 =>
  ifB (true) (
  ob ((M.ofOpt (iAddr 1 v30 v32)) h32) fun v33 h33 =>
  ob ((ld1 v33) h33) fun v34 h34 =>
  ifB (true) (
  ob ((M.ofOpt (iAddr 1 v34 x12)) h34) fun v35 h35 =>
  ob ((ld1 v35) h35) fun v36 h36 =>
  ifB (true) (
  ob ((M.ofOpt (bld Try.prog 38 [(0, v28), (1, v36)])) h36) fun v37 h37 =>
  ob ((O (.func 67) [x2, v37]) h37) fun v38 h38 =>
  ifB (true) (
  ob ((M.ofOpt (bin Try.prog .geq 3 v38 (.int .i64 0))) h38) fun v39 h39 =>
  iteV v39 (
  ob ((bldSlice 3 1 1 [(.int .i64 0)] [(0, v38)]) h39) fun v40 h40 =>
  ob ((app 3 1 8 x7 v40) h40) fun v41 h41 =>
  ob ((M.ofOpt (bin Try.prog .add 3 x12 (.int .i64 1))) h41) fun v42 h42 =>
  k .normal [x0, x1, x2, x3, x4, x5, x6, v41, x12, v38, x10, x11, v42, v4, x12, x12, v5, v6, v7, v7, v8, v9, v10, v11, v12, v12, v13, v14, v15, v16, v17, v18, v19, v20, v21, v22, v23, v24, v25, x2, v27, v28, v29, v30, v31, v32, v33, v34, x12, v35, v36, v37, v38, v38, v39, x7, v38, v40, v41, v42, x60, x61, x62, x63] h42) (
  ob ((M.ofOpt (bin Try.prog .add 3 x12 (.int .i64 1))) h39) fun v43 h43 =>
  k .normal [x0, x1, x2, x3, x4, x5, x6, x7, x12, v38, x10, x11, v43, v4, x12, x12, v5, v6, v7, v7, v8, v9, v10, v11, v12, v12, v13, v14, v15, v16, v17, v18, v19, v20, v21, v22, v23, v24, v25, x2, v27, v28, v29, v30, v31, v32, v33, v34, x12, v35, v36, v37, v38, v38, v39, x55, x56, x57, x58, v43, x60, x61, x62, x63] h43)))))))))))))))) (
  k (.exit 0) [x0, x1, x2, x3, x4, x5, x6, x7, x8, x9, x10, x11, x12, v4, x14, x15, x16, x17, x18, x19, x20, x21, x22, x23, x24, x25, x26, x27, x28, x29, x30, x31, x32, x33, x34, x35, x36, x37, x38, x39, x40, x41, x42, x43, x44, x45, x46, x47, x48, x49, x50, x51, x52, x53, x54, x55, x56, x57, x58, x59, x60, x61, x62, x63] h4)
theorem f49_b0_eq (O : Oracle) (L : Loops (Value × Heap)) (k : Ex → K (Value × Heap)) (x0 x1 x2 x3 x4 x5 x6 x7 x8 x9 x10 x11 x12 x13 x14 x15 x16 x17 x18 x19 x20 x21 x22 x23 x24 x25 x26 x27 x28 x29 x30 x31 x32 x33 x34 x35 x36 x37 x38 x39 x40 x41 x42 x43 x44 x45 x46 x47 x48 x49 x50 x51 x52 x53 x54 x55 x56 x57 x58 x59 x60 x61 x62 x63 : Value) (h : Heap) :
    runCode Try.prog O L f49_c0 k [x0, x1, x2, x3, x4, x5, x6, x7, x8, x9, x10, x11, x12, x13, x14, x15, x16, x17, x18, x19, x20, x21, x22, x23, x24, x25, x26, x27, x28, x29, x30, x31, x32, x33, x34, x35, x36, x37, x38, x39, x40, x41, x42, x43, x44, x45, x46, x47, x48, x49, x50, x51, x52, x53, x54, x55, x56, x57, x58, x59, x60, x61, x62, x63] h = f49_b0 O L k x0 x1 x2 x3 x4 x5 x6 x7 x8 x9 x10 x11 x12 x13 x14 x15 x16 x17 x18 x19 x20 x21 x22 x23 x24 x25 x26 x27 x28 x29 x30 x31 x32 x33 x34 x35 x36 x37 x38 x39 x40 x41 x42 x43 x44 x45 x46 x47 x48 x49 x50 x51 x52 x53 x54 x55 x56 x57 x58 x59 x60 x61 x62 x63 h := by kernel_rfl
noncomputable def f49 (O : Oracle) (L : Loops (Value × Heap)) (a0 a1 a2 : Value) (h : Heap) : Option (Value × Heap) :=
  ob ((newB 27 (Value.cells a0).toList .fix) h) fun v0 h0 =>
  ob ((newB 38 (Value.cells a1).toList .fix) h0) fun v1 h1 =>
  ob ((M.ofOpt (fAddr 0 v0)) h1) fun v2 h2 =>
  ob ((ld1 v2) h2) fun v3 h3 =>
  L (runCode Try.prog O L f49_c0) (f49_k0 O L) [a0, a1, a2, v0, v1, undef, (.slice none 0 0), (.slice none 0 0), undef, undef, v2, v3, (.int .i64 0), undef, undef, undef, undef, undef, undef, undef, undef, undef, undef, undef, undef, undef, undef, undef, undef, undef, undef, undef, undef, undef, undef, undef, undef, undef, undef, undef, undef, undef, undef, undef, undef, undef, undef, undef, undef, undef, undef, undef, undef, undef, undef, undef, undef, undef, undef, undef, undef, undef, undef, undef] h3
theorem f49_eq (O : Oracle) (L : Loops (Value × Heap)) (a0 a1 a2 : Value) (h : Heap) :
    body Try.prog O L 49 [a0, a1, a2] h = f49 O L a0 a1 a2 h := by kernel_rfl
noncomputable def f66 (O : Oracle) (L : Loops (Value × Heap)) (a0 a1 : Value) (h : Heap) : Option (Value × Heap) :=
  ob ((O (.func 38) [a0, a1]) h) fun v0 h0 =>
  ob ((M.ofOpt (bin Try.prog .geq 3 v0 (.int .i64 0))) h0) fun v1 h1 =>
  some (oneOf [v1], h1)
theorem f66_eq (O : Oracle) (L : Loops (Value × Heap)) (a0 a1 : Value) (h : Heap) :
    body Try.prog O L 66 [a0, a1] h = f66 O L a0 a1 h := by kernel_rfl
noncomputable def f67_c0 : Code := sub [1, 0, 1, 0, 0] (fbody Try.prog 67)
noncomputable def f67_k0 (O : Oracle) (L : Loops (Value × Heap)) : Ex → K (Value × Heap) := (blockK 0 (seqK Try.prog O L (sub [1, 1] (fbody Try.prog 67)) (kRet Try.prog Try.f67)))
noncomputable def f67_e0_0 (O : Oracle) (L : Loops (Value × Heap)) (x0 x1 x2 x3 x4 x5 x6 x7 x8 x9 x10 x11 x12 x13 x14 x15 x16 x17 x18 : Value) (h : Heap) : Option (Value × Heap) :=
  some (oneOf [(.int .i64 (-1))], h)
theorem f67_e0_0_eq (O : Oracle) (L : Loops (Value × Heap)) (x0 x1 x2 x3 x4 x5 x6 x7 x8 x9 x10 x11 x12 x13 x14 x15 x16 x17 x18 : Value) (h : Heap) :
    f67_k0 O L (.exit 0) [x0, x1, x2, x3, x4, x5, x6, x7, x8, x9, x10, x11, x12, x13, x14, x15, x16, x17, x18] h = f67_e0_0 O L x0 x1 x2 x3 x4 x5 x6 x7 x8 x9 x10 x11 x12 x13 x14 x15 x16 x17 x18 h := by kernel_rfl
noncomputable def f67_r0 (O : Oracle) (L : Loops (Value × Heap)) (x0 x1 x2 x3 x4 x5 x6 x7 x8 x9 x10 x11 x12 x13 x14 x15 x16 x17 x18 : Value) (h : Heap) : Option (Value × Heap) :=
  some (oneOf [x4], h)
theorem f67_r0_eq (O : Oracle) (L : Loops (Value × Heap)) (x0 x1 x2 x3 x4 x5 x6 x7 x8 x9 x10 x11 x12 x13 x14 x15 x16 x17 x18 : Value) (h : Heap) :
    f67_k0 O L .ret [x0, x1, x2, x3, x4, x5, x6, x7, x8, x9, x10, x11, x12, x13, x14, x15, x16, x17, x18] h = f67_r0 O L x0 x1 x2 x3 x4 x5 x6 x7 x8 x9 x10 x11 x12 x13 x14 x15 x16 x17 x18 h := by kernel_rfl
noncomputable def f67_b0 (O : Oracle) (L : Loops (Value × Heap)) (k : Ex → K (Value × Heap)) (x0 x1 x2 x3 x4 x5 x6 x7 x8 x9 x10 x11 x12 x13 x14 x15 x16 x17 x18 : Value) (h : Heap) : Option (Value × Heap) :=
  ob ((M.ofOpt (bin Try.prog .lss 3 x8 x7)) h) fun v2 h2 =>
  iteV v2 (
  ob ((ldN 2 x3) h2) fun v3 h3 =>
  ifB (true) (
  ob ((M.ofOpt (iAddr 2 x0 x8)) h3) fun v4 h4 =>
  ob ((ldN 2 v4) h4) fun v5 h5 =>
  ifB (true) (
  ob ((M.ofOpt (bin Try.prog .eql 38 v3 v5)) h5) fun v6 h6 =>
  iteV v6 (
  k .ret [x0, x1, x2, x3, x8, x8, x6, x7, x8, v2, x8, v3, x0, x8, v4, v5, v6, x8, x18] h6) (
  ob ((M.ofOpt (bin Try.prog .add 3 x8 (.int .i64 1))) h6) fun v7 h7 =>
  k .normal [x0, x1, x2, x3, x4, x8, x6, x7, v7, v2, x8, v3, x0, x8, v4, v5, v6, x17, v7] h7)))) (
  k (.exit 0) [x0, x1, x2, x3, x4, x5, x6, x7, x8, v2, x10, x11, x12, x13, x14, x15, x16, x17, x18] h2)
theorem f67_b0_eq (O : Oracle) (L : Loops (Value × Heap)) (k : Ex → K (Value × Heap)) (x0 x1 x2 x3 x4 x5 x6 x7 x8 x9 x10 x11 x12 x13 x14 x15 x16 x17 x18 : Value) (h : Heap) :
    runCode Try.prog O L f67_c0 k [x0, x1, x2, x3, x4, x5, x6, x7, x8, x9, x10, x11, x12, x13, x14, x15, x16, x17, x18] h = f67_b0 O L k x0 x1 x2 x3 x4 x5 x6 x7 x8 x9 x10 x11 x12 x13 x14 x15 x16 x17 x18 h := by kernel_rfl
noncomputable def f67 (O : Oracle) (L : Loops (Value × Heap)) (a0 a1 : Value) (h : Heap) : Option (Value × Heap) :=
  ob ((newB 38 (Value.cells a1).toList .fix) h) fun v0 h0 =>
  ob ((M.ofOpt (lenSl a0)) h0) fun v1 h1 =>
  L (runCode Try.prog O L f67_c0) (f67_k0 O L) [a0, a1, undef, v0, (.int .i64 0), undef, a0, v1, (.int .i64 0), undef, undef, undef, undef, undef, undef, undef, undef, undef, undef] h1
theorem f67_eq (O : Oracle) (L : Loops (Value × Heap)) (a0 a1 : Value) (h : Heap) :
    body Try.prog O L 67 [a0, a1] h = f67 O L a0 a1 h := by kernel_rfl
noncomputable def f9_c4 : Code := sub [1, 1, 1, 1, 1, 1, 1, 1, 1, 0, 1, 0, 0, 1, 0, 0, 1, 0, 0] (fbody Try.prog 9)
noncomputable def f9_k4 (O : Oracle) (L : Loops (Value × Heap)) (k : Ex → K (Value × Heap)) : Ex → K (Value × Heap) := (blockK 8 (blockK 7 (seqK Try.prog O L (sub [1, 1, 1, 1, 1, 1, 1, 1, 1, 0, 1, 0, 0, 1, 1] (fbody Try.prog 9)) k)))
noncomputable def f9_e4_8 (O : Oracle) (L : Loops (Value × Heap)) (k : Ex → K (Value × Heap)) (x0 x1 x2 x3 x4 x5 x6 x7 x8 x9 x10 x11 x12 x13 x14 x15 x16 x17 x18 x19 x20 x21 x22 x23 x24 x25 x26 x27 x28 x29 x30 x31 x32 x33 x34 x35 x36 x37 x38 x39 x40 x41 x42 x43 x44 x45 x46 x47 x48 x49 x50 x51 x52 x53 x54 x55 x56 x57 x58 x59 x60 x61 x62 x63 x64 x65 x66 x67 x68 x69 x70 x71 x72 x73 x74 x75 x76 x77 x78 x79 x80 x81 x82 x83 x84 x85 x86 x87 x88 x89 x90 x91 x92 x93 x94 x95 x96 x97 x98 x99 x100 x101 x102 x103 x104 x105 x106 x107 x108 x109 x110 x111 x112 x113 x114 x115 x116 : Value) (h : Heap) : Option (Value × Heap) :=
  ob ((M.ofOpt (bin Try.prog .add 3 x13 (.int .i64 1))) h) fun v81 h81 =>
  k .normal [x0, x1, x2, x3, x4, x5, x6, x7, x8, x9, x10, x11, x12, v81, x14, x15, x16, x17, x18, x19, x20, x21, x22, x23, x24, x25, x26, x27, x28, x29, x30, x31, x32, x33, x34, x35, x36, x37, x38, x39, x40, x41, x42, x43, x44, x45, x46, x47, x48, x49, x50, x51, x52, x53, x54, x55, x56, x57, x58, x59, x60, x61, x62, x63, x64, x65, x66, x67, x68, x69, x70, x71, x72, x73, x74, x75, x76, x77, x78, x79, x80, x81, x82, x83, x84, x85, x13, v81, x88, x89, x90, x91, x92, x93, x94, x95, x96, x97, x98, x99, x100, x101, x102, x103, x104, x105, x106, x107, x108, x109, x110, x111, x112, x113, x114, x115, x116] h81
theorem f9_e4_8_eq (O : Oracle) (L : Loops (Value × Heap)) (k : Ex → K (Value × Heap)) (x0 x1 x2 x3 x4 x5 x6 x7 x8 x9 x10 x11 x12 x13 x14 x15 x16 x17 x18 x19 x20 x21 x22 x23 x24 x25 x26 x27 x28 x29 x30 x31 x32 x33 x34 x35 x36 x37 x38 x39 x40 x41 x42 x43 x44 x45 x46 x47 x48 x49 x50 x51 x52 x53 x54 x55 x56 x57 x58 x59 x60 x61 x62 x63 x64 x65 x66 x67 x68 x69 x70 x71 x72 x73 x74 x75 x76 x77 x78 x79 x80 x81 x82 x83 x84 x85 x86 x87 x88 x89 x90 x91 x92 x93 x94 x95 x96 x97 x98 x99 x100 x101 x102 x103 x104 x105 x106 x107 x108 x109 x110 x111 x112 x113 x114 x115 x116 : Value) (h : Heap) :
    f9_k4 O L k (.exit 8) [x0, x1, x2, x3, x4, x5, x6, x7, x8, x9, x10, x11, x12, x13, x14, x15, x16, x17, x18, x19, x20, x21, x22, x23, x24, x25, x26, x27, x28, x29, x30, x31, x32, x33, x34, x35, x36, x37, x38, x39, x40, x41, x42, x43, x44, x45, x46, x47, x48, x49, x50, x51, x52, x53, x54, x55, x56, x57, x58, x59, x60, x61, x62, x63, x64, x65, x66, x67, x68, x69, x70, x71, x72, x73, x74, x75, x76, x77, x78, x79, x80, x81, x82, x83, x84, x85, x86, x87, x88, x89, x90, x91, x92, x93, x94, x95, x96, x97, x98, x99, x100, x101, x102, x103, x104, x105, x106, x107, x108, x109, x110, x111, x112, x113, x114, x115, x116] h = f9_e4_8 O L k x0 x1 x2 x3 x4 x5 x6 x7 x8 x9 x10 x11 x12 x13 x14 x15 x16 x17 x18 x19 x20 x21 x22 x23 x24 x25 x26 x27 x28 x29 x30 x31 x32 x33 x34 x35 x36 x37 x38 x39 x40 x41 x42 x43 x44 x45 x46 x47 x48 x49 x50 x51 x52 x53 x54 x55 x56 x57 x58 x59 x60 x61 x62 x63 x64 x65 x66 x67 x68 x69 x70 x71 x72 x73 x74 x75 x76 x77 x78 x79 x80 x81 x82 x83 x84 x85 x86 x87 x88 x89 x90 x91 x92 x93 x94 x95 x96 x97 x98 x99 x100 x101 x102 x103 x104 x105 x106 x107 x108 x109 x110 x111 x112 x113 x114 x115 x116 h := by kernel_rfl
noncomputable def f9_b4 (O : Oracle) (L : Loops (Value × Heap)) (k : Ex → K (Value × Heap)) (x0 x1 x2 x3 x4 x5 x6 x7 x8 x9 x10 x11 x12 x13 x14 x15 x16 x17 x18 x19 x20 x21 x22 x23 x24 x25 x26 x27 x28 x29 x30 x31 x32 x33 x34 x35 x36 x37 x38 x39 x40 x41 x42 x43 x44 x45 x46 x47 x48 x49 x50 x51 x52 x53 x54 x55 x56 x57 x58 x59 x60 x61 x62 x63 x64 x65 x66 x67 x68 x69 x70 x71 x72 x73 x74 x75 x76 x77 x78 x79 x80 x81 x82 x83 x84 x85 x86 x87 x88 x89 x90 x91 x92 x93 x94 x95 x96 x97 x98 x99 x100 x101 x102 x103 x104 x105 x106 x107 x108 x109 x110 x111 x112 x113 x114 x115 x116 : Value) (h : Heap) : Option (Value × Heap) :=
  ob ((M.ofOpt (bin Try.prog .lss 3 x14 x8)) h) fun v69 h69 =>
  iteV v69 (
  ob ((M.ofOpt (bin Try.prog .neq 3 x13 x14)) h69) fun v70 h70 =>
  iteV v70 (
  ob ((M.ofOpt (fAddr 10 x7)) h70) fun v71 h71 =>
  ob ((ld1 v71) h71) fun v72 h72 =>
  ifB (true) (
  ob ((M.ofOpt (iAddr 1 v72 x13)) h72) fun v73 h73 =>
  ob ((ld1 v73) h73) fun v74 h74 =>
  ifB (true) (
  ob ((M.ofOpt (bin Try.prog .add 3 x13 (.int .i64 1))) h74) fun v75 h75 =>
  ob ((M.ofOpt (bin Try.prog .rem 3 v75 x8)) h75) fun v76 h76 =>
  ob ((M.ofOpt (iAddr 1 v74 x14)) h76) fun v77 h77 =>
  ob ((stN 1 v77 v76) h77) fun v78 h78 =>
  ifB (true) (
  ob ((M.ofOpt (bin Try.prog .add 3 x14 (.int .i64 1))) h78) fun v79 h79 =>
  k .normal [x0, x1, x2, x3, x4, x5, x6, x7, x8, x9, x10, x11, x12, x13, v79, x15, x16, x17, x18, x19, x20, x21, x22, x23, x24, x25, x26, x27, x28, x29, x30, x31, x32, x33, x34, x35, x36, x37, x38, x39, x40, x41, x42, x43, x44, x45, x46, x47, x48, x49, x50, x51, x52, x53, x54, x55, x56, x57, x58, x59, x60, x61, x62, x63, x64, x65, x66, x67, x68, x69, x70, x71, x72, x73, x74, x75, x76, x77, x78, x79, x80, x81, x82, x83, x84, x85, x86, x87, x14, x8, v69, x14, v79, x13, x14, v70, v71, v72, x13, v73, v74, x14, x13, v75, x8, v76, v77, x107, x108, x109, x110, x111, x112, x113, x114, x115, x116] h79)))) (
  ob ((M.ofOpt (bin Try.prog .add 3 x14 (.int .i64 1))) h70) fun v80 h80 =>
  k .normal [x0, x1, x2, x3, x4, x5, x6, x7, x8, x9, x10, x11, x12, x13, v80, x15, x16, x17, x18, x19, x20, x21, x22, x23, x24, x25, x26, x27, x28, x29, x30, x31, x32, x33, x34, x35, x36, x37, x38, x39, x40, x41, x42, x43, x44, x45, x46, x47, x48, x49, x50, x51, x52, x53, x54, x55, x56, x57, x58, x59, x60, x61, x62, x63, x64, x65, x66, x67, x68, x69, x70, x71, x72, x73, x74, x75, x76, x77, x78, x79, x80, x81, x82, x83, x84, x85, x86, x87, x14, x8, v69, x14, v80, x13, x14, v70, x96, x97, x98, x99, x100, x101, x102, x103, x104, x105, x106, x107, x108, x109, x110, x111, x112, x113, x114, x115, x116] h80)) (
  k (.exit 8) [x0, x1, x2, x3, x4, x5, x6, x7, x8, x9, x10, x11, x12, x13, x14, x15, x16, x17, x18, x19, x20, x21, x22, x23, x24, x25, x26, x27, x28, x29, x30, x31, x32, x33, x34, x35, x36, x37, x38, x39, x40, x41, x42, x43, x44, x45, x46, x47, x48, x49, x50, x51, x52, x53, x54, x55, x56, x57, x58, x59, x60, x61, x62, x63, x64, x65, x66, x67, x68, x69, x70, x71, x72, x73, x74, x75, x76, x77, x78, x79, x80, x81, x82, x83, x84, x85, x86, x87, x14, x8, v69, x91, x92, x93, x94, x95, x96, x97, x98, x99, x100, x101, x102, x103, x104, x105, x106, x107, x108, x109, x110, x111, x112, x113, x114, x115, x116] h69)
theorem f9_b4_eq (O : Oracle) (L : Loops (Value × Heap)) (k : Ex → K (Value × Heap)) (x0 x1 x2 x3 x4 x5 x6 x7 x8 x9 x10 x11 x12 x13 x14 x15 x16 x17 x18 x19 x20 x21 x22 x23 x24 x25 x26 x27 x28 x29 x30 x31 x32 x33 x34 x35 x36 x37 x38 x39 x40 x41 x42 x43 x44 x45 x46 x47 x48 x49 x50 x51 x52 x53 x54 x55 x56 x57 x58 x59 x60 x61 x62 x63 x64 x65 x66 x67 x68 x69 x70 x71 x72 x73 x74 x75 x76 x77 x78 x79 x80 x81 x82 x83 x84 x85 x86 x87 x88 x89 x90 x91 x92 x93 x94 x95 x96 x97 x98 x99 x100 x101 x102 x103 x104 x105 x106 x107 x108 x109 x110 x111 x112 x113 x114 x115 x116 : Value) (h : Heap) :
    runCode Try.prog O L f9_c4 k [x0, x1, x2, x3, x4, x5, x6, x7, x8, x9, x10, x11, x12, x13, x14, x15, x16, x17, x18, x19, x20, x21, x22, x23, x24, x25, x26, x27, x28, x29, x30, x31, x32, x33, x34, x35, x36, x37, x38, x39, x40, x41, x42, x43, x44, x45, x46, x47, x48, x49, x50, x51, x52, x53, x54, x55, x56, x57, x58, x59, x60, x61, x62, x63, x64, x65, x66, x67, x68, x69, x70, x71, x72, x73, x74, x75, x76, x77, x78, x79, x80, x81, x82, x83, x84, x85, x86, x87, x88, x89, x90, x91, x92, x93, x94, x95, x96, x97, x98, x99, x100, x101, x102, x103, x104, x105, x106, x107, x108, x109, x110, x111, x112, x113, x114, x115, x116] h = f9_b4 O L k x0 x1 x2 x3 x4 x5 x6 x7 x8 x9 x10 x11 x12 x13 x14 x15 x16 x17 x18 x19 x20 x21 x22 x23 x24 x25 x26 x27 x28 x29 x30 x31 x32 x33 x34 x35 x36 x37 x38 x39 x40 x41 x42 x43 x44 x45 x46 x47 x48 x49 x50 x51 x52 x53 x54 x55 x56 x57 x58 x59 x60 x61 x62 x63 x64 x65 x66 x67 x68 x69 x70 x71 x72 x73 x74 x75 x76 x77 x78 x79 x80 x81 x82 x83 x84 x85 x86 x87 x88 x89 x90 x91 x92 x93 x94 x95 x96 x97 x98 x99 x100 x101 x102 x103 x104 x105 x106 x107 x108 x109 x110 x111 x112 x113 x114 x115 x116 h := by kernel_rfl
noncomputable def f9_c3 : Code := sub [1, 1, 1, 1, 1, 1, 1, 1, 1, 0, 1, 0, 0] (fbody Try.prog 9)
noncomputable def f9_k3 (O : Oracle) (L : Loops (Value × Heap)) : Ex → K (Value × Heap) := (blockK 6 (seqK Try.prog O L (sub [1, 1, 1, 1, 1, 1, 1, 1, 1, 1] (fbody Try.prog 9)) (kRet Try.prog Try.f9)))
noncomputable def f9_e3_6 (O : Oracle) (L : Loops (Value × Heap)) (x0 x1 x2 x3 x4 x5 x6 x7 x8 x9 x10 x11 x12 x13 x14 x15 x16 x17 x18 x19 x20 x21 x22 x23 x24 x25 x26 x27 x28 x29 x30 x31 x32 x33 x34 x35 x36 x37 x38 x39 x40 x41 x42 x43 x44 x45 x46 x47 x48 x49 x50 x51 x52 x53 x54 x55 x56 x57 x58 x59 x60 x61 x62 x63 x64 x65 x66 x67 x68 x69 x70 x71 x72 x73 x74 x75 x76 x77 x78 x79 x80 x81 x82 x83 x84 x85 x86 x87 x88 x89 x90 x91 x92 x93 x94 x95 x96 x97 x98 x99 x100 x101 x102 x103 x104 x105 x106 x107 x108 x109 x110 x111 x112 x113 x114 x115 x116 : Value) (h : Heap) : Option (Value × Heap) :=
  ob ((O (.func 23) []) h) fun v61 h61 =>
  ob ((gd v61 true (M.ret x12)) h61) fun v62 h62 =>
  ob ((gd v61 true (M.ofOpt (bin Try.prog .eql 30 v62 (.int .u16 0)))) h62) fun v63 h63 =>
  ob ((M.ofOpt (pick v61 v63 (.bool false))) h63) fun v64 h64 =>
  ob ((gd v64 true (ldN 11 x7)) h64) fun v65 h65 =>
  ob ((gd v64 true (O (.func 24) [v65])) h65) fun v66 h66 =>
  ob ((gd v64 true (M.ofOpt (bin Try.prog .eql 30 v66 (.int .u16 140)))) h66) fun v67 h67 =>
  ob ((M.ofOpt (pick v64 v67 (.bool false))) h67) fun v68 h68 =>
  some (oneOf [v68], h68)
theorem f9_e3_6_eq (O : Oracle) (L : Loops (Value × Heap)) (x0 x1 x2 x3 x4 x5 x6 x7 x8 x9 x10 x11 x12 x13 x14 x15 x16 x17 x18 x19 x20 x21 x22 x23 x24 x25 x26 x27 x28 x29 x30 x31 x32 x33 x34 x35 x36 x37 x38 x39 x40 x41 x42 x43 x44 x45 x46 x47 x48 x49 x50 x51 x52 x53 x54 x55 x56 x57 x58 x59 x60 x61 x62 x63 x64 x65 x66 x67 x68 x69 x70 x71 x72 x73 x74 x75 x76 x77 x78 x79 x80 x81 x82 x83 x84 x85 x86 x87 x88 x89 x90 x91 x92 x93 x94 x95 x96 x97 x98 x99 x100 x101 x102 x103 x104 x105 x106 x107 x108 x109 x110 x111 x112 x113 x114 x115 x116 : Value) (h : Heap) :
    f9_k3 O L (.exit 6) [x0, x1, x2, x3, x4, x5, x6, x7, x8, x9, x10, x11, x12, x13, x14, x15, x16, x17, x18, x19, x20, x21, x22, x23, x24, x25, x26, x27, x28, x29, x30, x31, x32, x33, x34, x35, x36, x37, x38, x39, x40, x41, x42, x43, x44, x45, x46, x47, x48, x49, x50, x51, x52, x53, x54, x55, x56, x57, x58, x59, x60, x61, x62, x63, x64, x65, x66, x67, x68, x69, x70, x71, x72, x73, x74, x75, x76, x77, x78, x79, x80, x81, x82, x83, x84, x85, x86, x87, x88, x89, x90, x91, x92, x93, x94, x95, x96, x97, x98, x99, x100, x101, x102, x103, x104, x105, x106, x107, x108, x109, x110, x111, x112, x113, x114, x115, x116] h = f9_e3_6 O L x0 x1 x2 x3 x4 x5 x6 x7 x8 x9 x10 x11 x12 x13 x14 x15 x16 x17 x18 x19 x20 x21 x22 x23 x24 x25 x26 x27 x28 x29 x30 x31 x32 x33 x34 x35 x36 x37 x38 x39 x40 x41 x42 x43 x44 x45 x46 x47 x48 x49 x50 x51 x52 x53 x54 x55 x56 x57 x58 x59 x60 x61 x62 x63 x64 x65 x66 x67 x68 x69 x70 x71 x72 x73 x74 x75 x76 x77 x78 x79 x80 x81 x82 x83 x84 x85 x86 x87 x88 x89 x90 x91 x92 x93 x94 x95 x96 x97 x98 x99 x100 x101 x102 x103 x104 x105 x106 x107 x108 x109 x110 x111 x112 x113 x114 x115 x116 h := by kernel_rfl
noncomputable def f9_b3 (O : Oracle) (L : Loops (Value × Heap)) (k : Ex → K (Value × Heap)) (x0 x1 x2 x3 x4 x5 x6 x7 x8 x9 x10 x11 x12 x13 x14 x15 x16 x17 x18 x19 x20 x21 x22 x23 x24 x25 x26 x27 x28 x29 x30 x31 x32 x33 x34 x35 x36 x37 x38 x39 x40 x41 x42 x43 x44 x45 x46 x47 x48 x49 x50 x51 x52 x53 x54 x55 x56 x57 x58 x59 x60 x61 x62 x63 x64 x65 x66 x67 x68 x69 x70 x71 x72 x73 x74 x75 x76 x77 x78 x79 x80 x81 x82 x83 x84 x85 x86 x87 x88 x89 x90 x91 x92 x93 x94 x95 x96 x97 x98 x99 x100 x101 x102 x103 x104 x105 x106 x107 x108 x109 x110 x111 x112 x113 x114 x115 x116 : Value) (h : Heap) : Option (Value × Heap) :=
  ob ((M.ofOpt (bin Try.prog .lss 3 x13 x8)) h) fun v60 h60 =>
  iteV v60 (
  L (runCode Try.prog O L f9_c4) (f9_k4 O L k) [x0, x1, x2, x3, x4, x5, x6, x7, x8, x9, x10, x11, x12, x13, (.int .i64 0), x15, x16, x17, x18, x19, x20, x21, x22, x23, x24, x25, x26, x27, x28, x29, x30, x31, x32, x33, x34, x35, x36, x37, x38, x39, x40, x41, x42, x43, x44, x45, x46, x47, x48, x49, x50, x51, x52, x53, x54, x55, x56, x57, x58, x59, x60, x61, x62, x63, x64, x65, x66, x67, x68, x69, x70, x71, x72, x73, x74, x75, x76, x77, x78, x79, x80, x81, x82, x13, x8, v60, x86, x87, x88, x89, x90, x91, x92, x93, x94, x95, x96, x97, x98, x99, x100, x101, x102, x103, x104, x105, x106, x107, x108, x109, x110, x111, x112, x113, x114, x115, x116] h60) (
  k (.exit 6) [x0, x1, x2, x3, x4, x5, x6, x7, x8, x9, x10, x11, x12, x13, x14, x15, x16, x17, x18, x19, x20, x21, x22, x23, x24, x25, x26, x27, x28, x29, x30, x31, x32, x33, x34, x35, x36, x37, x38, x39, x40, x41, x42, x43, x44, x45, x46, x47, x48, x49, x50, x51, x52, x53, x54, x55, x56, x57, x58, x59, x60, x61, x62, x63, x64, x65, x66, x67, x68, x69, x70, x71, x72, x73, x74, x75, x76, x77, x78, x79, x80, x81, x82, x13, x8, v60, x86, x87, x88, x89, x90, x91, x92, x93, x94, x95, x96, x97, x98, x99, x100, x101, x102, x103, x104, x105, x106, x107, x108, x109, x110, x111, x112, x113, x114, x115, x116] h60)
theorem f9_b3_eq (O : Oracle) (L : Loops (Value × Heap)) (k : Ex → K (Value × Heap)) (x0 x1 x2 x3 x4 x5 x6 x7 x8 x9 x10 x11 x12 x13 x14 x15 x16 x17 x18 x19 x20 x21 x22 x23 x24 x25 x26 x27 x28 x29 x30 x31 x32 x33 x34 x35 x36 x37 x38 x39 x40 x41 x42 x43 x44 x45 x46 x47 x48 x49 x50 x51 x52 x53 x54 x55 x56 x57 x58 x59 x60 x61 x62 x63 x64 x65 x66 x67 x68 x69 x70 x71 x72 x73 x74 x75 x76 x77 x78 x79 x80 x81 x82 x83 x84 x85 x86 x87 x88 x89 x90 x91 x92 x93 x94 x95 x96 x97 x98 x99 x100 x101 x102 x103 x104 x105 x106 x107 x108 x109 x110 x111 x112 x113 x114 x115 x116 : Value) (h : Heap) :
    runCode Try.prog O L f9_c3 k [x0, x1, x2, x3, x4, x5, x6, x7, x8, x9, x10, x11, x12, x13, x14, x15, x16, x17, x18, x19, x20, x21, x22, x23, x24, x25, x26, x27, x28, x29, x30, x31, x32, x33, x34, x35, x36, x37, x38, x39, x40, x41, x42, x43, x44, x45, x46, x47, x48, x49, x50, x51, x52, x53, x54, x55, x56, x57, x58, x59, x60, x61, x62, x63, x64, x65, x66, x67, x68, x69, x70, x71, x72, x73, x74, x75, x76, x77, x78, x79, x80, x81, x82, x83, x84, x85, x86, x87, x88, x89, x90, x91, x92, x93, x94, x95, x96, x97, x98, x99, x100, x101, x102, x103, x104, x105, x106, x107, x108, x109, x110, x111, x112, x113, x114, x115, x116] h = f9_b3 O L k x0 x1 x2 x3 x4 x5 x6 x7 x8 x9 x10 x11 x12 x13 x14 x15 x16 x17 x18 x19 x20 x21 x22 x23 x24 x25 x26 x27 x28 x29 x30 x31 x32 x33 x34 x35 x36 x37 x38 x39 x40 x41 x42 x43 x44 x45 x46 x47 x48 x49 x50 x51 x52 x53 x54 x55 x56 x57 x58 x59 x60 x61 x62 x63 x64 x65 x66 x67 x68 x69 x70 x71 x72 x73 x74 x75 x76 x77 x78 x79 x80 x81 x82 x83 x84 x85 x86 x87 x88 x89 x90 x91 x92 x93 x94 x95 x96 x97 x98 x99 x100 x101 x102 x103 x104 x105 x106 x107 x108 x109 x110 x111 x112 x113 x114 x115 x116 h := by kernel_rfl
noncomputable def f9_c2 : Code := sub [1, 1, 1, 1, 1, 1, 0, 1, 0, 0, 1, 0, 0, 1, 0, 0] (fbody Try.prog 9)
noncomputable def f9_k2 (O : Oracle) (L : Loops (Value × Heap)) (k : Ex → K (Value × Heap)) : Ex → K (Value × Heap) := (blockK 4 (blockK 3 (seqK Try.prog O L (sub [1, 1, 1, 1, 1, 1, 0, 1, 0, 0, 1, 1] (fbody Try.prog 9)) k)))
noncomputable def f9_e2_4 (O : Oracle) (L : Loops (Value × Heap)) (k : Ex → K (Value × Heap)) (x0 x1 x2 x3 x4 x5 x6 x7 x8 x9 x10 x11 x12 x13 x14 x15 x16 x17 x18 x19 x20 x21 x22 x23 x24 x25 x26 x27 x28 x29 x30 x31 x32 x33 x34 x35 x36 x37 x38 x39 x40 x41 x42 x43 x44 x45 x46 x47 x48 x49 x50 x51 x52 x53 x54 x55 x56 x57 x58 x59 x60 x61 x62 x63 x64 x65 x66 x67 x68 x69 x70 x71 x72 x73 x74 x75 x76 x77 x78 x79 x80 x81 x82 x83 x84 x85 x86 x87 x88 x89 x90 x91 x92 x93 x94 x95 x96 x97 x98 x99 x100 x101 x102 x103 x104 x105 x106 x107 x108 x109 x110 x111 x112 x113 x114 x115 x116 : Value) (h : Heap) : Option (Value × Heap) :=
  ob ((M.ofOpt (bin Try.prog .add 3 x10 (.int .i64 1))) h) fun v59 h59 =>
  k .normal [x0, x1, x2, x3, x4, x5, x6, x7, x8, x9, v59, x11, x12, x13, x14, x15, x16, x17, x18, x19, x20, x21, x22, x23, x24, x25, x26, x27, x28, x29, x30, x31, x32, x33, x34, x35, x36, x37, x38, x39, x40, x41, x10, v59, x44, x45, x46, x47, x48, x49, x50, x51, x52, x53, x54, x55, x56, x57, x58, x59, x60, x61, x62, x63, x64, x65, x66, x67, x68, x69, x70, x71, x72, x73, x74, x75, x76, x77, x78, x79, x80, x81, x82, x83, x84, x85, x86, x87, x88, x89, x90, x91, x92, x93, x94, x95, x96, x97, x98, x99, x100, x101, x102, x103, x104, x105, x106, x107, x108, x109, x110, x111, x112, x113, x114, x115, x116] h59
theorem f9_e2_4_eq (O : Oracle) (L : Loops (Value × Heap)) (k : Ex → K (Value × Heap)) (x0 x1 x2 x3 x4 x5 x6 x7 x8 x9 x10 x11 x12 x13 x14 x15 x16 x17 x18 x19 x20 x21 x22 x23 x24 x25 x26 x27 x28 x29 x30 x31 x32 x33 x34 x35 x36 x37 x38 x39 x40 x41 x42 x43 x44 x45 x46 x47 x48 x49 x50 x51 x52 x53 x54 x55 x56 x57 x58 x59 x60 x61 x62 x63 x64 x65 x66 x67 x68 x69 x70 x71 x72 x73 x74 x75 x76 x77 x78 x79 x80 x81 x82 x83 x84 x85 x86 x87 x88 x89 x90 x91 x92 x93 x94 x95 x96 x97 x98 x99 x100 x101 x102 x103 x104 x105 x106 x107 x108 x109 x110 x111 x112 x113 x114 x115 x116 : Value) (h : Heap) :
    f9_k2 O L k (.exit 4) [x0, x1, x2, x3, x4, x5, x6, x7, x8, x9, x10, x11, x12, x13, x14, x15, x16, x17, x18, x19, x20, x21, x22, x23, x24, x25, x26, x27, x28, x29, x30, x31, x32, x33, x34, x35, x36, x37, x38, x39, x40, x41, x42, x43, x44, x45, x46, x47, x48, x49, x50, x51, x52, x53, x54, x55, x56, x57, x58, x59, x60, x61, x62, x63, x64, x65, x66, x67, x68, x69, x70, x71, x72, x73, x74, x75, x76, x77, x78, x79, x80, x81, x82, x83, x84, x85, x86, x87, x88, x89, x90, x91, x92, x93, x94, x95, x96, x97, x98, x99, x100, x101, x102, x103, x104, x105, x106, x107, x108, x109, x110, x111, x112, x113, x114, x115, x116] h = f9_e2_4 O L k x0 x1 x2 x3 x4 x5 x6 x7 x8 x9 x10 x11 x12 x13 x14 x15 x16 x17 x18 x19 x20 x21 x22 x23 x24 x25 x26 x27 x28 x29 x30 x31 x32 x33 x34 x35 x36 x37 x38 x39 x40 x41 x42 x43 x44 x45 x46 x47 x48 x49 x50 x51 x52 x53 x54 x55 x56 x57 x58 x59 x60 x61 x62 x63 x64 x65 x66 x67 x68 x69 x70 x71 x72 x73 x74 x75 x76 x77 x78 x79 x80 x81 x82 x83 x84 x85 x86 x87 x88 x89 x90 x91 x92 x93 x94 x95 x96 x97 x98 x99 x100 x101 x102 x103 x104 x105 x106 x107 x108 x109 x110 x111 x112 x113 x114 x115 x116 h := by kernel_rfl
noncomputable def f9_b2 (O : Oracle) (L : Loops (Value × Heap)) (k : Ex → K (Value × Heap)) (x0 x1 x2 x3 x4 x5 x6 x7 x8 x9 x10 x11 x12 x13 x14 x15 x16 x17 x18 x19 x20 x21 x22 x23 x24 x25 x26 x27 x28 x29 x30 x31 x32 x33 x34 x35 x36 x37 x38 x39 x40 x41 x42 x43 x44 x45 x46 x47 x48 x49 x50 x51 x52 x53 x54 x55 x56 x57 x58 x59 x60 x61 x62 x63 x64 x65 x66 x67 x68 x69 x70 x71 x72 x73 x74 x75 x76 x77 x78 x79 x80 x81 x82 x83 x84 x85 x86 x87 x88 x89 x90 x91 x92 x93 x94 x95 x96 x97 x98 x99 x100 x101 x102 x103 x104 x105 x106 x107 x108 x109 x110 x111 x112 x113 x114 x115 x116 : Value) (h : Heap) : Option (Value × Heap) :=
  ob ((M.ofOpt (bin Try.prog .lss 3 x11 x8)) h) fun v30 h30 =>
  iteV v30 (
  ob ((M.ofOpt (bin Try.prog .gtr 3 x11 x10)) h30) fun v31 h31 =>
  iteV v31 (
  ob ((M.ofOpt (fAddr 10 x7)) h31) fun v32 h32 =>
  ob ((ld1 v32) h32) fun v33 h33 =>
  ob ((M.ofOpt (iAddr 1 v33 x10)) h33) fun v34 h34 =>
  ob ((ld1 v34) h34) fun v35 h35 =>
  ob ((M.ofOpt (bin Try.prog .add 3 x10 (.int .i64 1))) h35) fun v36 h36 =>
  ob ((M.ofOpt (iAddr 1 v35 x11)) h36) fun v37 h37 =>
  ob ((stN 1 v37 v36) h37) fun v38 h38 =>
  ob ((M.ofOpt (bin Try.prog .lss 3 x11 x10)) h38) fun v39 h39 =>
  iteV v39 (
  ob ((M.ofOpt (fAddr 10 x7)) h39) fun v40 h40 =>
  ob ((ld1 v40) h40) fun v41 h41 =>
  ob ((M.ofOpt (iAddr 1 v41 x10)) h41) fun v42 h42 =>
  ob ((ld1 v42) h42) fun v43 h43 =>
  ob ((M.ofOpt (bin Try.prog .sub 3 x10 (.int .i64 1))) h43) fun v44 h44 =>
  ob ((M.ofOpt (iAddr 1 v43 x11)) h44) fun v45 h45 =>
  ob ((stN 1 v45 v44) h45) fun v46 h46 =>
  ob ((M.ofOpt (bin Try.prog .add 3 x11 (.int .i64 1))) h46) fun v47 h47 =>
  k .normal [x0, x1, x2, x3, x4, x5, x6, x7, x8, x9, x10, v47, x12, x13, x14, x15, x16, x17, x18, x19, x20, x21, x22, x23, x24, x25, x26, x27, x28, x29, x30, x31, x32, x33, x34, x35, x36, x37, x38, x39, x40, x41, x42, x43, x11, x8, v30, x11, v47, x11, x10, v31, v32, v33, x10, v34, v35, x11, x10, v36, v37, x11, x10, v39, v40, v41, x10, v42, v43, x11, x10, v44, v45, x73, x74, x75, x76, x77, x78, x79, x80, x81, x82, x83, x84, x85, x86, x87, x88, x89, x90, x91, x92, x93, x94, x95, x96, x97, x98, x99, x100, x101, x102, x103, x104, x105, x106, x107, x108, x109, x110, x111, x112, x113, x114, x115, x116] h47) (
  ob ((M.ofOpt (bin Try.prog .add 3 x11 (.int .i64 1))) h39) fun v48 h48 =>
  k .normal [x0, x1, x2, x3, x4, x5, x6, x7, x8, x9, x10, v48, x12, x13, x14, x15, x16, x17, x18, x19, x20, x21, x22, x23, x24, x25, x26, x27, x28, x29, x30, x31, x32, x33, x34, x35, x36, x37, x38, x39, x40, x41, x42, x43, x11, x8, v30, x11, v48, x11, x10, v31, v32, v33, x10, v34, v35, x11, x10, v36, v37, x11, x10, v39, x64, x65, x66, x67, x68, x69, x70, x71, x72, x73, x74, x75, x76, x77, x78, x79, x80, x81, x82, x83, x84, x85, x86, x87, x88, x89, x90, x91, x92, x93, x94, x95, x96, x97, x98, x99, x100, x101, x102, x103, x104, x105, x106, x107, x108, x109, x110, x111, x112, x113, x114, x115, x116] h48)) (
  ob ((M.ofOpt (bin Try.prog .lss 3 x11 x10)) h31) fun v49 h49 =>
  iteV v49 (
  ob ((M.ofOpt (fAddr 10 x7)) h49) fun v50 h50 =>
  ob ((ld1 v50) h50) fun v51 h51 =>
  ob ((M.ofOpt (iAddr 1 v51 x10)) h51) fun v52 h52 =>
  ob ((ld1 v52) h52) fun v53 h53 =>
  ob ((M.ofOpt (bin Try.prog .sub 3 x10 (.int .i64 1))) h53) fun v54 h54 =>
  ob ((M.ofOpt (iAddr 1 v53 x11)) h54) fun v55 h55 =>
  ob ((stN 1 v55 v54) h55) fun v56 h56 =>
  ob ((M.ofOpt (bin Try.prog .add 3 x11 (.int .i64 1))) h56) fun v57 h57 =>
  k .normal [x0, x1, x2, x3, x4, x5, x6, x7, x8, x9, x10, v57, x12, x13, x14, x15, x16, x17, x18, x19, x20, x21, x22, x23, x24, x25, x26, x27, x28, x29, x30, x31, x32, x33, x34, x35, x36, x37, x38, x39, x40, x41, x42, x43, x11, x8, v30, x11, v57, x11, x10, v31, x52, x53, x54, x55, x56, x57, x58, x59, x60, x11, x10, v49, v50, v51, x10, v52, v53, x11, x10, v54, v55, x73, x74, x75, x76, x77, x78, x79, x80, x81, x82, x83, x84, x85, x86, x87, x88, x89, x90, x91, x92, x93, x94, x95, x96, x97, x98, x99, x100, x101, x102, x103, x104, x105, x106, x107, x108, x109, x110, x111, x112, x113, x114, x115, x116] h57) (
  ob ((M.ofOpt (bin Try.prog .add 3 x11 (.int .i64 1))) h49) fun v58 h58 =>
  k .normal [x0, x1, x2, x3, x4, x5, x6, x7, x8, x9, x10, v58, x12, x13, x14, x15, x16, x17, x18, x19, x20, x21, x22, x23, x24, x25, x26, x27, x28, x29, x30, x31, x32, x33, x34, x35, x36, x37, x38, x39, x40, x41, x42, x43, x11, x8, v30, x11, v58, x11, x10, v31, x52, x53, x54, x55, x56, x57, x58, x59, x60, x11, x10, v49, x64, x65, x66, x67, x68, x69, x70, x71, x72, x73, x74, x75, x76, x77, x78, x79, x80, x81, x82, x83, x84, x85, x86, x87, x88, x89, x90, x91, x92, x93, x94, x95, x96, x97, x98, x99, x100, x101, x102, x103, x104, x105, x106, x107, x108, x109, x110, x111, x112, x113, x114, x115, x116] h58))) (
  k (.exit 4) [x0, x1, x2, x3, x4, x5, x6, x7, x8, x9, x10, x11, x12, x13, x14, x15, x16, x17, x18, x19, x20, x21, x22, x23, x24, x25, x26, x27, x28, x29, x30, x31, x32, x33, x34, x35, x36, x37, x38, x39, x40, x41, x42, x43, x11, x8, v30, x47, x48, x49, x50, x51, x52, x53, x54, x55, x56, x57, x58, x59, x60, x61, x62, x63, x64, x65, x66, x67, x68, x69, x70, x71, x72, x73, x74, x75, x76, x77, x78, x79, x80, x81, x82, x83, x84, x85, x86, x87, x88, x89, x90, x91, x92, x93, x94, x95, x96, x97, x98, x99, x100, x101, x102, x103, x104, x105, x106, x107, x108, x109, x110, x111, x112, x113, x114, x115, x116] h30)
theorem f9_b2_eq (O : Oracle) (L : Loops (Value × Heap)) (k : Ex → K (Value × Heap)) (x0 x1 x2 x3 x4 x5 x6 x7 x8 x9 x10 x11 x12 x13 x14 x15 x16 x17 x18 x19 x20 x21 x22 x23 x24 x25 x26 x27 x28 x29 x30 x31 x32 x33 x34 x35 x36 x37 x38 x39 x40 x41 x42 x43 x44 x45 x46 x47 x48 x49 x50 x51 x52 x53 x54 x55 x56 x57 x58 x59 x60 x61 x62 x63 x64 x65 x66 x67 x68 x69 x70 x71 x72 x73 x74 x75 x76 x77 x78 x79 x80 x81 x82 x83 x84 x85 x86 x87 x88 x89 x90 x91 x92 x93 x94 x95 x96 x97 x98 x99 x100 x101 x102 x103 x104 x105 x106 x107 x108 x109 x110 x111 x112 x113 x114 x115 x116 : Value) (h : Heap) :
    runCode Try.prog O L f9_c2 k [x0, x1, x2, x3, x4, x5, x6, x7, x8, x9, x10, x11, x12, x13, x14, x15, x16, x17, x18, x19, x20, x21, x22, x23, x24, x25, x26, x27, x28, x29, x30, x31, x32, x33, x34, x35, x36, x37, x38, x39, x40, x41, x42, x43, x44, x45, x46, x47, x48, x49, x50, x51, x52, x53, x54, x55, x56, x57, x58, x59, x60, x61, x62, x63, x64, x65, x66, x67, x68, x69, x70, x71, x72, x73, x74, x75, x76, x77, x78, x79, x80, x81, x82, x83, x84, x85, x86, x87, x88, x89, x90, x91, x92, x93, x94, x95, x96, x97, x98, x99, x100, x101, x102, x103, x104, x105, x106, x107, x108, x109, x110, x111, x112, x113, x114, x115, x116] h = f9_b2 O L k x0 x1 x2 x3 x4 x5 x6 x7 x8 x9 x10 x11 x12 x13 x14 x15 x16 x17 x18 x19 x20 x21 x22 x23 x24 x25 x26 x27 x28 x29 x30 x31 x32 x33 x34 x35 x36 x37 x38 x39 x40 x41 x42 x43 x44 x45 x46 x47 x48 x49 x50 x51 x52 x53 x54 x55 x56 x57 x58 x59 x60 x61 x62 x63 x64 x65 x66 x67 x68 x69 x70 x71 x72 x73 x74 x75 x76 x77 x78 x79 x80 x81 x82 x83 x84 x85 x86 x87 x88 x89 x90 x91 x92 x93 x94 x95 x96 x97 x98 x99 x100 x101 x102 x103 x104 x105 x106 x107 x108 x109 x110 x111 x112 x113 x114 x115 x116 h := by kernel_rfl
noncomputable def f9_c1 : Code := sub [1, 1, 1, 1, 1, 1, 0, 1, 0, 0] (fbody Try.prog 9)
noncomputable def f9_k1 (O : Oracle) (L : Loops (Value × Heap)) : Ex → K (Value × Heap) := (blockK 2 (seqK Try.prog O L (sub [1, 1, 1, 1, 1, 1, 1] (fbody Try.prog 9)) (kRet Try.prog Try.f9)))
noncomputable def f9_e1_2 (O : Oracle) (L : Loops (Value × Heap)) (x0 x1 x2 x3 x4 x5 x6 x7 x8 x9 x10 x11 x12 x13 x14 x15 x16 x17 x18 x19 x20 x21 x22 x23 x24 x25 x26 x27 x28 x29 x30 x31 x32 x33 x34 x35 x36 x37 x38 x39 x40 x41 x42 x43 x44 x45 x46 x47 x48 x49 x50 x51 x52 x53 x54 x55 x56 x57 x58 x59 x60 x61 x62 x63 x64 x65 x66 x67 x68 x69 x70 x71 x72 x73 x74 x75 x76 x77 x78 x79 x80 x81 x82 x83 x84 x85 x86 x87 x88 x89 x90 x91 x92 x93 x94 x95 x96 x97 x98 x99 x100 x101 x102 x103 x104 x105 x106 x107 x108 x109 x110 x111 x112 x113 x114 x115 x116 : Value) (h : Heap) : Option (Value × Heap) :=
  ob ((ldN 11 x7) h) fun v20 h20 =>
  ob ((O (.func 24) [v20]) h20) fun v21 h21 =>
  ob ((M.ofOpt (fAddr 1 x7)) h21) fun v22 h22 =>
  ob ((ld1 v22) h22) fun v23 h23 =>
  ob ((M.ofOpt (bin Try.prog .sub 3 x8 (.int .i64 1))) h23) fun v24 h24 =>
  ob ((M.ofOpt (bld Try.prog 33 [(0, (.int .i64 0)), (1, v24)])) h24) fun v25 h25 =>
  ob ((bldSlice 33 2 1 [(.int .i64 0), (.int .i64 0)] [(0, v25)]) h25) fun v26 h26 =>
  ob ((app 33 2 16 v23 v26) h26) fun v27 h27 =>
  ob ((M.ofOpt (fAddr 1 x7)) h27) fun v28 h28 =>
  ob ((stN 1 v28 v27) h28) fun v29 h29 =>
  L (runCode Try.prog O L f9_c3) (f9_k3 O L) [x0, x1, x2, x3, x4, x5, x6, x7, x8, x9, x10, x11, v21, (.int .i64 0), x14, x15, x16, x17, x18, x19, x20, x21, x22, x23, x24, x25, x26, x27, x28, x29, x30, x31, x32, x33, x34, x35, x36, x37, x38, x39, x40, x41, x42, x43, x44, x45, x46, x47, x48, x49, x50, x51, x52, x53, x54, x55, x56, x57, x58, x59, x60, x61, x62, x63, x64, x65, x66, x67, x68, x69, x70, x71, x72, v20, v21, v22, v23, x8, v24, v25, v26, v27, v28, x83, x84, x85, x86, x87, x88, x89, x90, x91, x92, x93, x94, x95, x96, x97, x98, x99, x100, x101, x102, x103, x104, x105, x106, x107, x108, x109, x110, x111, x112, x113, x114, x115, x116] h29
theorem f9_e1_2_eq (O : Oracle) (L : Loops (Value × Heap)) (x0 x1 x2 x3 x4 x5 x6 x7 x8 x9 x10 x11 x12 x13 x14 x15 x16 x17 x18 x19 x20 x21 x22 x23 x24 x25 x26 x27 x28 x29 x30 x31 x32 x33 x34 x35 x36 x37 x38 x39 x40 x41 x42 x43 x44 x45 x46 x47 x48 x49 x50 x51 x52 x53 x54 x55 x56 x57 x58 x59 x60 x61 x62 x63 x64 x65 x66 x67 x68 x69 x70 x71 x72 x73 x74 x75 x76 x77 x78 x79 x80 x81 x82 x83 x84 x85 x86 x87 x88 x89 x90 x91 x92 x93 x94 x95 x96 x97 x98 x99 x100 x101 x102 x103 x104 x105 x106 x107 x108 x109 x110 x111 x112 x113 x114 x115 x116 : Value) (h : Heap) :
    f9_k1 O L (.exit 2) [x0, x1, x2, x3, x4, x5, x6, x7, x8, x9, x10, x11, x12, x13, x14, x15, x16, x17, x18, x19, x20, x21, x22, x23, x24, x25, x26, x27, x28, x29, x30, x31, x32, x33, x34, x35, x36, x37, x38, x39, x40, x41, x42, x43, x44, x45, x46, x47, x48, x49, x50, x51, x52, x53, x54, x55, x56, x57, x58, x59, x60, x61, x62, x63, x64, x65, x66, x67, x68, x69, x70, x71, x72, x73, x74, x75, x76, x77, x78, x79, x80, x81, x82, x83, x84, x85, x86, x87, x88, x89, x90, x91, x92, x93, x94, x95, x96, x97, x98, x99, x100, x101, x102, x103, x104, x105, x106, x107, x108, x109, x110, x111, x112, x113, x114, x115, x116] h = f9_e1_2 O L x0 x1 x2 x3 x4 x5 x6 x7 x8 x9 x10 x11 x12 x13 x14 x15 x16 x17 x18 x19 x20 x21 x22 x23 x24 x25 x26 x27 x28 x29 x30 x31 x32 x33 x34 x35 x36 x37 x38 x39 x40 x41 x42 x43 x44 x45 x46 x47 x48 x49 x50 x51 x52 x53 x54 x55 x56 x57 x58 x59 x60 x61 x62 x63 x64 x65 x66 x67 x68 x69 x70 x71 x72 x73 x74 x75 x76 x77 x78 x79 x80 x81 x82 x83 x84 x85 x86 x87 x88 x89 x90 x91 x92 x93 x94 x95 x96 x97 x98 x99 x100 x101 x102 x103 x104 x105 x106 x107 x108 x109 x110 x111 x112 x113 x114 x115 x116 h := by kernel_rfl
noncomputable def f9_b1 (O : Oracle) (L : Loops (Value × Heap)) (k : Ex → K (Value × Heap)) (x0 x1 x2 x3 x4 x5 x6 x7 x8 x9 x10 x11 x12 x13 x14 x15 x16 x17 x18 x19 x20 x21 x22 x23 x24 x25 x26 x27 x28 x29 x30 x31 x32 x33 x34 x35 x36 x37 x38 x39 x40 x41 x42 x43 x44 x45 x46 x47 x48 x49 x50 x51 x52 x53 x54 x55 x56 x57 x58 x59 x60 x61 x62 x63 x64 x65 x66 x67 x68 x69 x70 x71 x72 x73 x74 x75 x76 x77 x78 x79 x80 x81 x82 x83 x84 x85 x86 x87 x88 x89 x90 x91 x92 x93 x94 x95 x96 x97 x98 x99 x100 x101 x102 x103 x104 x105 x106 x107 x108 x109 x110 x111 x112 x113 x114 x115 x116 : Value) (h : Heap) : Option (Value × Heap) :=
  ob ((M.ofOpt (bin Try.prog .lss 3 x10 x8)) h) fun v19 h19 =>
  iteV v19 (
  L (runCode Try.prog O L f9_c2) (f9_k2 O L k) [x0, x1, x2, x3, x4, x5, x6, x7, x8, x9, x10, (.int .i64 0), x12, x13, x14, x15, x16, x17, x18, x19, x20, x21, x22, x23, x24, x25, x26, x27, x28, x29, x30, x31, x32, x33, x34, x35, x36, x37, x38, x10, x8, v19, x42, x43, x44, x45, x46, x47, x48, x49, x50, x51, x52, x53, x54, x55, x56, x57, x58, x59, x60, x61, x62, x63, x64, x65, x66, x67, x68, x69, x70, x71, x72, x73, x74, x75, x76, x77, x78, x79, x80, x81, x82, x83, x84, x85, x86, x87, x88, x89, x90, x91, x92, x93, x94, x95, x96, x97, x98, x99, x100, x101, x102, x103, x104, x105, x106, x107, x108, x109, x110, x111, x112, x113, x114, x115, x116] h19) (
  k (.exit 2) [x0, x1, x2, x3, x4, x5, x6, x7, x8, x9, x10, x11, x12, x13, x14, x15, x16, x17, x18, x19, x20, x21, x22, x23, x24, x25, x26, x27, x28, x29, x30, x31, x32, x33, x34, x35, x36, x37, x38, x10, x8, v19, x42, x43, x44, x45, x46, x47, x48, x49, x50, x51, x52, x53, x54, x55, x56, x57, x58, x59, x60, x61, x62, x63, x64, x65, x66, x67, x68, x69, x70, x71, x72, x73, x74, x75, x76, x77, x78, x79, x80, x81, x82, x83, x84, x85, x86, x87, x88, x89, x90, x91, x92, x93, x94, x95, x96, x97, x98, x99, x100, x101, x102, x103, x104, x105, x106, x107, x108, x109, x110, x111, x112, x113, x114, x115, x116] h19)
theorem f9_b1_eq (O : Oracle) (L : Loops (Value × Heap)) (k : Ex → K (Value × Heap)) (x0 x1 x2 x3 x4 x5 x6 x7 x8 x9 x10 x11 x12 x13 x14 x15 x16 x17 x18 x19 x20 x21 x22 x23 x24 x25 x26 x27 x28 x29 x30 x31 x32 x33 x34 x35 x36 x37 x38 x39 x40 x41 x42 x43 x44 x45 x46 x47 x48 x49 x50 x51 x52 x53 x54 x55 x56 x57 x58 x59 x60 x61 x62 x63 x64 x65 x66 x67 x68 x69 x70 x71 x72 x73 x74 x75 x76 x77 x78 x79 x80 x81 x82 x83 x84 x85 x86 x87 x88 x89 x90 x91 x92 x93 x94 x95 x96 x97 x98 x99 x100 x101 x102 x103 x104 x105 x106 x107 x108 x109 x110 x111 x112 x113 x114 x115 x116 : Value) (h : Heap) :
    runCode Try.prog O L f9_c1 k [x0, x1, x2, x3, x4, x5, x6, x7, x8, x9, x10, x11, x12, x13, x14, x15, x16, x17, x18, x19, x20, x21, x22, x23, x24, x25, x26, x27, x28, x29, x30, x31, x32, x33, x34, x35, x36, x37, x38, x39, x40, x41, x42, x43, x44, x45, x46, x47, x48, x49, x50, x51, x52, x53, x54, x55, x56, x57, x58, x59, x60, x61, x62, x63, x64, x65, x66, x67, x68, x69, x70, x71, x72, x73, x74, x75, x76, x77, x78, x79, x80, x81, x82, x83, x84, x85, x86, x87, x88, x89, x90, x91, x92, x93, x94, x95, x96, x97, x98, x99, x100, x101, x102, x103, x104, x105, x106, x107, x108, x109, x110, x111, x112, x113, x114, x115, x116] h = f9_b1 O L k x0 x1 x2 x3 x4 x5 x6 x7 x8 x9 x10 x11 x12 x13 x14 x15 x16 x17 x18 x19 x20 x21 x22 x23 x24 x25 x26 x27 x28 x29 x30 x31 x32 x33 x34 x35 x36 x37 x38 x39 x40 x41 x42 x43 x44 x45 x46 x47 x48 x49 x50 x51 x52 x53 x54 x55 x56 x57 x58 x59 x60 x61 x62 x63 x64 x65 x66 x67 x68 x69 x70 x71 x72 x73 x74 x75 x76 x77 x78 x79 x80 x81 x82 x83 x84 x85 x86 x87 x88 x89 x90 x91 x92 x93 x94 x95 x96 x97 x98 x99 x100 x101 x102 x103 x104 x105 x106 x107 x108 x109 x110 x111 x112 x113 x114 x115 x116 h := by kernel_rfl
noncomputable def f9_c0 : Code := sub [1, 1, 1, 1, 1, 0, 1, 0, 0] (fbody Try.prog 9)
noncomputable def f9_k0 (O : Oracle) (L : Loops (Value × Heap)) : Ex → K (Value × Heap) := (blockK 0 (seqK Try.prog O L (sub [1, 1, 1, 1, 1, 1] (fbody Try.prog 9)) (kRet Try.prog Try.f9)))
noncomputable def f9_e0_0 (O : Oracle) (L : Loops (Value × Heap)) (x0 x1 x2 x3 x4 x5 x6 x7 x8 x9 x10 x11 x12 x13 x14 x15 x16 x17 x18 x19 x20 x21 x22 x23 x24 x25 x26 x27 x28 x29 x30 x31 x32 x33 x34 x35 x36 x37 x38 x39 x40 x41 x42 x43 x44 x45 x46 x47 x48 x49 x50 x51 x52 x53 x54 x55 x56 x57 x58 x59 x60 x61 x62 x63 x64 x65 x66 x67 x68 x69 x70 x71 x72 x73 x74 x75 x76 x77 x78 x79 x80 x81 x82 x83 x84 x85 x86 x87 x88 x89 x90 x91 x92 x93 x94 x95 x96 x97 x98 x99 x100 x101 x102 x103 x104 x105 x106 x107 x108 x109 x110 x111 x112 x113 x114 x115 x116 : Value) (h : Heap) : Option (Value × Heap) :=
  L (runCode Try.prog O L f9_c1) (f9_k1 O L) [x0, x1, x2, x3, x4, x5, x6, x7, x8, x9, (.int .i64 0), x11, x12, x13, x14, x15, x16, x17, x18, x19, x20, x21, x22, x23, x24, x25, x26, x27, x28, x29, x30, x31, x32, x33, x34, x35, x36, x37, x38, x39, x40, x41, x42, x43, x44, x45, x46, x47, x48, x49, x50, x51, x52, x53, x54, x55, x56, x57, x58, x59, x60, x61, x62, x63, x64, x65, x66, x67, x68, x69, x70, x71, x72, x73, x74, x75, x76, x77, x78, x79, x80, x81, x82, x83, x84, x85, x86, x87, x88, x89, x90, x91, x92, x93, x94, x95, x96, x97, x98, x99, x100, x101, x102, x103, x104, x105, x106, x107, x108, x109, x110, x111, x112, x113, x114, x115, x116] h
theorem f9_e0_0_eq (O : Oracle) (L : Loops (Value × Heap)) (x0 x1 x2 x3 x4 x5 x6 x7 x8 x9 x10 x11 x12 x13 x14 x15 x16 x17 x18 x19 x20 x21 x22 x23 x24 x25 x26 x27 x28 x29 x30 x31 x32 x33 x34 x35 x36 x37 x38 x39 x40 x41 x42 x43 x44 x45 x46 x47 x48 x49 x50 x51 x52 x53 x54 x55 x56 x57 x58 x59 x60 x61 x62 x63 x64 x65 x66 x67 x68 x69 x70 x71 x72 x73 x74 x75 x76 x77 x78 x79 x80 x81 x82 x83 x84 x85 x86 x87 x88 x89 x90 x91 x92 x93 x94 x95 x96 x97 x98 x99 x100 x101 x102 x103 x104 x105 x106 x107 x108 x109 x110 x111 x112 x113 x114 x115 x116 : Value) (h : Heap) :
    f9_k0 O L (.exit 0) [x0, x1, x2, x3, x4, x5, x6, x7, x8, x9, x10, x11, x12, x13, x14, x15, x16, x17, x18, x19, x20, x21, x22, x23, x24, x25, x26, x27, x28, x29, x30, x31, x32, x33, x34, x35, x36, x37, x38, x39, x40, x41, x42, x43, x44, x45, x46, x47, x48, x49, x50, x51, x52, x53, x54, x55, x56, x57, x58, x59, x60, x61, x62, x63, x64, x65, x66, x67, x68, x69, x70, x71, x72, x73, x74, x75, x76, x77, x78, x79, x80, x81, x82, x83, x84, x85, x86, x87, x88, x89, x90, x91, x92, x93, x94, x95, x96, x97, x98, x99, x100, x101, x102, x103, x104, x105, x106, x107, x108, x109, x110, x111, x112, x113, x114, x115, x116] h = f9_e0_0 O L x0 x1 x2 x3 x4 x5 x6 x7 x8 x9 x10 x11 x12 x13 x14 x15 x16 x17 x18 x19 x20 x21 x22 x23 x24 x25 x26 x27 x28 x29 x30 x31 x32 x33 x34 x35 x36 x37 x38 x39 x40 x41 x42 x43 x44 x45 x46 x47 x48 x49 x50 x51 x52 x53 x54 x55 x56 x57 x58 x59 x60 x61 x62 x63 x64 x65 x66 x67 x68 x69 x70 x71 x72 x73 x74 x75 x76 x77 x78 x79 x80 x81 x82 x83 x84 x85 x86 x87 x88 x89 x90 x91 x92 x93 x94 x95 x96 x97 x98 x99 x100 x101 x102 x103 x104 x105 x106 x107 x108 x109 x110 x111 x112 x113 x114 x115 x116 h := by kernel_rfl
noncomputable def f9_b0 (O : Oracle) (L : Loops (Value × Heap)) (k : Ex → K (Value × Heap)) (x0 x1 x2 x3 x4 x5 x6 x7 x8 x9 x10 x11 x12 x13 x14 x15 x16 x17 x18 x19 x20 x21 x22 x23 x24 x25 x26 x27 x28 x29 x30 x31 x32 x33 x34 x35 x36 x37 x38 x39 x40 x41 x42 x43 x44 x45 x46 x47 x48 x49 x50 x51 x52 x53 x54 x55 x56 x57 x58 x59 x60 x61 x62 x63 x64 x65 x66 x67 x68 x69 x70 x71 x72 x73 x74 x75 x76 x77 x78 x79 x80 x81 x82 x83 x84 x85 x86 x87 x88 x89 x90 x91 x92 x93 x94 x95 x96 x97 x98 x99 x100 x101 x102 x103 x104 x105 x106 x107 x108 x109 x110 x111 x112 x113 x114 x115 x116 : Value) (h : Heap) : Option (Value × Heap) :=
  ob ((M.ofOpt (bin Try.prog .lss 3 x9 x8)) h) fun v9 h9 =>
  iteV v9 (
  ob ((M.ofOpt (fAddr 1 x7)) h9) fun v10 h10 =>
  ob ((ld1 v10) h10) fun v11 h11 =>
  ob ((M.ofOpt (bin Try.prog .sub 3 x9 (.int .i64 1))) h11) fun v12 h12 =>
  ob ((M.ofOpt (bld Try.prog 33 [(0, v12), (1, x9)])) h12) fun v13 h13 =>
  ob ((bldSlice 33 2 1 [(.int .i64 0), (.int .i64 0)] [(0, v13)]) h13) fun v14 h14 =>
  ob ((app 33 2 16 v11 v14) h14) fun v15 h15 =>
  ob ((M.ofOpt (fAddr 1 x7)) h15) fun v16 h16 =>
  ob ((stN 1 v16 v15) h16) fun v17 h17 =>
  ob ((M.ofOpt (bin Try.prog .add 3 x9 (.int .i64 1))) h17) fun v18 h18 =>
  k .normal [x0, x1, x2, x3, x4, x5, x6, x7, x8, v18, x10, x11, x12, x13, x14, x15, x16, x17, x18, x19, x20, x21, x22, x23, x24, x9, x8, v9, x9, v18, v10, v11, x9, v12, x9, v13, v14, v15, v16, x39, x40, x41, x42, x43, x44, x45, x46, x47, x48, x49, x50, x51, x52, x53, x54, x55, x56, x57, x58, x59, x60, x61, x62, x63, x64, x65, x66, x67, x68, x69, x70, x71, x72, x73, x74, x75, x76, x77, x78, x79, x80, x81, x82, x83, x84, x85, x86, x87, x88, x89, x90, x91, x92, x93, x94, x95, x96, x97, x98, x99, x100, x101, x102, x103, x104, x105, x106, x107, x108, x109, x110, x111, x112, x113, x114, x115, x116] h18) (
  k (.exit 0) [x0, x1, x2, x3, x4, x5, x6, x7, x8, x9, x10, x11, x12, x13, x14, x15, x16, x17, x18, x19, x20, x21, x22, x23, x24, x9, x8, v9, x28, x29, x30, x31, x32, x33, x34, x35, x36, x37, x38, x39, x40, x41, x42, x43, x44, x45, x46, x47, x48, x49, x50, x51, x52, x53, x54, x55, x56, x57, x58, x59, x60, x61, x62, x63, x64, x65, x66, x67, x68, x69, x70, x71, x72, x73, x74, x75, x76, x77, x78, x79, x80, x81, x82, x83, x84, x85, x86, x87, x88, x89, x90, x91, x92, x93, x94, x95, x96, x97, x98, x99, x100, x101, x102, x103, x104, x105, x106, x107, x108, x109, x110, x111, x112, x113, x114, x115, x116] h9)
theorem f9_b0_eq (O : Oracle) (L : Loops (Value × Heap)) (k : Ex → K (Value × Heap)) (x0 x1 x2 x3 x4 x5 x6 x7 x8 x9 x10 x11 x12 x13 x14 x15 x16 x17 x18 x19 x20 x21 x22 x23 x24 x25 x26 x27 x28 x29 x30 x31 x32 x33 x34 x35 x36 x37 x38 x39 x40 x41 x42 x43 x44 x45 x46 x47 x48 x49 x50 x51 x52 x53 x54 x55 x56 x57 x58 x59 x60 x61 x62 x63 x64 x65 x66 x67 x68 x69 x70 x71 x72 x73 x74 x75 x76 x77 x78 x79 x80 x81 x82 x83 x84 x85 x86 x87 x88 x89 x90 x91 x92 x93 x94 x95 x96 x97 x98 x99 x100 x101 x102 x103 x104 x105 x106 x107 x108 x109 x110 x111 x112 x113 x114 x115 x116 : Value) (h : Heap) :
    runCode Try.prog O L f9_c0 k [x0, x1, x2, x3, x4, x5, x6, x7, x8, x9, x10, x11, x12, x13, x14, x15, x16, x17, x18, x19, x20, x21, x22, x23, x24, x25, x26, x27, x28, x29, x30, x31, x32, x33, x34, x35, x36, x37, x38, x39, x40, x41, x42, x43, x44, x45, x46, x47, x48, x49, x50, x51, x52, x53, x54, x55, x56, x57, x58, x59, x60, x61, x62, x63, x64, x65, x66, x67, x68, x69, x70, x71, x72, x73, x74, x75, x76, x77, x78, x79, x80, x81, x82, x83, x84, x85, x86, x87, x88, x89, x90, x91, x92, x93, x94, x95, x96, x97, x98, x99, x100, x101, x102, x103, x104, x105, x106, x107, x108, x109, x110, x111, x112, x113, x114, x115, x116] h = f9_b0 O L k x0 x1 x2 x3 x4 x5 x6 x7 x8 x9 x10 x11 x12 x13 x14 x15 x16 x17 x18 x19 x20 x21 x22 x23 x24 x25 x26 x27 x28 x29 x30 x31 x32 x33 x34 x35 x36 x37 x38 x39 x40 x41 x42 x43 x44 x45 x46 x47 x48 x49 x50 x51 x52 x53 x54 x55 x56 x57 x58 x59 x60 x61 x62 x63 x64 x65 x66 x67 x68 x69 x70 x71 x72 x73 x74 x75 x76 x77 x78 x79 x80 x81 x82 x83 x84 x85 x86 x87 x88 x89 x90 x91 x92 x93 x94 x95 x96 x97 x98 x99 x100 x101 x102 x103 x104 x105 x106 x107 x108 x109 x110 x111 x112 x113 x114 x115 x116 h := by kernel_rfl
noncomputable def f9 (O : Oracle) (L : Loops (Value × Heap)) (a0 a1 a2 : Value) (h : Heap) : Option (Value × Heap) :=
  ob ((O (.func 15) [a0, a1, a2, (.int .u16 0), (.slice none 0 0)]) h) fun v0 h0 =>
  ob ((newB 27 [(.int .i64 0), (.slice none 0 0), (.int .i64 0), (.int .i64 0), (.int .i64 0), (.int .i64 0), (.int .i64 0), (.int .i64 0), (.slice none 0 0), (.int .u16 0), (.slice none 0 0)] .fix) h0) fun v1 h1 =>
  ob ((stN 11 v1 v0) h1) fun v2 h2 =>
  ob ((M.ofOpt (fAddr 0 v1)) h2) fun v3 h3 =>
  ob ((ld1 v3) h3) fun v4 h4 =>
  ob ((M.ofOpt (bin Try.prog .lss 3 v4 (.int .i64 3))) h4) fun v5 h5 =>
  iteV v5 (
  ob ((O (.func 23) []) h5) fun v6 h6 =>
  some (oneOf [v6], h6)) (
  ob ((M.ofOpt (fAddr 1 v1)) h5) fun v7 h7 =>
  ob ((stN 1 v7 (.slice none 0 0)) h7) fun v8 h8 =>
  L (runCode Try.prog O L f9_c0) (f9_k0 O L) [a0, a1, a2, undef, undef, undef, (.bool false), v1, v4, (.int .i64 1), undef, undef, undef, undef, undef, a0, a1, a2, v0, v3, v4, v4, v5, undef, v7, undef, undef, undef, undef, undef, undef, undef, undef, undef, undef, undef, undef, undef, undef, undef, undef, undef, undef, undef, undef, undef, undef, undef, undef, undef, undef, undef, undef, undef, undef, undef, undef, undef, undef, undef, undef, undef, undef, undef, undef, undef, undef, undef, undef, undef, undef, undef, undef, undef, undef, undef, undef, undef, undef, undef, undef, undef, undef, undef, undef, undef, undef, undef, undef, undef, undef, undef, undef, undef, undef, undef, undef, undef, undef, undef, undef, undef, undef, undef, undef, undef, undef, undef, undef, undef, undef, undef, undef, undef, undef, undef, undef] h8)
theorem f9_eq (O : Oracle) (L : Loops (Value × Heap)) (a0 a1 a2 : Value) (h : Heap) :
    body Try.prog O L 9 [a0, a1, a2] h = f9 O L a0 a1 a2 h := by kernel_rfl
end Go.Proofs.Ytdobnaldfmpimaa

set_option linter.unusedSectionVars false
set_option linter.unusedSimpArgs false
set_option linter.unusedVariables false
set_option maxRecDepth 100000
namespace Go.Proofs.Ytdobnaldfmpimaa
open Go.Abs
def nx (p : PlanD) (v w : Int) : Int := (p.next.getD v.toNat []).getD w.toNat 0
def pthW (p : PlanD) (w : Int) : Nat → List Int → Int → Option (List Int)
  | 0, _, _ => none
  | q + 1, l, v => if v = w then some l else if ((l.length : Int) = p.nodes ∨ (cand p.edges v).contains (nx p v w) = false) then none else pthW p w q (l ++ [nx p v w]) (nx p v w)
def pathL (p : PlanD) (v w : Int) : Option (List Int) := pthW p w p.nodes.toNat [v] v
def pathR (p : PlanD) (v w : Int) : List Int := if checkOk p = true ∧ 0 ≤ v ∧ v < p.nodes ∧ 0 ≤ w ∧ w < p.nodes then (pathL p v w).getD [] else []
structure OkP (p : PlanD) (n : Nat) : Prop where
  hn : p.nodes = (n : Int)
  h2 : 2 ≤ n
  h6 : n ≤ 6
  ve : VE n p.edges
  e15 : p.edges.length ≤ 15
  nl : p.next.length = n
  rl : ∀ r ∈ p.next, r.length = n
theorem ok_of {p : PlanD} (h : checkOk p = true) : ∃ n, OkP p n := by
  unfold checkOk numOk edgesOk rowsOk wi at h
  simp only [Bool.and_eq_true, decide_eq_true_eq, Bool.not_eq_true'] at h
  obtain ⟨⟨⟨h1, h2⟩, _⟩, ⟨h3, h4⟩, _, _, h5, h6⟩ := h
  have hn : p.nodes = ((p.nodes.toNat : Nat) : Int) := by omega
  refine ⟨p.nodes.toNat, hn, by omega, by omega, ?_, by omega, by omega, fun r hr => ?_⟩
  · rw [← hn]; exact (edOk_ve _ _).mp h3
  · rw [List.any_eq_false] at h6
    have := h6 r hr
    simp only [decide_eq_true_eq, ne_eq, Decidable.not_not] at this
    omega
theorem besC {E : List Ed} {v x : Int} : (bes E v).contains x = (cand E v).contains x := by
  rw [Bool.eq_iff_iff, List.contains_iff_mem, List.contains_iff_mem, bes_mem]
section
variable {H : Heap} {m : Nat} {p : PlanD} {ev wv nv : Value}
theorem idx_has (xs : List Int) (w : Int) : decide (0 ≤ idxI xs w) = xs.contains w := by
  unfold idxI
  rw [fst_any, any_range xs (fun x => x == w) _ (fun i x hx => by rw [hx]; rfl)]
  rw [Bool.eq_iff_iff, List.any_eq_true, List.contains_iff_mem]
  constructor
  · rintro ⟨x, h1, h2⟩
    have : x = w := by simpa using h2
    exact this ▸ h1
  · exact fun h => ⟨w, h, by simp⟩
theorem hasI_is {v : Value} {xs : List Int} (hx : Is H v xs) (w : Int) (hn : xs.length + 20 < m) (hm : m ≤ 72057594037927936) : lvl Try.prog pk12 m (.func 66) [v, .int .i64 w] H = some (.bool (xs.contains w), H) := by
  have g := ixI_is hx w (m := m - 1) (by omega) (by omega)
  refine lvl_at (pk_no rfl rfl) (by omega) ?_
  rw [f66_eq]
  unfold f66
  simp -implicitDefEqProofs only [r_opt, r_ret, ob_some, ifB_true, iteV_true, iteV_false, r_gdt, r_gdt2, r_gdtf, r_gdtf2, r_gdff, r_gdff2, r_gdft, r_gdft2, r_gdu, r_gdu2, pick_t, pick_f, ext_0, ext_1, x_newB, r_nil, r_fAddr, Nat.zero_add, b_lss, b_leq, b_gtr, b_geq, b_eql, b_neq, u_not, Bool.not_true, Bool.not_false, oneOf_one, oneOf_two, again_normal, again_exit, again_ret, Bool.and_true, g, idx_has]
theorem nx_at {n : Nat} (hk : OkP p n) (hp : PV H p ev wv nv) {v w : Int} (hv : 0 ≤ v ∧ v < n) (hw : 0 ≤ w ∧ w < n) : ∃ a u a2, iAddr 1 nv (.int .i64 v) = some a ∧ ld1 a H = some (u, H) ∧ iAddr 1 u (.int .i64 w) = some a2 ∧ ld1 a2 H = some (.int .i64 (nx p v w), H) := by
  have ev' : v = ((v.toNat : Nat) : Int) := by omega
  have ew' : w = ((w.toNat : Nat) : Int) := by omega
  have h1 := hk.nl
  obtain ⟨r, hr⟩ : ∃ r, p.next[v.toNat]? = some r := ⟨_, List.getElem?_eq_getElem (by omega)⟩
  have h2 := hk.rl r (List.mem_of_getElem? hr)
  obtain ⟨x, hx⟩ : ∃ x, r[w.toNat]? = some x := ⟨_, List.getElem?_eq_getElem (by omega)⟩
  obtain ⟨a, u, g1, g2, g3⟩ := hp.n.at_ hr .i64
  obtain ⟨b, o, g4, _, g6⟩ := g3.at_ inC_len hx .i64
  rw [← ev'] at g1
  rw [← ew'] at g4
  have e : nx p v w = x := by
    unfold nx
    simp only [List.getD_eq_getElem?_getD, hr, hx, Option.getD_some]
  rw [e]
  exact ⟨a, u, _, g1, g2, g4, (g6 H rfl).2.1 0 _ rfl⟩
def PathRes (H0 : Heap) (o : Option (List Int)) (H' : Heap) (u : Value) : Prop := Ext H0 H' ∧ ∃ lv, u = .tuple #[lv, .bool o.isSome] ∧ Iw H' lv (o.getD []) ∧ New H0 lv
theorem path_loop {n : Nat} (hk : OkP p n) {H0 : Heap} {a : Nat} {w : Int} (hw : 0 ≤ w ∧ w < n) (hp : PV H0 p ev wv nv) (hb : H0[a]? = some (plB p ev wv nv)) (hm : 200 < m) (hm2 : m ≤ 72057594037927936) :
    ∀ (q k : Nat) (H1 : Heap) (u : Value) (l : List Int) (v : Int), q + l.length = n + 1 → l.length ≤ n → q < k → 0 ≤ v ∧ v < n → Ext H0 H1 → Iw H1 u l → New H0 u → ∀ (x0 x4 x5 x6 x7 x9 x10 x11 x12 x13 x14 x15 x16 x17 x18 x19 x20 x21 x22 x23 x24 x25 x26 x27 x28 x29 x30 x31 x32 x33 x34 x35 x36 x37 x38 x39 x40 x41 : Value),
    ∃ H' r, loopN k (runCode Try.prog (lvl Try.prog pk12 m) (loopN m) f47_c0) (f47_k0 (lvl Try.prog pk12 m) (loopN m)) [x0, (.int .i64 v), (.int .i64 w), (.pointer (some ⟨a, 0, none⟩)), x4, x5, x6, x7, u, x9, x10, x11, x12, x13, x14, x15, x16, x17, x18, x19, x20, x21, x22, x23, x24, x25, x26, x27, x28, x29, x30, x31, x32, x33, x34, x35, x36, x37, x38, x39, x40, x41] H1 = some (r, H') ∧ PathRes H0 (pthW p w q l v) H' r := by
  intro q
  have h6 := hk.h6
  have h15 := hk.e15
  induction q with
  | zero => intro k H1 u l v h1 h2; omega
  | succ q ih =>
    intro k H1 u l v hql hln hk2 hv he hu hnew
    intros
    obtain ⟨k, rfl⟩ : ∃ n, k = n + 1 := ⟨k - 1, by omega⟩
    rw [loop_succ, f47_b0_eq]
    unfold f47_b0 pthW
    by_cases hvw : v = w
    · have d : (v != w) = false := by simp [hvw]
      rw [if_pos hvw]
      simp -implicitDefEqProofs only [r_opt, r_ret, ob_some, ifB_true, iteV_true, iteV_false, r_gdt, r_gdt2, r_gdtf, r_gdtf2, r_gdff, r_gdff2, r_gdft, r_gdft2, r_gdu, r_gdu2, pick_t, pick_f, ext_0, ext_1, x_newB, r_nil, r_fAddr, Nat.zero_add, b_lss, b_leq, b_gtr, b_geq, b_eql, b_neq, u_not, Bool.not_true, Bool.not_false, oneOf_one, oneOf_two, again_normal, again_exit, again_ret, Bool.and_true, d]
      rw [f47_e0_0_eq]
      unfold f47_e0_0
      exact ⟨H1, _, rfl, he, u, rfl, hu, hnew⟩
    · have d : (v != w) = true := by simp [hvw]
      rw [if_neg hvw]
      have b1 := ld_of hb he
      have p1 := hp.ext he
      have l10 := ld_pl b1 10 _ rfl
      have l0 := ld_pl b1 0 _ rfl
      rw [hk.hn] at l0
      obtain ⟨a1, u1, a2, g1, g2, g3, g4⟩ := nx_at hk p1 hv hw
      have hlen := hu.len
      obtain ⟨x, hx⟩ : ∃ x, x = nx p v w := ⟨_, rfl⟩
      rw [← hx] at g4 ⊢
      by_cases hl : l.length = n
      · have dl : ((l.length : Int) == (n : Int)) = true := by simp [hl]
        rw [if_pos (.inl (by rw [hk.hn]; omega))]
        simp -implicitDefEqProofs only [r_opt, r_ret, ob_some, ifB_true, iteV_true, iteV_false, r_gdt, r_gdt2, r_gdtf, r_gdtf2, r_gdff, r_gdff2, r_gdft, r_gdft2, r_gdu, r_gdu2, pick_t, pick_f, ext_0, ext_1, x_newB, r_nil, r_fAddr, Nat.zero_add, b_lss, b_leq, b_gtr, b_geq, b_eql, b_neq, u_not, Bool.not_true, Bool.not_false, oneOf_one, oneOf_two, again_normal, again_exit, again_ret, Bool.and_true, d, l10, g1, g2, g3, g4, hlen, l0, dl]
        rw [f47_r0_eq]
        unfold f47_r0
        exact ⟨H1, _, rfl, he, .slice none 0 0, rfl, Rw.nil, New.nil _⟩
      · have dl : ((l.length : Int) == (n : Int)) = false := by simp; omega
        have l11 := ld_pl11 b1
        obtain ⟨H2, ub, g5, x2, q2, _⟩ := beside_is p1 (m := m) (by omega) (by omega) v
        have hbl := bes_le p.edges v
        have g6 := hasI_is q2.rs x (m := m) (by omega) (by omega)
        rw [besC] at g6
        cases hc : (cand p.edges v).contains x with
        | false =>
          rw [hc] at g6
          rw [if_pos (.inr rfl)]
          simp -implicitDefEqProofs only [r_opt, r_ret, ob_some, ifB_true, iteV_true, iteV_false, r_gdt, r_gdt2, r_gdtf, r_gdtf2, r_gdff, r_gdff2, r_gdft, r_gdft2, r_gdu, r_gdu2, pick_t, pick_f, ext_0, ext_1, x_newB, r_nil, r_fAddr, Nat.zero_add, b_lss, b_leq, b_gtr, b_geq, b_eql, b_neq, u_not, Bool.not_true, Bool.not_false, oneOf_one, oneOf_two, again_normal, again_exit, again_ret, Bool.and_true, d, l10, g1, g2, g3, g4, hlen, l0, dl, l11, g5, g6]
          rw [f47_r0_eq]
          unfold f47_r0
          exact ⟨H2, _, rfl, he.tr x2, .slice none 0 0, rfl, Rw.nil, New.nil _⟩
        | true =>
          rw [hc] at g6
          rw [if_neg (by rw [hk.hn]; rintro (h | h); omega; cases h)]
          have hxin := beside_in hk.ve (bes_mem _ _ _ |>.mpr (List.contains_iff_mem.mp hc))
          have hu2 : Iw H2 u l := hu.keep fun b hb => x2.2 b (hu.lt hb) id
          obtain ⟨u2, H3, t1, t2, t3, t4⟩ := hu2.push1 (by' := 8) inC_len inC_all (by decide) x hnew (he.tr x2) (roomy_mono (n := 1000000) (by decide) (by omega))
          simp -implicitDefEqProofs only [r_opt, r_ret, ob_some, ifB_true, iteV_true, iteV_false, r_gdt, r_gdt2, r_gdtf, r_gdtf2, r_gdff, r_gdff2, r_gdft, r_gdft2, r_gdu, r_gdu2, pick_t, pick_f, ext_0, ext_1, x_newB, r_nil, r_fAddr, Nat.zero_add, b_lss, b_leq, b_gtr, b_geq, b_eql, b_neq, u_not, Bool.not_true, Bool.not_false, oneOf_one, oneOf_two, again_normal, again_exit, again_ret, Bool.and_true, d, l10, g1, g2, g3, g4, hlen, l0, dl, l11, g5, g6, bldI, t1]
          exact ih k H3 u2 (l ++ [x]) x (by simp; omega) (by simp; omega) (by omega) ⟨hxin.1, hxin.2.1⟩ t4 t2 t3 ..
theorem path_is {n : Nat} (hk : OkP p n) (hp : PV H p ev wv nv) {v w : Int} (hv : 0 ≤ v ∧ v < n) (hw : 0 ≤ w ∧ w < n) (hm : 300 < m) (hm2 : m ≤ 72057594037927936) :
    ∃ H' r, lvl Try.prog pk12 m (.func 47) [plV p ev wv nv, .int .i64 v, .int .i64 w] H = some (r, H') ∧ PathRes H (pathL p v w) H' r := by
  obtain ⟨H0, hH0⟩ : ∃ H0, H0 = H ++ [plB p ev wv nv] := ⟨_, rfl⟩
  have x0 : Ext H H0 := by rw [hH0]; exact Fr.app _ _ _
  have b0 : H0[H.length]? = some (plB p ev wv nv) := by rw [hH0]; exact at_last _ _
  have h6 := hk.h6
  have h2 := hk.h2
  have one : Iw (H0 ++ [.cells (inC v) 3 .row]) (.slice (some ⟨H0.length, 0, none⟩) 1 1) [v] := ⟨rfl, .inr ⟨_, 1, [], rfl, by simp, rfl, by simp⟩⟩
  have hnew : New H0 (.slice (some ⟨H0.length, 0, none⟩) 1 1) := fun b ⟨_, _, _, hh⟩ => by cases hh; exact Nat.le_refl _
  have x1 : Ext H0 (H0 ++ [Blk.cells (inC v) 3 .row]) := Fr.app _ _ _
  refine lvl_ex (pk_no rfl rfl) (by omega) ?_
  rw [f47_eq]
  unfold f47
  simp -implicitDefEqProofs only [r_opt, r_ret, ob_some, ifB_true, iteV_true, iteV_false, r_gdt, r_gdt2, r_gdtf, r_gdtf2, r_gdff, r_gdff2, r_gdft, r_gdft2, r_gdu, r_gdu2, pick_t, pick_f, ext_0, ext_1, x_newB, r_nil, r_fAddr, Nat.zero_add, b_lss, b_leq, b_gtr, b_geq, b_eql, b_neq, u_not, Bool.not_true, Bool.not_false, oneOf_one, oneOf_two, again_normal, again_exit, again_ret, Bool.and_true, plV_cells, ← hH0, bldI]
  have hq : p.nodes.toNat = n := by rw [hk.hn]; rfl
  unfold pathL
  rw [hq]
  have := path_loop hk hw (hp.ext x0) b0 (m := m - 1) (by omega) (by omega) n (m - 1) _ _ [v] v (by simp) (by simp; omega) (by omega) hv x1 one hnew
  refine Exists.imp (fun H' h => Exists.imp (fun r h => ⟨h.1, x0.tr h.2.1, ?_⟩) h) (this ..)
  obtain ⟨lv, e1, e2, e3⟩ := h.2.2
  exact ⟨lv, e1, e2, fun b hb => Nat.le_trans x0.1 (e3 b hb)⟩
theorem Path_is (hp : PV H p ev wv nv) (v w : Int) (hm : 17592186045200 < m) (hm2 : m ≤ 72057594037927936) :
    ∃ H' u, lvl Try.prog pk12 m (.func 25) [plV p ev wv nv, .int .i64 v, .int .i64 w] H = some (u, H') ∧ Ext H H' ∧ Iw H' u (pathR p v w) ∧ New H u := by
  obtain ⟨H0, hH0⟩ : ∃ H0, H0 = H ++ [plB p ev wv nv] := ⟨_, rfl⟩
  have x0 : Ext H H0 := by rw [hH0]; exact Fr.app _ _ _
  have b0 : H0[H.length]? = some (plB p ev wv nv) := by rw [hH0]; exact at_last _ _
  have p0 := hp.ext x0
  have l11 := ld_pl11 b0
  obtain ⟨H1, g1, x1⟩ := check_is p0 (m := m - 1) (by omega) (by omega)
  have b1 := ld_of b0 x1
  have p1 := p0.ext x1
  have l0 := ld_pl b1 0 _ rfl
  have l12 := ld_pl11 b1
  have mn := minI2 v w
  have mx := maxI2 v w
  refine lvl_ex (pk_no rfl rfl) (by omega) ?_
  rw [f25_eq]
  unfold f25
  cases hc : checkOk p with
  | false =>
    rw [hc] at g1
    have en : (errno false != 0) = true := rfl
    have e : pathR p v w = [] := by unfold pathR; rw [if_neg (by simp [hc])]
    simp -implicitDefEqProofs only [r_opt, r_ret, ob_some, ifB_true, iteV_true, iteV_false, r_gdt, r_gdt2, r_gdtf, r_gdtf2, r_gdff, r_gdff2, r_gdft, r_gdft2, r_gdu, r_gdu2, pick_t, pick_f, ext_0, ext_1, x_newB, r_nil, r_fAddr, Nat.zero_add, b_lss, b_leq, b_gtr, b_geq, b_eql, b_neq, u_not, Bool.not_true, Bool.not_false, oneOf_one, oneOf_two, again_normal, again_exit, again_ret, Bool.and_true, plV_cells, ← hH0, l11, g1, en]
    exact ⟨H1, _, rfl, x0.tr x1, by rw [e]; exact Rw.nil, New.nil _⟩
  | true =>
    rw [hc] at g1
    have en : (errno true != 0) = false := rfl
    by_cases h1 : min v w < 0
    · have d1 : decide (min v w < 0) = true := decide_eq_true h1
      have e : pathR p v w = [] := by unfold pathR; rw [if_neg (by omega)]
      simp -implicitDefEqProofs only [r_opt, r_ret, ob_some, ifB_true, iteV_true, iteV_false, r_gdt, r_gdt2, r_gdtf, r_gdtf2, r_gdff, r_gdff2, r_gdft, r_gdft2, r_gdu, r_gdu2, pick_t, pick_f, ext_0, ext_1, x_newB, r_nil, r_fAddr, Nat.zero_add, b_lss, b_leq, b_gtr, b_geq, b_eql, b_neq, u_not, Bool.not_true, Bool.not_false, oneOf_one, oneOf_two, again_normal, again_exit, again_ret, Bool.and_true, plV_cells, ← hH0, l11, g1, en, mn, d1]
      exact ⟨H1, _, rfl, x0.tr x1, by rw [e]; exact Rw.nil, New.nil _⟩
    · have d1 : decide (min v w < 0) = false := decide_eq_false h1
      by_cases h2 : p.nodes ≤ max v w
      · have d2 : decide (p.nodes ≤ max v w) = true := decide_eq_true h2
        have e : pathR p v w = [] := by unfold pathR; rw [if_neg (by omega)]
        simp -implicitDefEqProofs only [r_opt, r_ret, ob_some, ifB_true, iteV_true, iteV_false, r_gdt, r_gdt2, r_gdtf, r_gdtf2, r_gdff, r_gdff2, r_gdft, r_gdft2, r_gdu, r_gdu2, pick_t, pick_f, ext_0, ext_1, x_newB, r_nil, r_fAddr, Nat.zero_add, b_lss, b_leq, b_gtr, b_geq, b_eql, b_neq, u_not, Bool.not_true, Bool.not_false, oneOf_one, oneOf_two, again_normal, again_exit, again_ret, Bool.and_true, plV_cells, ← hH0, l11, g1, en, mn, d1, mx, l0, d2]
        exact ⟨H1, _, rfl, x0.tr x1, by rw [e]; exact Rw.nil, New.nil _⟩
      · have d2 : decide (p.nodes ≤ max v w) = false := decide_eq_false h2
        obtain ⟨n, hk⟩ := ok_of hc
        have hn := hk.hn
        have e : pathR p v w = (pathL p v w).getD [] := by unfold pathR; rw [if_pos ⟨hc, by omega, by omega, by omega, by omega⟩]
        obtain ⟨H2, r, g2, x2, lv, rfl, e2, e3⟩ := path_is hk p1 (v := v) (w := w) (by omega) (by omega) (m := m - 1) (by omega) (by omega)
        simp -implicitDefEqProofs only [r_opt, r_ret, ob_some, ifB_true, iteV_true, iteV_false, r_gdt, r_gdt2, r_gdtf, r_gdtf2, r_gdff, r_gdff2, r_gdft, r_gdft2, r_gdu, r_gdu2, pick_t, pick_f, ext_0, ext_1, x_newB, r_nil, r_fAddr, Nat.zero_add, b_lss, b_leq, b_gtr, b_geq, b_eql, b_neq, u_not, Bool.not_true, Bool.not_false, oneOf_one, oneOf_two, again_normal, again_exit, again_ret, Bool.and_true, plV_cells, ← hH0, l11, g1, en, mn, d1, mx, l0, d2, l12, g2]
        exact ⟨H2, _, rfl, (x0.tr x1).tr x2, by rw [e]; exact e2, fun b hb => Nat.le_trans (x0.tr x1).1 (e3 b hb)⟩
end
end Go.Proofs.Ytdobnaldfmpimaa

set_option linter.unusedSectionVars false
set_option linter.unusedSimpArgs false
set_option linter.unusedVariables false
set_option maxRecDepth 100000
namespace Go.Proofs.Ytdobnaldfmpimaa
open Go.Abs
def wtAt (p : PlanD) (a b : Ed) (w : Nat) : Bool := a.2 == b.1 && ((w : Int) != a.2 && ((w : Int) != a.1 && (nx p a.1 w == a.2 && nx p a.2 w == b.2)))
def wt (p : PlanD) (n : Nat) (a b : Ed) : Bool := (List.range n).any (wtAt p a b)
def wrow (p : PlanD) (n : Nat) (hs : List Ed) (a : Ed) : List Int := ((List.range hs.length).filter fun k => wt p n a (hs.getD k (0, 0))).map (fun k : Nat => (k : Int))
def waitsL (p : PlanD) : List (List Int) := if checkOk p = true then (hopsOf p).map (wrow p p.nodes.toNat (hopsOf p)) else []
def idxH (hs : List Ed) (y : Ed) : Int := fst (fun j => hs[j]? == some y) hs.length 0
def aft1 (p : PlanD) (hs : List Ed) (h : Ed) (w : Nat) : List Int :=
  if (w : Int) = h.1 ∨ (w : Int) = h.2 ∨ nx p h.1 w ≠ h.2 then [] else if 0 ≤ idxH hs (h.2, nx p h.2 w) then [idxH hs (h.2, nx p h.2 w)] else []
def aftL (p : PlanD) (n : Nat) (hs : List Ed) (h : Ed) : List Int := (List.range n).flatMap (aft1 p hs h)
theorem fst_sat (p : Nat → Bool) : ∀ q i, 0 ≤ fst p q i → p (fst p q i).toNat = true
  | 0, i => by simp [fst]
  | q + 1, i => by
    unfold fst
    split
    · rename_i h
      intro _
      simpa using h
    · exact fst_sat p q (i + 1)
theorem idxH_some {hs : List Ed} (hn : hs.Nodup) (y : Ed) (k : Nat) : idxH hs y = k ↔ hs[k]? = some y := by
  have key : 0 ≤ idxH hs y → hs[(idxH hs y).toNat]? = some y := fun h => by
    unfold idxH at h ⊢
    have := fst_sat _ _ _ h
    simpa using this
  constructor
  · intro h
    have := key (by omega)
    rw [h] at this
    simpa using this
  · intro h
    have hk := (List.getElem?_eq_some_iff.mp h).1
    have h0 : 0 ≤ idxH hs y := (fst_pos _ _ _).mpr ⟨k, by omega, by omega, by rw [h]; simp⟩
    have h1 := key h0
    have hk1 := (List.getElem?_eq_some_iff.mp h1).1
    have := (List.getElem_inj (h₀ := hk1) (h₁ := hk) hn).mp (by
      rw [(List.getElem?_eq_some_iff.mp h1).2, (List.getElem?_eq_some_iff.mp h).2])
    omega
theorem aft1_le (p : PlanD) (hs : List Ed) (h : Ed) (w : Nat) : (aft1 p hs h w).length ≤ 1 := by
  unfold aft1
  split
  · simp
  · split <;> simp
theorem aft_le (p : PlanD) (hs : List Ed) (h : Ed) : ∀ i, ((List.range i).flatMap (aft1 p hs h)).length ≤ i
  | 0 => by simp
  | i + 1 => by
    have := aft_le p hs h i
    have := aft1_le p hs h i
    rw [List.range_succ, List.flatMap_append]
    simp only [List.length_append, List.flatMap_cons, List.flatMap_nil, List.append_nil]
    omega
theorem wrow_mem {p : PlanD} {n : Nat} {hs : List Ed} {a : Ed} {z : Int} : z ∈ wrow p n hs a ↔ ∃ k b, z = (k : Nat) ∧ hs[k]? = some b ∧ wt p n a b = true := by
  unfold wrow
  simp only [List.mem_map, List.mem_filter, List.mem_range]
  constructor
  · rintro ⟨k, ⟨h1, h2⟩, rfl⟩
    exact ⟨k, hs[k], rfl, List.getElem?_eq_getElem h1, by rwa [List.getD_eq_getElem?_getD, List.getElem?_eq_getElem h1, Option.getD_some] at h2⟩
  · rintro ⟨k, b, rfl, h1, h2⟩
    refine ⟨k, ⟨(List.getElem?_eq_some_iff.mp h1).1, ?_⟩, rfl⟩
    rwa [List.getD_eq_getElem?_getD, h1, Option.getD_some]
theorem wrow_pw (p : PlanD) (n : Nat) (hs : List Ed) (a : Ed) : (wrow p n hs a).Pairwise (· < ·) := by
  unfold wrow
  rw [List.pairwise_map]
  exact (List.Pairwise.filter _ List.pairwise_lt_range).imp fun h => by omega
theorem srt_mem (z : Int) (l : List Int) : z ∈ srt l ↔ z ∈ l := (srt_perm l).mem_iff
theorem aft_wrow {p : PlanD} {n : Nat} {hs : List Ed} (hn : hs.Nodup) (a : Ed) : dd (srt (aftL p n hs a)) = wrow p n hs a := by
  refine pw_ext _ _ (dd_pw _ (srt_pw _)) (wrow_pw p n hs a) fun z => ?_
  rw [dd_mem, srt_mem, wrow_mem]
  unfold aftL wt
  simp only [List.mem_flatMap, List.mem_range, List.any_eq_true]
  constructor
  · rintro ⟨w, hw, hz⟩
    unfold aft1 at hz
    split at hz
    · simp at hz
    · rename_i hc
      split at hz
      · rename_i h0
        simp only [List.mem_singleton] at hz
        have e : idxH hs (a.2, nx p a.2 w) = ((idxH hs (a.2, nx p a.2 w)).toNat : Nat) := by omega
        refine ⟨_, _, by rw [hz]; exact e, (idxH_some hn _ _).mp e, w, hw, ?_⟩
        unfold wtAt
        simp only [Bool.and_eq_true, bne_iff_ne, beq_iff_eq]
        refine ⟨trivial, ?_, ?_, ?_, trivial⟩ <;> omega
      · simp at hz
  · rintro ⟨k, b, rfl, hk, w, hw, hz⟩
    unfold wtAt at hz
    simp only [Bool.and_eq_true, bne_iff_ne, beq_iff_eq] at hz
    obtain ⟨h1, h2, h3, h4, h5⟩ := hz
    refine ⟨w, hw, ?_⟩
    unfold aft1
    rw [if_neg (by omega)]
    have : (a.2, nx p a.2 w) = b := by rw [h5, h1]
    rw [this, (idxH_some hn b k).mpr hk, if_pos (by omega)]
    simp
theorem hops_nd {p : PlanD} {n : Nat} (hk : OkP p n) : (hopsOf p).Nodup ∧ hopsOf p = (List.range n).flatMap (hopAt p.edges) := by
  have hN : hopN p = n := by have := hk.h6; unfold hopN; rw [hk.hn]; omega
  have hho : hopsOf p = (List.range n).flatMap (hopAt p.edges) := by unfold hopsOf; rw [hN]
  refine ⟨?_, hho⟩
  rw [hho]
  exact (hops_pw hk.ve hk.h6).imp fun h hh => by subst hh; omega
theorem hops_in {p : PlanD} {n : Nat} (hk : OkP p n) {h : Ed} (hh : h ∈ hopsOf p) : 0 ≤ h.1 ∧ h.1 < n ∧ 0 ≤ h.2 ∧ h.2 < n := by
  rw [(hops_nd hk).2] at hh
  have := beside_in hk.ve ((hops_mem hk.ve hk.h6).mp hh)
  omega
section
variable {H : Heap} {m : Nat} {p : PlanD} {ev wv nv : Value}
def hpB (h : Ed) : Blk := .cells (edC h) 38 .fix
theorem hp_cells (h : Ed) : Blk.cells (edV h).cells.toList 38 .fix = hpB h := rfl
theorem ld_hp0 {b : Nat} {h : Ed} (hb : H[b]? = some (hpB h)) : ld1 (.pointer (some ⟨b, 0, none⟩)) H = some (.int .i64 h.1, H) := r_ld1 hb rfl
theorem ld_hp1 {b : Nat} {h : Ed} (hb : H[b]? = some (hpB h)) : ld1 (.pointer (some ⟨b, 1, none⟩)) H = some (.int .i64 h.2, H) := r_ld1 hb rfl
theorem ld_hp2 {b : Nat} {h : Ed} (hb : H[b]? = some (hpB h)) : ldN 2 (.pointer (some ⟨b, 0, none⟩)) H = some (edV h, H) := by
  rw [x_ldN, hb]
  unfold hpB
  rw [x_ldNC _ _ _ _ _ (by simp [edC])]
  rfl
theorem eHop (a b : Ed) : bin Try.prog .eql 38 (edV a) (edV b) = some (.bool (a == b)) := by
  have k : kindsOf Try.prog 38 = some [true, true] := by kernel_rfl
  obtain ⟨a1, a2⟩ := a
  obtain ⟨b1, b2⟩ := b
  simp [bin, edV, flat, eqAny, k, eqT, edC]
  rfl
theorem ixH_loop {v : Value} {xs : List Ed} {a : Nat} {y : Ed} (hx : Hs H v xs) (ha : H[a]? = some (hpB y)) (hn : xs.length ≤ 72057594037927936) : ∀ (q i k : Nat), xs.length - i = q → i ≤ xs.length → q < k → ∀ (x1 x2 x4 x5 x6 x9 x10 x11 x12 x13 x14 x15 x16 x17 x18 : Value),
    loopN k (runCode Try.prog (lvl Try.prog pk12 m) (loopN m) f67_c0) (f67_k0 (lvl Try.prog pk12 m) (loopN m)) [v, x1, x2, (.pointer (some ⟨a, 0, none⟩)), x4, x5, x6, (.int .i64 xs.length), (.int .i64 (i : Nat)), x9, x10, x11, x12, x13, x14, x15, x16, x17, x18] H = some (.int .i64 (fst (fun j => xs[j]? == some y) q i), H) := by
  intro q
  have la := ld_hp2 ha
  induction q with
  | zero =>
    intro i k hr hi hk
    intros
    obtain ⟨k, rfl⟩ : ∃ n, k = n + 1 := ⟨k - 1, by omega⟩
    obtain rfl : i = xs.length := by omega
    have e : decide ((xs.length : Int) < xs.length) = false := by simp
    rw [loop_succ, f67_b0_eq]
    unfold f67_b0
    simp -implicitDefEqProofs only [r_opt, r_ret, ob_some, ifB_true, iteV_true, iteV_false, r_gdt, r_gdt2, r_gdtf, r_gdtf2, r_gdff, r_gdff2, r_gdft, r_gdft2, r_gdu, r_gdu2, pick_t, pick_f, ext_0, ext_1, x_newB, r_nil, r_fAddr, Nat.zero_add, b_lss, b_leq, b_gtr, b_geq, b_eql, b_neq, u_not, Bool.not_true, Bool.not_false, oneOf_one, oneOf_two, again_normal, again_exit, again_ret, Bool.and_true, e]
    rw [f67_e0_0_eq]
    rfl
  | succ q ih =>
    intro i k hr hi hk
    intros
    obtain ⟨k, rfl⟩ : ∃ n, k = n + 1 := ⟨k - 1, by omega⟩
    have e : decide ((i : Int) < xs.length) = true := by simp; omega
    have e3 : IntKind.i64.wrap ((i : Int) + 1) = ((i + 1 : Nat) : Int) := by rw [wrap_i64 (by omega) (by omega)]; omega
    have hxi : xs[i]? = some xs[i] := List.getElem?_eq_getElem (by omega)
    obtain ⟨b, o, g1, g2, g3⟩ := hx.at_ edC_len hxi .i64
    have l1 : ldN 2 (.pointer (some ⟨b, o, none⟩)) H = some (edV xs[i], H) := (g3 H rfl).1
    rw [loop_succ, f67_b0_eq]
    unfold f67_b0 fst
    by_cases h : y = xs[i]
    · have d : (y == xs[i]) = true := by rw [h]; simp
      have d2 : (xs[i]? == some y) = true := by rw [hxi, h]; simp
      simp -implicitDefEqProofs only [r_opt, r_ret, ob_some, ifB_true, iteV_true, iteV_false, r_gdt, r_gdt2, r_gdtf, r_gdtf2, r_gdff, r_gdff2, r_gdft, r_gdft2, r_gdu, r_gdu2, pick_t, pick_f, ext_0, ext_1, x_newB, r_nil, r_fAddr, Nat.zero_add, b_lss, b_leq, b_gtr, b_geq, b_eql, b_neq, u_not, Bool.not_true, Bool.not_false, oneOf_one, oneOf_two, again_normal, again_exit, again_ret, Bool.and_true, e, la, g1, l1, eHop, d]
      rw [f67_r0_eq, if_pos d2]
      rfl
    · have d : (y == xs[i]) = false := by simpa using h
      have d2 : ¬ (xs[i]? == some y) = true := by rw [hxi]; simpa using fun hh => h hh.symm
      simp -implicitDefEqProofs only [r_opt, r_ret, ob_some, ifB_true, iteV_true, iteV_false, r_gdt, r_gdt2, r_gdtf, r_gdtf2, r_gdff, r_gdff2, r_gdft, r_gdft2, r_gdu, r_gdu2, pick_t, pick_f, ext_0, ext_1, x_newB, r_nil, r_fAddr, Nat.zero_add, b_lss, b_leq, b_gtr, b_geq, b_eql, b_neq, u_not, Bool.not_true, Bool.not_false, oneOf_one, oneOf_two, again_normal, again_exit, again_ret, Bool.and_true, e, la, g1, l1, eHop, d, b_add, e3]
      rw [if_neg d2]
      exact ih (i + 1) k (by omega) (by omega) (by omega) ..
theorem ixH_is {v : Value} {xs : List Ed} (hx : Hs H v xs) (y : Ed) (hn : xs.length + 10 < m) (hm : m ≤ 72057594037927936) : ∃ H', lvl Try.prog pk12 m (.func 67) [v, edV y] H = some (.int .i64 (idxH xs y), H') ∧ Ext H H' := by
  have x2 : Ext H (H ++ [hpB y]) := Fr.app _ _ _
  have hlen := hx.len
  refine ⟨H ++ [hpB y], lvl_at (pk_no rfl rfl) (by omega) ?_, x2⟩
  rw [f67_eq]
  unfold f67
  simp -implicitDefEqProofs only [r_opt, r_ret, ob_some, ifB_true, iteV_true, iteV_false, r_gdt, r_gdt2, r_gdtf, r_gdtf2, r_gdff, r_gdff2, r_gdft, r_gdft2, r_gdu, r_gdu2, pick_t, pick_f, ext_0, ext_1, x_newB, r_nil, r_fAddr, Nat.zero_add, b_lss, b_leq, b_gtr, b_geq, b_eql, b_neq, u_not, Bool.not_true, Bool.not_false, oneOf_one, oneOf_two, again_normal, again_exit, again_ret, Bool.and_true, hp_cells, hlen]
  exact ixH_loop (hx.ext x2) (at_last H _) (by omega) xs.length 0 (m - 1) (by omega) (by omega) (by omega) ..
theorem after_loop {n : Nat} (hk : OkP p n) {H0 : Heap} {a hb : Nat} {h : Ed} {u : Value} {hs : List Ed} (hh : 0 ≤ h.1 ∧ h.1 < n ∧ 0 ≤ h.2 ∧ h.2 < n) (hp : PV H0 p ev wv nv) (hb0 : H0[a]? = some (plB p ev wv nv)) (hhb : H0[hb]? = some (hpB h)) (hu : Hs H0 u hs) (hsl : hs.length ≤ 100) (hm : 300 < m) (hm2 : m ≤ 72057594037927936) :
    ∀ (q i k : Nat) (H1 : Heap) (acc : Value), n - i = q → i ≤ n → q < k → Ext H0 H1 → Iw H1 acc ((List.range i).flatMap (aft1 p hs h)) → New H0 acc → ∀ (x0 x1 x5 x6 x8 x9 x10 x13 x14 x15 x16 x17 x18 x19 x20 x21 x22 x23 x24 x25 x26 x27 x28 x29 x30 x31 x32 x33 x34 x35 x36 x37 x38 x39 x40 x41 x42 x43 x44 x45 x46 x47 x48 x49 x50 x51 x52 x53 x54 x55 x56 x57 x58 x59 x60 x61 x62 x63 : Value),
    ∃ H' r, loopN k (runCode Try.prog (lvl Try.prog pk12 m) (loopN m) f49_c0) (f49_k0 (lvl Try.prog pk12 m) (loopN m)) [x0, x1, u, (.pointer (some ⟨a, 0, none⟩)), (.pointer (some ⟨hb, 0, none⟩)), x5, x6, acc, x8, x9, x10, (.int .i64 n), (.int .i64 (i : Nat)), x13, x14, x15, x16, x17, x18, x19, x20, x21, x22, x23, x24, x25, x26, x27, x28, x29, x30, x31, x32, x33, x34, x35, x36, x37, x38, x39, x40, x41, x42, x43, x44, x45, x46, x47, x48, x49, x50, x51, x52, x53, x54, x55, x56, x57, x58, x59, x60, x61, x62, x63] H1 = some (r, H') ∧ Ext H0 H' ∧ Iw H' r (dd (srt (aftL p n hs h))) ∧ New H0 r := by
  intro q
  have h6 := hk.h6
  induction q with
  | zero =>
    intro i k H1 acc hr hi hk2 he ha hnew
    intros
    obtain ⟨k, rfl⟩ : ∃ n, k = n + 1 := ⟨k - 1, by omega⟩
    obtain rfl : i = n := by omega
    have e : decide ((i : Int) < (i : Int)) = false := by simp
    have hal := aft_le p hs h i
    obtain ⟨H2, g1, g2, g3⟩ := sort_rw ha (by omega) hnew he
    have g1' := sort_is m (by omega) [acc] H1
    rw [g1] at g1'
    have hsl := srt_len ((List.range i).flatMap (aft1 p hs h))
    obtain ⟨H3, r, q1, q2, q3, q4⟩ := compact_is (m := m) g2 hnew g3 (by omega) (by omega)
    refine ⟨H3, r, ?_, q2, q3, q4⟩
    rw [loop_succ, f49_b0_eq]
    unfold f49_b0
    simp -implicitDefEqProofs only [r_opt, r_ret, ob_some, ifB_true, iteV_true, iteV_false, r_gdt, r_gdt2, r_gdtf, r_gdtf2, r_gdff, r_gdff2, r_gdft, r_gdft2, r_gdu, r_gdu2, pick_t, pick_f, ext_0, ext_1, x_newB, r_nil, r_fAddr, Nat.zero_add, b_lss, b_leq, b_gtr, b_geq, b_eql, b_neq, u_not, Bool.not_true, Bool.not_false, oneOf_one, oneOf_two, again_normal, again_exit, again_ret, Bool.and_true, e]
    rw [f49_e0_0_eq]
    unfold f49_e0_0
    simp -implicitDefEqProofs only [r_opt, r_ret, ob_some, ifB_true, iteV_true, iteV_false, r_gdt, r_gdt2, r_gdtf, r_gdtf2, r_gdff, r_gdff2, r_gdft, r_gdft2, r_gdu, r_gdu2, pick_t, pick_f, ext_0, ext_1, x_newB, r_nil, r_fAddr, Nat.zero_add, b_lss, b_leq, b_gtr, b_geq, b_eql, b_neq, u_not, Bool.not_true, Bool.not_false, oneOf_one, oneOf_two, again_normal, again_exit, again_ret, Bool.and_true, g1', q1]
  | succ q ih =>
    intro i k H1 acc hr hi hk2 he ha hnew
    intros
    obtain ⟨k, rfl⟩ : ∃ n, k = n + 1 := ⟨k - 1, by omega⟩
    have e : decide ((i : Int) < (n : Int)) = true := decide_eq_true (by omega)
    have e3 : IntKind.i64.wrap ((i : Int) + 1) = ((i + 1 : Nat) : Int) := by rw [wrap_i64 (by omega) (by omega)]; omega
    have hb1 := ld_of hhb he
    have h0 := ld_hp0 hb1
    have h1 := ld_hp1 hb1
    have bp := ld_of hb0 he
    have l10 := ld_pl bp 10 _ rfl
    have p1 := hp.ext he
    have hran : (List.range (i + 1)).flatMap (aft1 p hs h) = (List.range i).flatMap (aft1 p hs h) ++ aft1 p hs h i := by
      rw [List.range_succ, List.flatMap_append]
      simp
    have hal := aft_le p hs h i
    have skip : aft1 p hs h i = [] → ∀ (x0 x1 x5 x6 x8 x9 x10 x13 x14 x15 x16 x17 x18 x19 x20 x21 x22 x23 x24 x25 x26 x27 x28 x29 x30 x31 x32 x33 x34 x35 x36 x37 x38 x39 x40 x41 x42 x43 x44 x45 x46 x47 x48 x49 x50 x51 x52 x53 x54 x55 x56 x57 x58 x59 x60 x61 x62 x63 : Value), ∃ H' r, loopN k (runCode Try.prog (lvl Try.prog pk12 m) (loopN m) f49_c0) (f49_k0 (lvl Try.prog pk12 m) (loopN m)) [x0, x1, u, (.pointer (some ⟨a, 0, none⟩)), (.pointer (some ⟨hb, 0, none⟩)), x5, x6, acc, x8, x9, x10, (.int .i64 n), (.int .i64 (i + 1 : Nat)), x13, x14, x15, x16, x17, x18, x19, x20, x21, x22, x23, x24, x25, x26, x27, x28, x29, x30, x31, x32, x33, x34, x35, x36, x37, x38, x39, x40, x41, x42, x43, x44, x45, x46, x47, x48, x49, x50, x51, x52, x53, x54, x55, x56, x57, x58, x59, x60, x61, x62, x63] H1 = some (r, H') ∧ Ext H0 H' ∧ Iw H' r (dd (srt (aftL p n hs h))) ∧ New H0 r := by
      intro h0
      exact ih (i + 1) k H1 acc (by omega) (by omega) (by omega) he (by rw [hran, h0, List.append_nil]; exact ha) hnew
    rw [loop_succ, f49_b0_eq]
    unfold f49_b0
    cases c1 : ((i : Int) == h.1) with
    | true =>
      simp -implicitDefEqProofs only [r_opt, r_ret, ob_some, ifB_true, iteV_true, iteV_false, r_gdt, r_gdt2, r_gdtf, r_gdtf2, r_gdff, r_gdff2, r_gdft, r_gdft2, r_gdu, r_gdu2, pick_t, pick_f, ext_0, ext_1, x_newB, r_nil, r_fAddr, Nat.zero_add, b_lss, b_leq, b_gtr, b_geq, b_eql, b_neq, u_not, Bool.not_true, Bool.not_false, oneOf_one, oneOf_two, again_normal, again_exit, again_ret, Bool.and_true, e, h0, c1, b_add, e3]
      exact skip (by unfold aft1; rw [if_pos (.inl (by simpa using c1))]) ..
    | false =>
      cases c2 : ((i : Int) == h.2) with
      | true =>
        simp -implicitDefEqProofs only [r_opt, r_ret, ob_some, ifB_true, iteV_true, iteV_false, r_gdt, r_gdt2, r_gdtf, r_gdtf2, r_gdff, r_gdff2, r_gdft, r_gdft2, r_gdu, r_gdu2, pick_t, pick_f, ext_0, ext_1, x_newB, r_nil, r_fAddr, Nat.zero_add, b_lss, b_leq, b_gtr, b_geq, b_eql, b_neq, u_not, Bool.not_true, Bool.not_false, oneOf_one, oneOf_two, again_normal, again_exit, again_ret, Bool.and_true, e, h0, h1, c1, c2, b_add, e3]
        exact skip (by unfold aft1; rw [if_pos (.inr (.inl (by simpa using c2)))]) ..
      | false =>
        obtain ⟨a1, u1, a2, g1, g2, g3, g4⟩ := nx_at hk p1 (v := h.1) (w := i) (by omega) (by omega)
        cases c3 : (nx p h.1 i != h.2) with
        | true =>
          simp -implicitDefEqProofs only [r_opt, r_ret, ob_some, ifB_true, iteV_true, iteV_false, r_gdt, r_gdt2, r_gdtf, r_gdtf2, r_gdff, r_gdff2, r_gdft, r_gdft2, r_gdu, r_gdu2, pick_t, pick_f, ext_0, ext_1, x_newB, r_nil, r_fAddr, Nat.zero_add, b_lss, b_leq, b_gtr, b_geq, b_eql, b_neq, u_not, Bool.not_true, Bool.not_false, oneOf_one, oneOf_two, again_normal, again_exit, again_ret, Bool.and_true, e, h0, h1, c1, c2, l10, g1, g2, g3, g4, c3, b_add, e3]
          exact skip (by unfold aft1; rw [if_pos (.inr (.inr (by simpa using c3)))]) ..
        | false =>
          obtain ⟨a3, u3, a4, k1, k2, k3, k4⟩ := nx_at hk p1 (v := h.2) (w := i) (by omega) (by omega)
          have bh : bld Try.prog 38 [(0, .int .i64 h.2), (1, .int .i64 (nx p h.2 i))] = some (edV (h.2, nx p h.2 i)) := bHop _ _
          obtain ⟨H2, x1, x2⟩ := ixH_is (hu.ext he) (h.2, nx p h.2 i) (m := m) (by omega) (by omega)
          have hnot : ¬ ((i : Int) = h.1 ∨ (i : Int) = h.2 ∨ nx p h.1 i ≠ h.2) := by
            have c1' : ¬ (i : Int) = h.1 := by simpa using c1
            have c2' : ¬ (i : Int) = h.2 := by simpa using c2
            have c3' : nx p h.1 i = h.2 := by simpa using c3
            rintro (hx | hx | hx)
            · exact c1' hx
            · exact c2' hx
            · exact hx c3'
          have ha2 : Iw H2 acc ((List.range i).flatMap (aft1 p hs h)) := ha.keep fun b hb => x2.2 b (ha.lt hb) id
          cases c4 : decide (0 ≤ idxH hs (h.2, nx p h.2 i)) with
          | true =>
            obtain ⟨acc2, H3, t1, t2, t3, t4⟩ := ha2.push1 (by' := 8) inC_len inC_all (by decide) (idxH hs (h.2, nx p h.2 i)) hnew (he.tr x2) (roomy_mono (n := 1000000) (by decide) (by omega))
            simp -implicitDefEqProofs only [r_opt, r_ret, ob_some, ifB_true, iteV_true, iteV_false, r_gdt, r_gdt2, r_gdtf, r_gdtf2, r_gdff, r_gdff2, r_gdft, r_gdft2, r_gdu, r_gdu2, pick_t, pick_f, ext_0, ext_1, x_newB, r_nil, r_fAddr, Nat.zero_add, b_lss, b_leq, b_gtr, b_geq, b_eql, b_neq, u_not, Bool.not_true, Bool.not_false, oneOf_one, oneOf_two, again_normal, again_exit, again_ret, Bool.and_true, e, h0, h1, c1, c2, l10, g1, g2, g3, g4, c3, k1, k2, k3, k4, bh, x1, c4, bldI, t1, b_add, e3]
            refine ih (i + 1) k H3 acc2 (by omega) (by omega) (by omega) t4 ?_ t3 ..
            have : aft1 p hs h i = [idxH hs (h.2, nx p h.2 i)] := by unfold aft1; rw [if_neg hnot, if_pos (of_decide_eq_true c4)]
            rw [hran, this]
            exact t2
          | false =>
            simp -implicitDefEqProofs only [r_opt, r_ret, ob_some, ifB_true, iteV_true, iteV_false, r_gdt, r_gdt2, r_gdtf, r_gdtf2, r_gdff, r_gdff2, r_gdft, r_gdft2, r_gdu, r_gdu2, pick_t, pick_f, ext_0, ext_1, x_newB, r_nil, r_fAddr, Nat.zero_add, b_lss, b_leq, b_gtr, b_geq, b_eql, b_neq, u_not, Bool.not_true, Bool.not_false, oneOf_one, oneOf_two, again_normal, again_exit, again_ret, Bool.and_true, e, h0, h1, c1, c2, l10, g1, g2, g3, g4, c3, k1, k2, k3, k4, bh, x1, c4, b_add, e3]
            refine ih (i + 1) k H2 acc (by omega) (by omega) (by omega) (he.tr x2) ?_ hnew ..
            have : aft1 p hs h i = [] := by unfold aft1; rw [if_neg hnot, if_neg (of_decide_eq_false c4)]
            rw [hran, this, List.append_nil]
            exact ha2
theorem after_is {n : Nat} (hk : OkP p n) {h : Ed} {u : Value} {hs : List Ed} (hh : 0 ≤ h.1 ∧ h.1 < n ∧ 0 ≤ h.2 ∧ h.2 < n) (hp : PV H p ev wv nv) (hu : Hs H u hs) (hsl : hs.length ≤ 100) (hnd : hs.Nodup) (hm : 400 < m) (hm2 : m ≤ 72057594037927936) :
    ∃ H' r, lvl Try.prog pk12 m (.func 49) [plV p ev wv nv, edV h, u] H = some (r, H') ∧ Ext H H' ∧ Iw H' r (wrow p n hs h) ∧ New H r := by
  obtain ⟨H0, hH0⟩ : ∃ H0, H0 = H ++ [plB p ev wv nv] := ⟨_, rfl⟩
  have x0 : Ext H H0 := by rw [hH0]; exact Fr.app _ _ _
  have b0 : H0[H.length]? = some (plB p ev wv nv) := by rw [hH0]; exact at_last _ _
  obtain ⟨H1, hH1⟩ : ∃ H1, H1 = H0 ++ [hpB h] := ⟨_, rfl⟩
  have x1 : Ext H0 H1 := by rw [hH1]; exact Fr.app _ _ _
  have b1 : H1[H0.length]? = some (hpB h) := by rw [hH1]; exact at_last _ _
  have l0 := ld_pl (ld_of b0 x1) 0 _ rfl
  rw [hk.hn] at l0
  have x01 := x0.tr x1
  have h6 := hk.h6
  refine lvl_ex (pk_no rfl rfl) (by omega) ?_
  rw [f49_eq]
  unfold f49
  simp -implicitDefEqProofs only [r_opt, r_ret, ob_some, ifB_true, iteV_true, iteV_false, r_gdt, r_gdt2, r_gdtf, r_gdtf2, r_gdff, r_gdff2, r_gdft, r_gdft2, r_gdu, r_gdu2, pick_t, pick_f, ext_0, ext_1, x_newB, r_nil, r_fAddr, Nat.zero_add, b_lss, b_leq, b_gtr, b_geq, b_eql, b_neq, u_not, Bool.not_true, Bool.not_false, oneOf_one, oneOf_two, again_normal, again_exit, again_ret, Bool.and_true, plV_cells, ← hH0, hp_cells, ← hH1, l0]
  rw [← aft_wrow hnd]
  exact Exists.imp (fun H' h => Exists.imp (fun r h => ⟨h.1, x01.tr h.2.1, h.2.2.1, fun b hb => Nat.le_trans x01.1 (h.2.2.2 b hb)⟩) h) (after_loop hk hh (hp.ext x01) (ld_of b0 x1) b1 (hu.ext x01) hsl (m := m - 1) (by omega) (by omega) n 0 (m - 1) H1 (.slice none 0 0) (by omega) (by omega) (by omega) (Fr.refl _ _) Rw.nil (New.nil _) ..)
structure WR (H : Heap) (us : List SV) (xss : List (List Int)) : Prop where
  len : us.length = xss.length
  row : ∀ (j : Nat) (s : SV) (xs : List Int), us[j]? = some s → xss[j]? = some xs → Iw H s.1 xs
theorem WR.keep {us : List SV} {xss : List (List Int)} {H' : Heap} (h : WR H us xss) (hk : ∀ (b : Nat) (cs : List Value), H[b]? = some (.cells cs 3 .row) → H'[b]? = H[b]?) : WR H' us xss :=
  ⟨h.len, fun j s xs h1 h2 => (h.row j s xs h1 h2).keep fun b hb => by
    obtain ⟨cs, hc⟩ := (h.row j s xs h1 h2).blk hb
    exact hk b cs hc⟩
theorem WR.push {us : List SV} {xss : List (List Int)} {s : SV} {xs : List Int} (h : WR H us xss) (hs : Iw H s.1 xs) : WR H (us ++ [s]) (xss ++ [xs]) := by
  refine ⟨by simp [h.len], fun j s' xs' h1 h2 => ?_⟩
  by_cases hj : j < us.length
  · rw [List.getElem?_append_left hj] at h1
    rw [List.getElem?_append_left (by have := h.len; omega)] at h2
    exact h.row j s' xs' h1 h2
  · have hj2 : j = us.length := by
      have := (List.getElem?_eq_some_iff.mp h1).1
      simp at this
      omega
    subst hj2
    simp at h1
    rw [h.len] at h2
    simp at h2
    subst h1 h2
    exact hs
theorem WR.rows {us : List SV} {xss : List (List Int)} {v : Value} (h : WR H us xss) (hv : Rs sC 24 H v us) : Rows H v xss := by
  refine ⟨us.map (·.1), ?_, by simp [h.len], fun j u xs h1 h2 => ?_⟩
  · rcases hv with ⟨h1, h2⟩ | ⟨b, o, cap, h1, h2, h3⟩
    · exact .inl ⟨h1, by rw [h2]; rfl⟩
    · refine .inr ⟨b, o, cap, by rw [List.length_map]; exact h1, by rw [List.length_map]; exact h2, fun hne => ?_⟩
      rw [← sC_map]
      exact h3 fun hh => hne (by rw [hh]; rfl)
  · rw [List.getElem?_map] at h1
    obtain ⟨s, hs, rfl⟩ := Option.map_eq_some_iff.mp h1
    exact (h.row j s xs hs h2).rs
def svOf {u : Value} {xs : List Int} (h : Iw H u xs) : SV := ⟨u, Rs.sv h.rs⟩
def nilSV : SV := ⟨.slice none 0 0, rfl, rfl⟩
theorem Waits_loop {n : Nat} (hk : OkP p n) {H0 : Heap} {a ob : Nat} {u : Value} {hs : List Ed} (hin : ∀ h ∈ hs, 0 ≤ h.1 ∧ h.1 < n ∧ 0 ≤ h.2 ∧ h.2 < n) (hsl : hs.length ≤ 100) (hnd : hs.Nodup) (hm : 500 < m) (hm2 : m ≤ 72057594037927936) (hp : PV H0 p ev wv nv) (hb0 : H0[a]? = some (plB p ev wv nv)) (hu : Hs H0 u hs) (hob : H0.length = ob) :
    ∀ (q i k : Nat) (H1 : Heap) (us : List SV), hs.length - i = q → i ≤ hs.length → q < k → Ext H0 H1 → Own sC 24 H1 (.slice (some ⟨ob, 0, none⟩) hs.length hs.length) ob us → us.length = hs.length → WR H1 (us.take i) ((hs.take i).map (wrow p n hs)) → ∀ (x0 x2 x5 x6 x7 x8 x9 x10 x11 x12 x13 x14 x18 x19 x20 x21 x22 x23 x24 x25 x26 x27 x28 x29 x30 : Value),
    ∃ H' r, loopN k (runCode Try.prog (lvl Try.prog pk12 m) (loopN m) f26_c0) (f26_k0 (lvl Try.prog pk12 m) (loopN m)) [x0, (.pointer (some ⟨a, 0, none⟩)), x2, u, (.slice (some ⟨ob, 0, none⟩) hs.length hs.length), x5, x6, x7, x8, x9, x10, x11, x12, x13, x14, u, (.int .i64 hs.length), (.int .i64 (i : Nat)), x18, x19, x20, x21, x22, x23, x24, x25, x26, x27, x28, x29, x30] H1 = some (r, H') ∧ Ext H0 H' ∧ Rows H' r (hs.map (wrow p n hs)) := by
  intro q
  induction q with
  | zero =>
    intro i k H1 us hr hi hk2 he ho hul hwr
    intros
    obtain ⟨k, rfl⟩ : ∃ n, k = n + 1 := ⟨k - 1, by omega⟩
    obtain rfl : i = hs.length := by omega
    have e : decide ((hs.length : Int) < (hs.length : Int)) = false := by simp
    rw [loop_succ, f26_b0_eq]
    unfold f26_b0
    simp -implicitDefEqProofs only [r_opt, r_ret, ob_some, ifB_true, iteV_true, iteV_false, r_gdt, r_gdt2, r_gdtf, r_gdtf2, r_gdff, r_gdff2, r_gdft, r_gdft2, r_gdu, r_gdu2, pick_t, pick_f, ext_0, ext_1, x_newB, r_nil, r_fAddr, Nat.zero_add, b_lss, b_leq, b_gtr, b_geq, b_eql, b_neq, u_not, Bool.not_true, Bool.not_false, oneOf_one, oneOf_two, again_normal, again_exit, again_ret, Bool.and_true, e]
    rw [f26_e0_0_eq]
    unfold f26_e0_0
    rw [List.take_of_length_le (Nat.le_refl _), List.take_of_length_le (by omega)] at hwr
    refine ⟨H1, .slice (some ⟨ob, 0, none⟩) hs.length hs.length, rfl, he, hwr.rows (.inr ⟨ob, 0, hs.length, by rw [hul], by omega, fun _ => ⟨24, .row, [], [], rfl, fun _ => rfl, ?_⟩⟩)⟩
    rw [ho.blk]; simp
  | succ q ih =>
    intro i k H1 us hr hi hk2 he ho hul hwr
    intros
    obtain ⟨k, rfl⟩ : ∃ n, k = n + 1 := ⟨k - 1, by omega⟩
    have e : decide ((i : Int) < (hs.length : Int)) = true := decide_eq_true (by omega)
    have e3 : IntKind.i64.wrap ((i : Int) + 1) = ((i + 1 : Nat) : Int) := by rw [wrap_i64 (by omega) (by omega)]; omega
    obtain ⟨h, hh⟩ : ∃ h, hs[i]? = some h := ⟨_, List.getElem?_eq_getElem (by omega)⟩
    obtain ⟨b, o, g1, _, g3⟩ := (hu.ext he).at_ edC_len hh .i64
    have g4 : ldN 2 (.pointer (some ⟨b, o, none⟩)) H1 = some (edV h, H1) := (g3 H1 rfl).1
    obtain ⟨H2, hH2⟩ : ∃ H2, H2 = H1 ++ [hpB h] := ⟨_, rfl⟩
    have x2 : Ext H1 H2 := by rw [hH2]; exact Fr.app _ _ _
    have b2 : H2[H1.length]? = some (hpB h) := by rw [hH2]; exact at_last _ _
    have st : stN 2 (.pointer (some ⟨H1.length, 0, none⟩)) (edV h) (H1 ++ [.cells [.int .i64 0, .int .i64 0] 38 .fix]) = some (undef, H2) := by
      rw [x_stN 2 _ _ _ rfl, at_last, x_stC _ _ _ _ _ _ (by decide) (by show 0 + 2 ≤ 2; omega) rfl, hH2]
      simp [setCells, edV, edC, Value.cells, hpB]
    have l11 := ld_pl11 (ld_of hb0 (he.tr x2))
    have l2 := ld_hp2 b2
    obtain ⟨H3, r, g5, x3, g6, g7⟩ := after_is hk (hin h (List.mem_of_getElem? hh)) (hp.ext (he.tr x2)) (hu.ext (he.tr x2)) hsl hnd (m := m) (by omega) (by omega)
    have x13 : Ext H1 H3 := x2.tr x3
    have ho3 : Own sC 24 H3 (.slice (some ⟨ob, 0, none⟩) hs.length hs.length) ob us := ⟨ho.val, by rw [x13.2 ob (List.getElem?_eq_some_iff.mp ho.blk).1 id]; exact ho.blk⟩
    have ga := ho3.at_ 1 i .i64 (by omega)
    obtain ⟨s1, s2⟩ := ho3.st (sz := 1) sC_len sC_all (i := i) (by omega) (svOf g6)
    have st2 : stN 1 (.pointer (some ⟨ob, i * 1, none⟩)) r H3 = some (undef, H3.set ob (.cells ((us.set i (svOf g6)).map sC).flatten 24 .row)) := by
      have hcl : r.cells.toList = sC (svOf g6) := by
        have := (svOf g6).2.2
        show r.cells.toList = [r]
        rw [show r.cells = #[r] from this]
      rw [x_stN 1 _ _ _ (by rw [hcl]; rfl), hcl]
      exact s1
    rw [loop_succ, f26_b0_eq]
    unfold f26_b0
    simp -implicitDefEqProofs only [r_opt, r_ret, ob_some, ifB_true, iteV_true, iteV_false, r_gdt, r_gdt2, r_gdtf, r_gdtf2, r_gdff, r_gdff2, r_gdft, r_gdft2, r_gdu, r_gdu2, pick_t, pick_f, ext_0, ext_1, x_newB, r_nil, r_fAddr, Nat.zero_add, b_lss, b_leq, b_gtr, b_geq, b_eql, b_neq, u_not, Bool.not_true, Bool.not_false, oneOf_one, oneOf_two, again_normal, again_exit, again_ret, Bool.and_true, e, g1, g4, st, l11, l2, g5, ga, st2, b_add, e3]
    obtain ⟨H4, hH4⟩ : ∃ H4, H4 = H3.set ob (.cells ((us.set i (svOf g6)).map sC).flatten 24 .row) := ⟨_, rfl⟩
    rw [← hH4] at s2 ⊢
    have x04 : Ext H0 H4 := by rw [hH4]; exact set_ext (he.tr x13) (by omega)
    have kp : ∀ (b : Nat) (cs : List Value), H3[b]? = some (.cells cs 3 .row) → H4[b]? = H3[b]? := fun b cs hb => by
      rw [hH4]
      refine List.getElem?_set_ne fun hh => ?_
      subst hh
      rw [ho3.blk] at hb
      simp at hb
    have w3 : WR H3 (us.take i) ((hs.take i).map (wrow p n hs)) := hwr.keep fun b cs hb => by rw [x13.2 b (List.getElem?_eq_some_iff.mp hb).1 id]
    have w4 := (w3.push (s := svOf g6) g6).keep kp
    refine ih (i + 1) k H4 (us.set i (svOf g6)) (by omega) (by omega) (by omega) x04 s2 (by simp [hul]) ?_ ..
    have e1 : (us.set i (svOf g6)).take (i + 1) = us.take i ++ [svOf g6] := by
      rw [List.take_add_one, List.getElem?_set_self (by omega), List.take_set_of_le (Nat.le_refl _)]
      rfl
    have e2 : (hs.take (i + 1)).map (wrow p n hs) = (hs.take i).map (wrow p n hs) ++ [wrow p n hs h] := by
      rw [List.take_add_one, hh, List.map_append]
      rfl
    rw [e1, e2]
    exact w4
theorem Waits_is (hp : PV H p ev wv nv) (hm : 17592186045200 < m) (hm2 : m ≤ 72057594037927936) :
    ∃ H' r, lvl Try.prog pk12 m (.func 26) [plV p ev wv nv] H = some (r, H') ∧ Ext H H' ∧ Rows H' r (waitsL p) := by
  obtain ⟨H0, hH0⟩ : ∃ H0, H0 = H ++ [plB p ev wv nv] := ⟨_, rfl⟩
  have x0 : Ext H H0 := by rw [hH0]; exact Fr.app _ _ _
  have b0 : H0[H.length]? = some (plB p ev wv nv) := by rw [hH0]; exact at_last _ _
  have p0 := hp.ext x0
  have l11 := ld_pl11 b0
  obtain ⟨H1, g1, x1⟩ := check_is p0 (m := m - 1) (by omega) (by omega)
  have b1 := ld_of b0 x1
  have p1 := p0.ext x1
  have l12 := ld_pl11 b1
  refine lvl_ex (pk_no rfl rfl) (by omega) ?_
  rw [f26_eq]
  unfold f26
  cases hc : checkOk p with
  | false =>
    rw [hc] at g1
    have en : (errno false != 0) = true := rfl
    have e : waitsL p = [] := by unfold waitsL; rw [if_neg (by simp [hc])]
    simp -implicitDefEqProofs only [r_opt, r_ret, ob_some, ifB_true, iteV_true, iteV_false, r_gdt, r_gdt2, r_gdtf, r_gdtf2, r_gdff, r_gdff2, r_gdft, r_gdft2, r_gdu, r_gdu2, pick_t, pick_f, ext_0, ext_1, x_newB, r_nil, r_fAddr, Nat.zero_add, b_lss, b_leq, b_gtr, b_geq, b_eql, b_neq, u_not, Bool.not_true, Bool.not_false, oneOf_one, oneOf_two, again_normal, again_exit, again_ret, Bool.and_true, plV_cells, ← hH0, l11, g1, en]
    exact ⟨H1, _, rfl, x0.tr x1, by rw [e]; exact ⟨[], .inl ⟨rfl, rfl⟩, rfl, fun i u xs h => by simp at h⟩⟩
  | true =>
    rw [hc] at g1
    have en : (errno true != 0) = false := rfl
    obtain ⟨n, hk⟩ := ok_of hc
    have h15 := hk.e15
    obtain ⟨H2, u, g2, x2, q2, _⟩ := hops_is p1 (m := m - 1) (by omega) (by omega)
    have hlen := q2.len
    have hhl := hops_len p
    have mk := x_mkSlice (H := H2) 24 1 24 [.slice none 0 0] .i64 .i64 ((hopsOf p).length : Int) (by omega) (by omega) (by omega) rfl
    simp only [Int.toNat_natCast] at mk
    have e : waitsL p = (hopsOf p).map (wrow p n (hopsOf p)) := by unfold waitsL; rw [if_pos hc, hk.hn]; rfl
    have hfl : (List.replicate (hopsOf p).length [Value.slice none 0 0]).flatten = ((List.replicate (hopsOf p).length nilSV).map sC).flatten := by rw [List.map_replicate]; rfl
    simp -implicitDefEqProofs only [r_opt, r_ret, ob_some, ifB_true, iteV_true, iteV_false, r_gdt, r_gdt2, r_gdtf, r_gdtf2, r_gdff, r_gdff2, r_gdft, r_gdft2, r_gdu, r_gdu2, pick_t, pick_f, ext_0, ext_1, x_newB, r_nil, r_fAddr, Nat.zero_add, b_lss, b_leq, b_gtr, b_geq, b_eql, b_neq, u_not, Bool.not_true, Bool.not_false, oneOf_one, oneOf_two, again_normal, again_exit, again_ret, Bool.and_true, plV_cells, ← hH0, l11, g1, en, l12, g2, hlen, mk]
    rw [e, hfl]
    have hx : Ext H2 (H2 ++ [Blk.cells ((List.replicate (hopsOf p).length nilSV).map sC).flatten 24 .row]) := Fr.app _ _ _
    exact Exists.imp (fun H' h => Exists.imp (fun r h => ⟨h.1, ((x0.tr x1).tr x2).tr h.2.1, h.2.2⟩) h) (Waits_loop hk (fun h hh => hops_in hk hh) (by omega) (hops_nd hk).1 (m := m - 1) (by omega) (by omega) (p1.ext x2) (ld_of b1 x2) q2.rs rfl (hopsOf p).length 0 (m - 1) _ (List.replicate (hopsOf p).length nilSV) (by omega) (by omega) (by omega) hx ⟨by simp, at_last _ _⟩ (by simp) ⟨by simp, fun j s xs h => by simp at h⟩ ..)
end
end Go.Proofs.Ytdobnaldfmpimaa

set_option linter.unusedSectionVars false
set_option linter.unusedSimpArgs false
set_option linter.unusedVariables false
set_option maxRecDepth 100000
namespace Go.Proofs.Ytdobnaldfmpimaa
open Go.Abs
section
variable {H : Heap} {m : Nat} {p : PlanD} {ev wv nv : Value}
theorem waits_inn (p : PlanD) : Inn (waitsL p) := by
  unfold waitsL
  split
  · intro r hr z hz
    obtain ⟨h, hh, rfl⟩ := List.mem_map.mp hr
    rw [List.length_map]
    obtain ⟨k, b, rfl, h1, _⟩ := wrow_mem.mp hz
    have := (List.getElem?_eq_some_iff.mp h1).1
    omega
  · intro r hr; cases hr
theorem waits_len (p : PlanD) : (waitsL p).length ≤ 36 := by
  unfold waitsL
  split
  · rw [List.length_map]; exact hops_len p
  · simp
theorem waits_row (p : PlanD) : ∀ r ∈ waitsL p, r.length ≤ 36 := by
  unfold waitsL
  split
  · intro r hr
    obtain ⟨h, hh, rfl⟩ := List.mem_map.mp hr
    unfold wrow
    rw [List.length_map]
    have := hops_len p
    exact Nat.le_trans (List.length_filter_le _ _) (by rw [List.length_range]; exact this)
  · intro r hr; cases hr
end
end Go.Proofs.Ytdobnaldfmpimaa
