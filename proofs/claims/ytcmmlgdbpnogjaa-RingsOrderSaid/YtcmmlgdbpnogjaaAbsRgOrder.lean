/-
  RingsOrder answers true.
-/
import Derived.Test.YtcmmlgdbpnogjaaAbsRgRoom
set_option linter.unusedSectionVars false
set_option linter.unusedSimpArgs false
set_option linter.unusedVariables false
set_option maxRecDepth 100000
namespace Go.Proofs.Ytcmmlgdbpnogjaa
open Go.Abs

def mkP (u : Int) : Pkt := ⟨0, 0, 0, u⟩
theorem bldP (u : Int) : bld Try.prog 50 [(3, .int .u32 u)] = some (mkP u).val := rfl
def u32c (u : Int) : List Value := [.int .u32 u]
abbrev w221 : Way := (2, 2, 1)

structure Us (H : Heap) (v : Value) (b : Nat) (us : List Int) : Prop where
  sl : Sl H v 1 b (us.map u32c)
theorem Us.ch {A : Blk → Prop} {H H' : Heap} {v : Value} {b : Nat} {us : List Int} (h : Us H v b us) (hc : Ch A H H') (hA : ∀ cs e, ¬ A (.cells cs e .ro)) : Us H' v b us := ⟨Sl.ch h.sl hc hA⟩
theorem Us.len {H : Heap} {v : Value} {b : Nat} {us : List Int} (h : Us H v b us) : lenSl v = some (.int .i64 us.length) := by
  have := h.sl.len
  rw [List.length_map] at this
  exact this
theorem Us.of_rp {G : Heap} {n : Nat} {u : Value} (h : Rp Try.prog G n 68 [u]) : ∃ b us, Us G u b us := by
  obtain ⟨m, u', b, rows, h0, hs, hf, hsh, hr⟩ := h.slice (e := 48) (by kernel_rfl)
  cases h0
  have c1 : Try.prog.cellsOf 48 = 1 := by kernel_rfl
  rw [c1] at hs hr
  have hb : ∃ us : List Int, rows = us.map u32c := by
    clear hs hf hsh
    induction rows with
    | nil => exact ⟨[], rfl⟩
    | cons r rows ih =>
      obtain ⟨us, hus⟩ := ih fun r hr' => hr r (by simp [hr'])
      obtain ⟨hl, hi⟩ := hr r (by simp)
      obtain ⟨i, rfl, _⟩ := hi.int (k := .u32) (by kernel_rfl)
      exact ⟨i :: us, by rw [List.map_cons, hus]; rfl⟩
  obtain ⟨us, rfl⟩ := hb
  exact ⟨b, us, ⟨hs⟩⟩

theorem st_opO (H : Heap) (y : ROp) : stN 1 (.pointer (some ⟨H.length, 2, none⟩)) (.int .i64 1) (H ++ [opB y]) = some (undef, H ++ [opB { y with o := 1 }]) := by
  rw [x_stN 1 _ _ _ rfl, x_last]
  unfold opB
  rw [x_stC _ _ _ _ _ _ (by decide) (by simp [ROp.len, Value.cells]) rfl, set_last]
  rfl

section
variable {v u : Value} {b c : Nat} {xs : List ROp} {us : List Int} {a n m : Nat}

theorem order_loop1 (hm : 500 ≤ m) (hu40 : us.length ≤ 40) : ∀ (r i k : Nat) (H : Heap) (L : List En), us.length - i = r → i ≤ us.length → r < k → Us H u c us → IsRings H a L 150 3 2 → pkOf L w221 = (us.drop i).map mkP → ∀ (x0 x2 x3 x6 x7 x8 x10 x11 x12 x13 x14 x15 x16 x17 x18 x19 x20 x21 x22 x23 x24 x25 x26 x27 x28 x29 x30 x31 x32 x33 x34 x35 x36 x37 x38 x39 x40 x41 x42 x43 x44 x45 x46 x47 x48 x49 x50 x51 x52 x53 x54 x55 x56 x57 x58 x59 x60 x61 x62 x63 x64 x65 x66 x67 x68 x69 x70 x71 x72 x73 x74 x75 x76 x77 x78 x79 x80 x81 x82 x83 x84 x85 x86 x87 x88 x89 x90 x91 x92 x93 x94 x95 x96 x97 x98 x99 x100 x101 x102 x103 x104 x105 x106 x107 x108 x109 x110 x111 x112 x113 x114 : Value),
    ∃ H', loopN k (runCode Try.prog (lvl Try.prog pk8 m) (loopN m) f13_c1) (f13_k1 (lvl Try.prog pk8 m) (loopN m)) [x0, u, x2, x3, (.bool false), (.pointer (some ⟨a, 0, none⟩)), x6, x7, x8, (.int .i64 (i : Nat)), x10, x11, x12, x13, x14, x15, x16, x17, x18, x19, x20, x21, x22, x23, x24, x25, x26, x27, x28, x29, x30, x31, x32, x33, x34, x35, x36, x37, x38, x39, x40, x41, x42, x43, x44, x45, x46, x47, x48, x49, x50, x51, x52, x53, x54, x55, x56, x57, x58, x59, x60, x61, x62, x63, x64, x65, x66, x67, x68, x69, x70, x71, x72, x73, x74, x75, x76, x77, x78, x79, x80, x81, x82, x83, x84, x85, x86, x87, x88, x89, x90, x91, x92, x93, x94, x95, x96, x97, x98, x99, x100, x101, x102, x103, x104, x105, x106, x107, x108, x109, x110, x111, x112, x113, x114] H = some (.bool true, H') := by
  intro r
  induction r with
  | zero =>
    intro i k H L hr hi hk hU hR hL
    intros
    obtain ⟨k, rfl⟩ : ∃ n, k = n + 1 := ⟨k - 1, by omega⟩
    obtain rfl : i = us.length := by omega
    have hlen := hU.len
    have e : decide ((us.length : Int) < us.length) = false := by simp
    have t1 := rgLen_is hR (m := m) (by omega) 2 2 1
    rw [qp_len, hL, List.drop_length] at t1
    have e1 : (((([] : List Int).map mkP).length : Int) == 0) = true := rfl
    refine ⟨H, ?_⟩
    rw [loop_succ, f13_b1_eq]
    unfold f13_b1
    simp -implicitDefEqProofs only [hlen, b_lss, e, r_opt, ob_some, iteV_false, again_exit]
    rw [f13_e1_2_eq]
    unfold f13_e1_2
    simp -implicitDefEqProofs only [t1, b_eql, e1, r_opt, ob_some, oneOf_one]
  | succ r ih =>
    intro i k H L hr hi hk hU hR hL
    intros
    obtain ⟨k, rfl⟩ : ∃ n, k = n + 1 := ⟨k - 1, by omega⟩
    have hlen := hU.len
    have e : decide ((i : Int) < us.length) = true := by simp; omega
    have e3 : IntKind.i64.wrap ((i : Int) + 1) = ((i + 1 : Nat) : Int) := by rw [wrap_i64 (by omega) (by omega)]; omega
    obtain ⟨y, hy⟩ : ∃ y, us[i]? = some y := ⟨us[i], List.getElem?_eq_getElem (by omega)⟩
    have hd : us.drop i = y :: us.drop (i + 1) := by
      rw [← List.getElem_cons_drop (h := by omega)]
      congr 1
      exact (List.getElem?_eq_some_iff.mp hy).2
    rw [hd, List.map_cons] at hL
    obtain ⟨H1, p1, p2, p3⟩ := pop_any hR (m := m) (by omega) w221
    rw [hL] at p1
    have hv : headV (mkP y :: (us.drop (i + 1)).map mkP) = .tuple #[(mkP y).val, .bool true] := rfl
    rw [hv] at p1
    have p1' : lvl Try.prog pk8 m (.func 35) [.pointer (some ⟨a, 0, none⟩), .int .i64 2, .int .i64 2, .int .i64 1] H = some (.tuple #[(mkP y).val, .bool true], H1) := p1
    have s1 : stN 4 (.pointer (some ⟨H1.length, 0, none⟩)) (mkP y).val (H1 ++ [pkB pk0]) = some (undef, H1 ++ [pkB (mkP y)]) := st_pk0 H1 _
    have l3 : ld1 (.pointer (some ⟨H1.length, 3, none⟩)) (H1 ++ [pkB (mkP y)]) = some (.int .u32 y, H1 ++ [pkB (mkP y)]) := by rw [x_ld1, x_last]; rfl
    have c2 : Ch AR H (H1 ++ [pkB (mkP y)]) := p2.trans (Ch.app _ _ _)
    have hU2 := hU.ch c2 nA_ro
    have hat := hU2.sl.at_ i .i64 (by rw [List.length_map]; omega)
    have hld := hU2.sl.ld1 (el := u32c) (fun _ => rfl) (j := 0) hy rfl
    rw [Nat.add_zero] at hld
    have e4 : (y != y) = false := by simp
    rw [loop_succ, f13_b1_eq]
    unfold f13_b1
    simp -implicitDefEqProofs only [hlen, b_lss, e, r_opt, r_ret, ob_some, ifB_true, iteV_true, p1', ext_0, ext_1, pkB_zero, x_newB, s1, u_not, Bool.not_true, r_fAddr, Nat.zero_add, r_gdff, r_gdff2, l3, hat, hld, b_neq, e4, pick_f, iteV_false, b_add, e3, again_normal]
    exact ih (i + 1) k _ (popL L w221) (by omega) (by omega) (by omega) hU2 (p3.app _) (by rw [p_pop, if_pos rfl, hL]; rfl) ..

theorem p_other (L : List En) (w : Way) (k : Nat) (x : Pkt) (hw : w ≠ w221) : pkOf (L ++ [(w, k, x)]) w221 = pkOf L w221 := by rw [p_app, if_neg hw]
theorem p_other' (L : List En) (w : Way) (hw : w ≠ w221) : pkOf (popL L w) w221 = pkOf L w221 := by rw [p_pop, if_neg hw]
theorem near0 (i o : Int) : ((i, o, 0) : Way) ≠ w221 := by simp

set_option maxHeartbeats 2000000 in
theorem order_loop0 (hm : 500 ≤ m) (hx : xs.length ≤ 100) (hu40 : us.length ≤ 40) : ∀ (r i k : Nat) (H : Heap) (L : List En), (max xs.length us.length) - i = r → i ≤ max xs.length us.length → r < k → ROps H v b xs → Us H u c us → IsRings H a L 150 3 2 → L.length ≤ min i us.length + i → pkOf L w221 = (us.take i).map mkP → ∀ (x2 x3 x8 x9 x10 x11 x12 x13 x14 x15 x16 x17 x18 x19 x20 x21 x22 x23 x24 x25 x26 x27 x28 x29 x30 x31 x32 x33 x34 x35 x36 x37 x38 x39 x40 x41 x42 x43 x44 x45 x46 x47 x48 x49 x50 x51 x52 x53 x54 x55 x56 x57 x58 x59 x60 x61 x62 x63 x64 x65 x66 x67 x68 x69 x70 x71 x72 x73 x74 x75 x76 x77 x78 x79 x80 x81 x82 x83 x84 x85 x86 x87 x88 x89 x90 x91 x92 x93 x94 x95 x96 x97 x98 x99 x100 x101 x102 x103 x104 x105 x106 x107 x108 x109 x110 x111 x112 x113 x114 : Value),
    ∃ H', loopN k (runCode Try.prog (lvl Try.prog pk8 m) (loopN m) f13_c0) (f13_k0 (lvl Try.prog pk8 m) (loopN m)) [v, u, x2, x3, (.bool false), (.pointer (some ⟨a, 0, none⟩)), (.int .i64 (min i us.length : Nat)), (.int .i64 (i : Nat)), x8, x9, x10, x11, x12, x13, x14, x15, x16, x17, x18, x19, x20, x21, x22, x23, x24, x25, x26, x27, x28, x29, x30, x31, x32, x33, x34, x35, x36, x37, x38, x39, x40, x41, x42, x43, x44, x45, x46, x47, x48, x49, x50, x51, x52, x53, x54, x55, x56, x57, x58, x59, x60, x61, x62, x63, x64, x65, x66, x67, x68, x69, x70, x71, x72, x73, x74, x75, x76, x77, x78, x79, x80, x81, x82, x83, x84, x85, x86, x87, x88, x89, x90, x91, x92, x93, x94, x95, x96, x97, x98, x99, x100, x101, x102, x103, x104, x105, x106, x107, x108, x109, x110, x111, x112, x113, x114] H = some (.bool true, H') := by
  intro r
  induction r with
  | zero =>
    intro i k H L hr hi hk hO hU hR hc hL
    intros
    obtain ⟨k, rfl⟩ : ∃ n, k = n + 1 := ⟨k - 1, by omega⟩
    obtain rfl : i = max xs.length us.length := by omega
    have hlen := hO.len
    have hlen2 := hU.len
    have hmin : min (max xs.length us.length) us.length = us.length := by omega
    rw [hmin]
    have e : decide (((max xs.length us.length : Nat) : Int) < xs.length) = false := decide_eq_false (by omega)
    have e2 : decide ((us.length : Int) < us.length) = false := by simp
    rw [List.take_of_length_le (by omega)] at hL
    rw [loop_succ, f13_b0_eq]
    unfold f13_b0
    simp -implicitDefEqProofs only [hlen, hlen2, b_lss, e, e2, r_opt, r_ret, ob_some, r_gdff, r_gdff2, pick_f, iteV_false, again_exit]
    rw [f13_e0_0_eq]
    unfold f13_e0_0
    exact order_loop1 hm hu40 us.length 0 m H L (by omega) (by omega) (by omega) hU hR (by simpa using hL) ..
  | succ r ih =>
    intro i k H L hr hi hk hO hU hR hc hL
    intros
    obtain ⟨k, rfl⟩ : ∃ n, k = n + 1 := ⟨k - 1, by omega⟩
    have hlen := hO.len
    have hlen2 := hU.len
    have e3 : IntKind.i64.wrap ((i : Int) + 1) = ((i + 1 : Nat) : Int) := by rw [wrap_i64 (by omega) (by omega)]; omega
    have r6 : ∀ t : Nat, bin Try.prog .rem 5 (.int .u8 t) (.int .u8 6) = some (.int .u8 (t % 6 : Nat)) := fun t => by
      rw [b_rem _ _ _ _ (by omega), Int.tmod_eq_emod_of_nonneg (by omega)]
      congr 2
    rw [loop_succ, f13_b0_eq]
    unfold f13_b0
    by_cases hkk : i < us.length
    · have hmin : min i us.length = i := by omega
      have hmin' : min (i + 1) us.length = i + 1 := by omega
      rw [hmin] at hc ⊢
      have e5 : decide ((i : Int) < us.length) = true := decide_eq_true (by omega)
      obtain ⟨y0, hy0⟩ : ∃ y, us[i]? = some y := ⟨us[i], List.getElem?_eq_getElem hkk⟩
      have uat := hU.sl.at_ i .i64 (by rw [List.length_map]; omega)
      have uld := hU.sl.ld1 (el := u32c) (fun _ => rfl) (j := 0) hy0 rfl
      rw [Nat.add_zero] at uld
      obtain ⟨H0, kk, g1, g2, g3⟩ := rgPush_yes hR (m := m) (by omega) w221 (mkP y0) (by decide) (by omega)
      have g1' : lvl Try.prog pk8 m (.func 33) [.pointer (some ⟨a, 0, none⟩), .int .i64 2, .int .i64 2, .int .i64 1, (mkP y0).val] H = some (.bool true, H0) := g1
      have hO0 := hO.ch g2 nA_ro
      have hU0 := hU.ch g2 nA_ro
      have hlen0 := hO0.len
      have hp0 : pkOf (L ++ [(w221, kk, mkP y0)]) w221 = (us.take (i + 1)).map mkP := by
        rw [p_app, if_pos rfl, hL, List.take_add_one, hy0]
        simp
      have hc0 : (L ++ [(w221, kk, mkP y0)]).length ≤ (i + 1) + i := by simp; omega
      obtain ⟨L0, hL0⟩ : ∃ L0, L0 = L ++ [(w221, kk, mkP y0)] := ⟨_, rfl⟩
      rw [← hL0] at g3 hp0 hc0
      by_cases hil : i < xs.length
      · have e : decide ((i : Int) < xs.length) = true := decide_eq_true (by omega)
        obtain ⟨y, hy⟩ : ∃ y, xs[i]? = some y := ⟨xs[i], List.getElem?_eq_getElem hil⟩
        have hat := hO0.sl.at_ i .i64 (by rw [List.length_map]; omega)
        have hld := hO0.sl.ldN (el := ROp.cells) ROp.len hy
        have hval : Value.agg ⟨y.cells⟩ = y.val := rfl
        rw [hval] at hld
        obtain ⟨hin, hkd⟩ := hO0.ok y (List.mem_of_getElem? hy)
        have hnr := near_is (H := H0) (m := m) (by omega) y hin
        obtain ⟨t, ht⟩ : ∃ t, t = nearO y := ⟨_, rfl⟩
        rw [← ht] at hnr
        obtain ⟨H1, hH1⟩ : ∃ H1, H1 = H0 ++ [opB t] ++ [opB t] := ⟨_, rfl⟩
        rw [← hH1] at hnr
        have hst := st_op0 H1 t
        have hRt : ∀ B : Blk, IsRings (H1 ++ [B]) a L0 150 3 2 := fun B => by rw [hH1]; exact ((g3.app _).app _).app _
        have hCt : ∀ B : Blk, Ch AR H0 (H1 ++ [B]) := fun B => by rw [hH1, List.append_assoc, List.append_assoc]; exact Ch.app _ _ _
        have f1 := ld_opj (H := H1 ++ [opB t]) (b := H1.length) (y := t) (by simp) 1 _ rfl
        have f2 := ld_opj (H := H1 ++ [opB t]) (b := H1.length) (y := t) (by simp) 2 _ rfl
        have hso := st_opO H1 t
        have fin : ∀ (s : ROp) (H6 : Heap) (L6 : List En), Ch AR (H1 ++ [opB s]) H6 → IsRings H6 a L6 150 3 2 → L6.length ≤ (i + 1) + i + 1 → pkOf L6 w221 = (us.take (i + 1)).map mkP → ROps H6 v b xs ∧ Us H6 u c us ∧ IsRings H6 a L6 150 3 2 ∧ L6.length ≤ min (i + 1) us.length + (i + 1) ∧ pkOf L6 w221 = (us.take (i + 1)).map mkP := fun s H6 L6 h1 h2 h3 h4 => ⟨(hO0.ch (hCt _) nA_ro).ch h1 nA_ro, (hU0.ch (hCt _) nA_ro).ch h1 nA_ro, h2, by rw [hmin']; omega, h4⟩
        by_cases c1 : t.i = 2
        · have d1 : (t.i == 2) = true := by simp [c1]
          by_cases c2 : t.o = 2
          · have d2 : (t.o == 2) = true := by simp [c2]
            have f0 := ld_opj (H := H1 ++ [opB { t with o := 1 }]) (b := H1.length) (y := { t with o := 1 }) (by simp) 0 _ rfl
            have f1' := ld_opj (H := H1 ++ [opB { t with o := 1 }]) (b := H1.length) (y := { t with o := 1 }) (by simp) 1 _ rfl
            have f2' := ld_opj (H := H1 ++ [opB { t with o := 1 }]) (b := H1.length) (y := { t with o := 1 }) (by simp) 2 _ rfl
            have f5 := ld_opx (H := H1 ++ [opB { t with o := 1 }]) (b := H1.length) (y := { t with o := 1 }) (by simp)
            by_cases hp : t.kind % 6 < 3
            · have e4 : decide (((t.kind % 6 : Nat) : Int) < 3) = true := decide_eq_true (by omega)
              obtain ⟨H6, L6, p1, p2, p3, p4⟩ := push_any (hRt (opB { t with o := 1 })) (m := m) (by omega) (({ t with o := 1 }).i, ({ t with o := 1 }).o, 0) ({ t with o := 1 }).x
              simp only at p1
              obtain ⟨q1, q2, q3, q4, q5⟩ := fin { t with o := 1 } H6 L6 p2 p3 (by rcases p4 with ⟨_, kq, rfl⟩ | ⟨_, rfl⟩ <;> (try simp only [List.length_append, List.length_cons, List.length_nil]) <;> omega) (by rcases p4 with ⟨_, kq, rfl⟩ | ⟨_, rfl⟩ <;> first | (rw [p_other _ _ _ _ (near0 _ _), hp0]) | exact hp0)
              simp -implicitDefEqProofs only [hlen, hlen0, hlen2, b_lss, e, e5, r_opt, r_ret, ob_some, r_gdt, r_gdt2, r_gdtf, r_gdtf2, r_gdff, r_gdff2, r_gdu, r_gdu2, pick_t, pick_f, iteV_true, uat, uld, bldP, g1', u_not, Bool.not_true, iteV_false, hat, hld, hnr, zOp, x_newB, hst, r_fAddr, Nat.zero_add, f1, f2, b_eql, d1, d2, hso, f0, f1', f2', f5, r6, e4, p1, b_add, e3, again_normal]
              have := ih (i + 1) k H6 L6 (by omega) (by omega) (by omega) q1 q2 q3 q4 q5
              rw [hmin'] at this
              exact this ..
            · have e4 : decide (((t.kind % 6 : Nat) : Int) < 3) = false := decide_eq_false (by omega)
              obtain ⟨H6, p1, p2, p3⟩ := pop_any (hRt (opB { t with o := 1 })) (m := m) (by omega) (({ t with o := 1 }).i, ({ t with o := 1 }).o, 0)
              simp only at p1
              obtain ⟨q1, q2, q3, q4, q5⟩ := fin { t with o := 1 } H6 _ p2 p3 (by have := (pop_len L0 (({ t with o := 1 }).i, ({ t with o := 1 }).o, 0)).1; omega) (by rw [p_other' _ _ (near0 _ _), hp0])
              simp -implicitDefEqProofs only [hlen, hlen0, hlen2, b_lss, e, e5, r_opt, r_ret, ob_some, r_gdt, r_gdt2, r_gdtf, r_gdtf2, r_gdff, r_gdff2, r_gdu, r_gdu2, pick_t, pick_f, iteV_true, uat, uld, bldP, g1', u_not, Bool.not_true, iteV_false, hat, hld, hnr, zOp, x_newB, hst, r_fAddr, Nat.zero_add, f1, f2, b_eql, d1, d2, hso, f0, f1', f2', f5, r6, e4, p1, b_add, e3, again_normal]
              have := ih (i + 1) k H6 _ (by omega) (by omega) (by omega) q1 q2 q3 q4 q5
              rw [hmin'] at this
              exact this ..
          · have d2 : (t.o == 2) = false := by simp [c2]
            have f0 := ld_opj (H := H1 ++ [opB t]) (b := H1.length) (y := t) (by simp) 0 _ rfl
            have f1' := ld_opj (H := H1 ++ [opB t]) (b := H1.length) (y := t) (by simp) 1 _ rfl
            have f2' := ld_opj (H := H1 ++ [opB t]) (b := H1.length) (y := t) (by simp) 2 _ rfl
            have f5 := ld_opx (H := H1 ++ [opB t]) (b := H1.length) (y := t) (by simp)
            by_cases hp : t.kind % 6 < 3
            · have e4 : decide (((t.kind % 6 : Nat) : Int) < 3) = true := decide_eq_true (by omega)
              obtain ⟨H6, L6, p1, p2, p3, p4⟩ := push_any (hRt (opB t)) (m := m) (by omega) ((t).i, (t).o, 0) (t).x
              simp only at p1
              obtain ⟨q1, q2, q3, q4, q5⟩ := fin t H6 L6 p2 p3 (by rcases p4 with ⟨_, kq, rfl⟩ | ⟨_, rfl⟩ <;> (try simp only [List.length_append, List.length_cons, List.length_nil]) <;> omega) (by rcases p4 with ⟨_, kq, rfl⟩ | ⟨_, rfl⟩ <;> first | (rw [p_other _ _ _ _ (near0 _ _), hp0]) | exact hp0)
              simp -implicitDefEqProofs only [hlen, hlen0, hlen2, b_lss, e, e5, r_opt, r_ret, ob_some, r_gdt, r_gdt2, r_gdtf, r_gdtf2, r_gdff, r_gdff2, r_gdu, r_gdu2, pick_t, pick_f, iteV_true, uat, uld, bldP, g1', u_not, Bool.not_true, iteV_false, hat, hld, hnr, zOp, x_newB, hst, r_fAddr, Nat.zero_add, f1, f2, b_eql, d1, d2, f0, f1', f2', f5, r6, e4, p1, b_add, e3, again_normal]
              have := ih (i + 1) k H6 L6 (by omega) (by omega) (by omega) q1 q2 q3 q4 q5
              rw [hmin'] at this
              exact this ..
            · have e4 : decide (((t.kind % 6 : Nat) : Int) < 3) = false := decide_eq_false (by omega)
              obtain ⟨H6, p1, p2, p3⟩ := pop_any (hRt (opB t)) (m := m) (by omega) ((t).i, (t).o, 0)
              simp only at p1
              obtain ⟨q1, q2, q3, q4, q5⟩ := fin t H6 _ p2 p3 (by have := (pop_len L0 ((t).i, (t).o, 0)).1; omega) (by rw [p_other' _ _ (near0 _ _), hp0])
              simp -implicitDefEqProofs only [hlen, hlen0, hlen2, b_lss, e, e5, r_opt, r_ret, ob_some, r_gdt, r_gdt2, r_gdtf, r_gdtf2, r_gdff, r_gdff2, r_gdu, r_gdu2, pick_t, pick_f, iteV_true, uat, uld, bldP, g1', u_not, Bool.not_true, iteV_false, hat, hld, hnr, zOp, x_newB, hst, r_fAddr, Nat.zero_add, f1, f2, b_eql, d1, d2, f0, f1', f2', f5, r6, e4, p1, b_add, e3, again_normal]
              have := ih (i + 1) k H6 _ (by omega) (by omega) (by omega) q1 q2 q3 q4 q5
              rw [hmin'] at this
              exact this ..
        · have d1 : (t.i == 2) = false := by simp [c1]
          have f0 := ld_opj (H := H1 ++ [opB t]) (b := H1.length) (y := t) (by simp) 0 _ rfl
          have f1' := ld_opj (H := H1 ++ [opB t]) (b := H1.length) (y := t) (by simp) 1 _ rfl
          have f2' := ld_opj (H := H1 ++ [opB t]) (b := H1.length) (y := t) (by simp) 2 _ rfl
          have f5 := ld_opx (H := H1 ++ [opB t]) (b := H1.length) (y := t) (by simp)
          by_cases hp : t.kind % 6 < 3
          · have e4 : decide (((t.kind % 6 : Nat) : Int) < 3) = true := decide_eq_true (by omega)
            obtain ⟨H6, L6, p1, p2, p3, p4⟩ := push_any (hRt (opB t)) (m := m) (by omega) ((t).i, (t).o, 0) (t).x
            simp only at p1
            obtain ⟨q1, q2, q3, q4, q5⟩ := fin t H6 L6 p2 p3 (by rcases p4 with ⟨_, kq, rfl⟩ | ⟨_, rfl⟩ <;> (try simp only [List.length_append, List.length_cons, List.length_nil]) <;> omega) (by rcases p4 with ⟨_, kq, rfl⟩ | ⟨_, rfl⟩ <;> first | (rw [p_other _ _ _ _ (near0 _ _), hp0]) | exact hp0)
            simp -implicitDefEqProofs only [hlen, hlen0, hlen2, b_lss, e, e5, r_opt, r_ret, ob_some, r_gdt, r_gdt2, r_gdtf, r_gdtf2, r_gdff, r_gdff2, r_gdu, r_gdu2, pick_t, pick_f, iteV_true, uat, uld, bldP, g1', u_not, Bool.not_true, iteV_false, hat, hld, hnr, zOp, x_newB, hst, r_fAddr, Nat.zero_add, f1, f2, b_eql, d1, r_gdft, r_gdft2, f0, f1', f2', f5, r6, e4, p1, b_add, e3, again_normal]
            have := ih (i + 1) k H6 L6 (by omega) (by omega) (by omega) q1 q2 q3 q4 q5
            rw [hmin'] at this
            exact this ..
          · have e4 : decide (((t.kind % 6 : Nat) : Int) < 3) = false := decide_eq_false (by omega)
            obtain ⟨H6, p1, p2, p3⟩ := pop_any (hRt (opB t)) (m := m) (by omega) ((t).i, (t).o, 0)
            simp only at p1
            obtain ⟨q1, q2, q3, q4, q5⟩ := fin t H6 _ p2 p3 (by have := (pop_len L0 ((t).i, (t).o, 0)).1; omega) (by rw [p_other' _ _ (near0 _ _), hp0])
            simp -implicitDefEqProofs only [hlen, hlen0, hlen2, b_lss, e, e5, r_opt, r_ret, ob_some, r_gdt, r_gdt2, r_gdtf, r_gdtf2, r_gdff, r_gdff2, r_gdu, r_gdu2, pick_t, pick_f, iteV_true, uat, uld, bldP, g1', u_not, Bool.not_true, iteV_false, hat, hld, hnr, zOp, x_newB, hst, r_fAddr, Nat.zero_add, f1, f2, b_eql, d1, r_gdft, r_gdft2, f0, f1', f2', f5, r6, e4, p1, b_add, e3, again_normal]
            have := ih (i + 1) k H6 _ (by omega) (by omega) (by omega) q1 q2 q3 q4 q5
            rw [hmin'] at this
            exact this ..
      · have e : decide ((i : Int) < xs.length) = false := decide_eq_false (by omega)
        simp -implicitDefEqProofs only [hlen, hlen2, b_lss, e, e5, r_opt, r_ret, ob_some, r_gdff, r_gdff2, pick_f, iteV_true, uat, uld, bldP, g1', u_not, Bool.not_true, iteV_false, b_add, e3, again_normal]
        have := ih (i + 1) k H0 L0 (by omega) (by omega) (by omega) hO0 hU0 g3 (by omega) hp0
        rw [hmin'] at this
        exact this ..
    · have hmin : min i us.length = us.length := by omega
      have hmin' : min (i + 1) us.length = us.length := by omega
      rw [hmin] at hc ⊢
      have hil : i < xs.length := by omega
      have e : decide ((i : Int) < xs.length) = true := decide_eq_true (by omega)
      have e5 : decide ((us.length : Int) < us.length) = false := by simp
      have hO0 := hO
      have hU0 := hU
      have g3 := hR
      have hp0 : pkOf L w221 = (us.take (i + 1)).map mkP := by
        rw [hL, List.take_of_length_le (by omega), List.take_of_length_le (by omega)]
      have hc0 : L.length ≤ us.length + i := hc
      obtain ⟨y, hy⟩ : ∃ y, xs[i]? = some y := ⟨xs[i], List.getElem?_eq_getElem hil⟩
      have hat := hO0.sl.at_ i .i64 (by rw [List.length_map]; omega)
      have hld := hO0.sl.ldN (el := ROp.cells) ROp.len hy
      have hval : Value.agg ⟨y.cells⟩ = y.val := rfl
      rw [hval] at hld
      obtain ⟨hin, hkd⟩ := hO0.ok y (List.mem_of_getElem? hy)
      have hnr := near_is (H := H) (m := m) (by omega) y hin
      obtain ⟨t, ht⟩ : ∃ t, t = nearO y := ⟨_, rfl⟩
      rw [← ht] at hnr
      obtain ⟨H1, hH1⟩ : ∃ H1, H1 = H ++ [opB t] ++ [opB t] := ⟨_, rfl⟩
      rw [← hH1] at hnr
      have hst := st_op0 H1 t
      have hRt : ∀ B : Blk, IsRings (H1 ++ [B]) a L 150 3 2 := fun B => by rw [hH1]; exact ((g3.app _).app _).app _
      have hCt : ∀ B : Blk, Ch AR H (H1 ++ [B]) := fun B => by rw [hH1, List.append_assoc, List.append_assoc]; exact Ch.app _ _ _
      have f1 := ld_opj (H := H1 ++ [opB t]) (b := H1.length) (y := t) (by simp) 1 _ rfl
      have f2 := ld_opj (H := H1 ++ [opB t]) (b := H1.length) (y := t) (by simp) 2 _ rfl
      have hso := st_opO H1 t
      have fin : ∀ (s : ROp) (H6 : Heap) (L6 : List En), Ch AR (H1 ++ [opB s]) H6 → IsRings H6 a L6 150 3 2 → L6.length ≤ us.length + i + 1 → pkOf L6 w221 = (us.take (i + 1)).map mkP → ROps H6 v b xs ∧ Us H6 u c us ∧ IsRings H6 a L6 150 3 2 ∧ L6.length ≤ min (i + 1) us.length + (i + 1) ∧ pkOf L6 w221 = (us.take (i + 1)).map mkP := fun s H6 L6 h1 h2 h3 h4 => ⟨(hO0.ch (hCt _) nA_ro).ch h1 nA_ro, (hU0.ch (hCt _) nA_ro).ch h1 nA_ro, h2, by rw [hmin']; omega, h4⟩
      by_cases c1 : t.i = 2
      · have d1 : (t.i == 2) = true := by simp [c1]
        by_cases c2 : t.o = 2
        · have d2 : (t.o == 2) = true := by simp [c2]
          have f0 := ld_opj (H := H1 ++ [opB { t with o := 1 }]) (b := H1.length) (y := { t with o := 1 }) (by simp) 0 _ rfl
          have f1' := ld_opj (H := H1 ++ [opB { t with o := 1 }]) (b := H1.length) (y := { t with o := 1 }) (by simp) 1 _ rfl
          have f2' := ld_opj (H := H1 ++ [opB { t with o := 1 }]) (b := H1.length) (y := { t with o := 1 }) (by simp) 2 _ rfl
          have f5 := ld_opx (H := H1 ++ [opB { t with o := 1 }]) (b := H1.length) (y := { t with o := 1 }) (by simp)
          by_cases hp : t.kind % 6 < 3
          · have e4 : decide (((t.kind % 6 : Nat) : Int) < 3) = true := decide_eq_true (by omega)
            obtain ⟨H6, L6, p1, p2, p3, p4⟩ := push_any (hRt (opB { t with o := 1 })) (m := m) (by omega) (({ t with o := 1 }).i, ({ t with o := 1 }).o, 0) ({ t with o := 1 }).x
            simp only at p1
            obtain ⟨q1, q2, q3, q4, q5⟩ := fin { t with o := 1 } H6 L6 p2 p3 (by rcases p4 with ⟨_, kq, rfl⟩ | ⟨_, rfl⟩ <;> (try simp only [List.length_append, List.length_cons, List.length_nil]) <;> omega) (by rcases p4 with ⟨_, kq, rfl⟩ | ⟨_, rfl⟩ <;> first | (rw [p_other _ _ _ _ (near0 _ _), hp0]) | exact hp0)
            simp -implicitDefEqProofs only [hlen, hlen2, b_lss, e, e5, r_opt, r_ret, ob_some, r_gdt, r_gdt2, r_gdtf, r_gdtf2, r_gdff, r_gdff2, r_gdu, r_gdu2, pick_t, pick_f, iteV_true, u_not, Bool.not_true, iteV_false, hat, hld, hnr, zOp, x_newB, hst, r_fAddr, Nat.zero_add, f1, f2, b_eql, d1, d2, hso, f0, f1', f2', f5, r6, e4, p1, b_add, e3, again_normal]
            have := ih (i + 1) k H6 L6 (by omega) (by omega) (by omega) q1 q2 q3 q4 q5
            rw [hmin'] at this
            exact this ..
          · have e4 : decide (((t.kind % 6 : Nat) : Int) < 3) = false := decide_eq_false (by omega)
            obtain ⟨H6, p1, p2, p3⟩ := pop_any (hRt (opB { t with o := 1 })) (m := m) (by omega) (({ t with o := 1 }).i, ({ t with o := 1 }).o, 0)
            simp only at p1
            obtain ⟨q1, q2, q3, q4, q5⟩ := fin { t with o := 1 } H6 _ p2 p3 (by have := (pop_len L (({ t with o := 1 }).i, ({ t with o := 1 }).o, 0)).1; omega) (by rw [p_other' _ _ (near0 _ _), hp0])
            simp -implicitDefEqProofs only [hlen, hlen2, b_lss, e, e5, r_opt, r_ret, ob_some, r_gdt, r_gdt2, r_gdtf, r_gdtf2, r_gdff, r_gdff2, r_gdu, r_gdu2, pick_t, pick_f, iteV_true, u_not, Bool.not_true, iteV_false, hat, hld, hnr, zOp, x_newB, hst, r_fAddr, Nat.zero_add, f1, f2, b_eql, d1, d2, hso, f0, f1', f2', f5, r6, e4, p1, b_add, e3, again_normal]
            have := ih (i + 1) k H6 _ (by omega) (by omega) (by omega) q1 q2 q3 q4 q5
            rw [hmin'] at this
            exact this ..
        · have d2 : (t.o == 2) = false := by simp [c2]
          have f0 := ld_opj (H := H1 ++ [opB t]) (b := H1.length) (y := t) (by simp) 0 _ rfl
          have f1' := ld_opj (H := H1 ++ [opB t]) (b := H1.length) (y := t) (by simp) 1 _ rfl
          have f2' := ld_opj (H := H1 ++ [opB t]) (b := H1.length) (y := t) (by simp) 2 _ rfl
          have f5 := ld_opx (H := H1 ++ [opB t]) (b := H1.length) (y := t) (by simp)
          by_cases hp : t.kind % 6 < 3
          · have e4 : decide (((t.kind % 6 : Nat) : Int) < 3) = true := decide_eq_true (by omega)
            obtain ⟨H6, L6, p1, p2, p3, p4⟩ := push_any (hRt (opB t)) (m := m) (by omega) ((t).i, (t).o, 0) (t).x
            simp only at p1
            obtain ⟨q1, q2, q3, q4, q5⟩ := fin t H6 L6 p2 p3 (by rcases p4 with ⟨_, kq, rfl⟩ | ⟨_, rfl⟩ <;> (try simp only [List.length_append, List.length_cons, List.length_nil]) <;> omega) (by rcases p4 with ⟨_, kq, rfl⟩ | ⟨_, rfl⟩ <;> first | (rw [p_other _ _ _ _ (near0 _ _), hp0]) | exact hp0)
            simp -implicitDefEqProofs only [hlen, hlen2, b_lss, e, e5, r_opt, r_ret, ob_some, r_gdt, r_gdt2, r_gdtf, r_gdtf2, r_gdff, r_gdff2, r_gdu, r_gdu2, pick_t, pick_f, iteV_true, u_not, Bool.not_true, iteV_false, hat, hld, hnr, zOp, x_newB, hst, r_fAddr, Nat.zero_add, f1, f2, b_eql, d1, d2, f0, f1', f2', f5, r6, e4, p1, b_add, e3, again_normal]
            have := ih (i + 1) k H6 L6 (by omega) (by omega) (by omega) q1 q2 q3 q4 q5
            rw [hmin'] at this
            exact this ..
          · have e4 : decide (((t.kind % 6 : Nat) : Int) < 3) = false := decide_eq_false (by omega)
            obtain ⟨H6, p1, p2, p3⟩ := pop_any (hRt (opB t)) (m := m) (by omega) ((t).i, (t).o, 0)
            simp only at p1
            obtain ⟨q1, q2, q3, q4, q5⟩ := fin t H6 _ p2 p3 (by have := (pop_len L ((t).i, (t).o, 0)).1; omega) (by rw [p_other' _ _ (near0 _ _), hp0])
            simp -implicitDefEqProofs only [hlen, hlen2, b_lss, e, e5, r_opt, r_ret, ob_some, r_gdt, r_gdt2, r_gdtf, r_gdtf2, r_gdff, r_gdff2, r_gdu, r_gdu2, pick_t, pick_f, iteV_true, u_not, Bool.not_true, iteV_false, hat, hld, hnr, zOp, x_newB, hst, r_fAddr, Nat.zero_add, f1, f2, b_eql, d1, d2, f0, f1', f2', f5, r6, e4, p1, b_add, e3, again_normal]
            have := ih (i + 1) k H6 _ (by omega) (by omega) (by omega) q1 q2 q3 q4 q5
            rw [hmin'] at this
            exact this ..
      · have d1 : (t.i == 2) = false := by simp [c1]
        have f0 := ld_opj (H := H1 ++ [opB t]) (b := H1.length) (y := t) (by simp) 0 _ rfl
        have f1' := ld_opj (H := H1 ++ [opB t]) (b := H1.length) (y := t) (by simp) 1 _ rfl
        have f2' := ld_opj (H := H1 ++ [opB t]) (b := H1.length) (y := t) (by simp) 2 _ rfl
        have f5 := ld_opx (H := H1 ++ [opB t]) (b := H1.length) (y := t) (by simp)
        by_cases hp : t.kind % 6 < 3
        · have e4 : decide (((t.kind % 6 : Nat) : Int) < 3) = true := decide_eq_true (by omega)
          obtain ⟨H6, L6, p1, p2, p3, p4⟩ := push_any (hRt (opB t)) (m := m) (by omega) ((t).i, (t).o, 0) (t).x
          simp only at p1
          obtain ⟨q1, q2, q3, q4, q5⟩ := fin t H6 L6 p2 p3 (by rcases p4 with ⟨_, kq, rfl⟩ | ⟨_, rfl⟩ <;> (try simp only [List.length_append, List.length_cons, List.length_nil]) <;> omega) (by rcases p4 with ⟨_, kq, rfl⟩ | ⟨_, rfl⟩ <;> first | (rw [p_other _ _ _ _ (near0 _ _), hp0]) | exact hp0)
          simp -implicitDefEqProofs only [hlen, hlen2, b_lss, e, e5, r_opt, r_ret, ob_some, r_gdt, r_gdt2, r_gdtf, r_gdtf2, r_gdff, r_gdff2, r_gdu, r_gdu2, pick_t, pick_f, iteV_true, u_not, Bool.not_true, iteV_false, hat, hld, hnr, zOp, x_newB, hst, r_fAddr, Nat.zero_add, f1, f2, b_eql, d1, r_gdft, r_gdft2, f0, f1', f2', f5, r6, e4, p1, b_add, e3, again_normal]
          have := ih (i + 1) k H6 L6 (by omega) (by omega) (by omega) q1 q2 q3 q4 q5
          rw [hmin'] at this
          exact this ..
        · have e4 : decide (((t.kind % 6 : Nat) : Int) < 3) = false := decide_eq_false (by omega)
          obtain ⟨H6, p1, p2, p3⟩ := pop_any (hRt (opB t)) (m := m) (by omega) ((t).i, (t).o, 0)
          simp only at p1
          obtain ⟨q1, q2, q3, q4, q5⟩ := fin t H6 _ p2 p3 (by have := (pop_len L ((t).i, (t).o, 0)).1; omega) (by rw [p_other' _ _ (near0 _ _), hp0])
          simp -implicitDefEqProofs only [hlen, hlen2, b_lss, e, e5, r_opt, r_ret, ob_some, r_gdt, r_gdt2, r_gdtf, r_gdtf2, r_gdff, r_gdff2, r_gdu, r_gdu2, pick_t, pick_f, iteV_true, u_not, Bool.not_true, iteV_false, hat, hld, hnr, zOp, x_newB, hst, r_fAddr, Nat.zero_add, f1, f2, b_eql, d1, r_gdft, r_gdft2, f0, f1', f2', f5, r6, e4, p1, b_add, e3, again_normal]
          have := ih (i + 1) k H6 _ (by omega) (by omega) (by omega) q1 q2 q3 q4 q5
          rw [hmin'] at this
          exact this ..

theorem ringsOrder_true {H : Heap} (ho : ROps H v b xs) (hu : Us H u c us) : ∃ H', lvl Try.prog pk8 1000 (.func 13) [v, u] H = some (.bool true, H') := by
  have hk := fun H => known8_is 999 (by omega) H
  have hlen := ho.len
  have hlen2 := hu.len
  by_cases hx : 100 < xs.length
  · have e1 : decide (100 < (xs.length : Int)) = true := decide_eq_true (by omega)
    refine ⟨H, lvl_at (flatPr_no rfl) (by omega) ?_⟩
    rw [f13_eq]
    unfold f13
    simp -implicitDefEqProofs only [show 1000 - 1 = 999 from rfl, hlen, b_gtr, e1, hk, r_opt, r_ret, ob_some, r_gdtf, r_gdtf2, r_gdu, r_gdu2, pick_t, iteV_true, oneOf_one]
  · have e1 : decide (100 < (xs.length : Int)) = false := decide_eq_false (by omega)
    by_cases hy : 40 < us.length
    · have e2 : decide (40 < (us.length : Int)) = true := decide_eq_true (by omega)
      refine ⟨H, lvl_at (flatPr_no rfl) (by omega) ?_⟩
      rw [f13_eq]
      unfold f13
      simp -implicitDefEqProofs only [show 1000 - 1 = 999 from rfl, hlen, hlen2, b_gtr, e1, e2, hk, r_opt, r_ret, ob_some, r_gdff, r_gdff2, r_gdtf, r_gdtf2, r_gdu, r_gdu2, pick_t, pick_f, iteV_true, oneOf_one]
    · have e2 : decide (40 < (us.length : Int)) = false := decide_eq_false (by omega)
      obtain ⟨a, H1, g1, g2, g3, g4⟩ := rgNew_ok (H := H) (m := 999) (by omega) 3 2 150 (by omega)
      have := order_loop0 (v := v) (u := u) (b := b) (c := c) (xs := xs) (us := us) (a := a) (m := 999) (by omega) (by omega) (by omega) (max xs.length us.length) 0 999 H1 [] (by omega) (by omega) (by omega) (ho.ch (Ch.ext g2) nA_ro) (hu.ch (Ch.ext g2) nA_ro) g3 (by simp) (by simp [pkOf])
      rw [Nat.zero_min] at this
      have g1' : lvl Try.prog pk8 999 (.func 29) [.int .i64 3, .int .i64 2, .int .i64 150] H = some (.pointer (some ⟨a, 0, none⟩), H1) := g1
      have fin : ∃ H', body Try.prog (lvl Try.prog pk8 999) (loopN 999) 13 [v, u] H = some (.bool true, H') := by
        rw [f13_eq]
        unfold f13
        simp -implicitDefEqProofs only [hlen, hlen2, b_gtr, e1, e2, hk, g1', eRg, r_opt, r_ret, ob_some, r_gdff, r_gdff2, u_not, Bool.not_true, pick_f, iteV_false]
        exact this ..
      obtain ⟨H', hf⟩ := fin
      exact ⟨H', lvl_at (flatPr_no rfl) (by omega) hf⟩
end

end Go.Proofs.Ytcmmlgdbpnogjaa
