/-
  RingsRoom answers true.
-/
import Derived.Test.YtcmmlgdbpnogjaaAbsRgLaws
set_option linter.unusedSectionVars false
set_option linter.unusedSimpArgs false
set_option linter.unusedVariables false
set_option maxRecDepth 100000
namespace Go.Proofs.Ytcmmlgdbpnogjaa
open Go.Abs

/-- queue number q of eighteen -/
def wq (q : Nat) : Way := (((q / 6 : Nat) : Int), ((q / 2 % 3 : Nat) : Int), ((q % 2 : Nat) : Int))
def sumQ (L : List En) : Nat → Nat
  | 0 => 0
  | q + 1 => sumQ L q + (qOf L (wq q)).length

theorem sumQ_cons (L : List En) (e : En) : ∀ n, sumQ (e :: L) n = sumQ L n + sumQ [e] n
  | 0 => rfl
  | n + 1 => by
    simp only [sumQ, sumQ_cons L e n]
    have : (qOf (e :: L) (wq n)).length = (qOf L (wq n)).length + (qOf [e] (wq n)).length := by
      rw [q_cons, q_cons]
      split <;> simp [qOf]
    omega
theorem sumQ_one (e : En) (h : valid e.1 3 2 = true) : sumQ [e] 18 = 1 := by
  obtain ⟨⟨i, o, l⟩, k, x⟩ := e
  unfold valid at h
  simp only [Bool.and_eq_true, decide_eq_true_eq] at h
  obtain ⟨⟨h1, h2⟩, h3⟩ := h
  have hi : i = 0 ∨ i = 1 ∨ i = 2 := by omega
  have ho : o = 0 ∨ o = 1 ∨ o = 2 := by omega
  have hl : l = 0 ∨ l = 1 := by omega
  rcases hi with rfl | rfl | rfl <;> rcases ho with rfl | rfl | rfl <;> rcases hl with rfl | rfl <;> simp [sumQ, qOf, wq]
theorem sumQ_all : ∀ L : List En, (∀ e ∈ L, valid e.1 3 2 = true) → sumQ L 18 = L.length
  | [], _ => by simp [sumQ, qOf]
  | e :: L, h => by
    rw [sumQ_cons, sumQ_all L (fun x hx => h x (by simp [hx])), sumQ_one e (h e (by simp))]
    rfl

section
variable {v : Value} {b : Nat} {xs : List ROp} {a n m : Nat}

theorem IsRings.few {H : Heap} {a : Nat} {L : List En} {n po la : Nat} (h : IsRings H a L n po la) : L.length ≤ n ∧ n ≤ 200 := by
  obtain ⟨p, s, mb, l, top, free, fl, f, hi⟩ := h
  have := hi.cnt
  have := hi.b1
  omega
theorem q_le (L : List En) (w : Way) : (qOf L w).length ≤ L.length := by simp [qOf, List.length_filter_le]

theorem room_loop1 {H : Heap} {L : List En} (hR : IsRings H a L n 3 2) (hL : ∀ e ∈ L, valid e.1 3 2 = true) (hm : 100 ≤ m) : ∀ (r q k : Nat), 18 - q = r → q ≤ 18 → r < k → ∀ (x0 x1 x2 x3 x4 x5 x8 x9 x10 x11 x12 x13 x16 x17 x18 x19 x20 x21 x22 x23 x24 x25 x26 x27 x28 x29 x30 x31 x32 x33 x34 x35 x36 x37 x38 x39 x40 x41 x42 x43 x44 x45 x46 x47 x48 x49 x50 x51 x52 x53 x54 x55 x56 x57 x58 x59 x60 x61 x62 x63 x64 x65 x66 x67 x68 x69 x70 x71 x72 x73 x74 x75 x76 x77 x78 x79 x80 x81 x82 x83 x84 x85 x86 x87 x88 x89 x90 x91 x92 x93 x94 x95 x96 x97 x98 x99 x100 x101 x102 x103 x104 x105 x106 x107 x108 x109 x110 : Value),
    loopN k (runCode Try.prog (lvl Try.prog pk8 m) (loopN m) f14_c1) (f14_k1 (lvl Try.prog pk8 m) (loopN m)) [x0, x1, x2, x3, x4, x5, (.pointer (some ⟨a, 0, none⟩)), (.int .i64 (L.length : Nat)), x8, x9, x10, x11, x12, x13, (.int .i64 (sumQ L q : Nat)), (.int .i64 (q : Nat)), x16, x17, x18, x19, x20, x21, x22, x23, x24, x25, x26, x27, x28, x29, x30, x31, x32, x33, x34, x35, x36, x37, x38, x39, x40, x41, x42, x43, x44, x45, x46, x47, x48, x49, x50, x51, x52, x53, x54, x55, x56, x57, x58, x59, x60, x61, x62, x63, x64, x65, x66, x67, x68, x69, x70, x71, x72, x73, x74, x75, x76, x77, x78, x79, x80, x81, x82, x83, x84, x85, x86, x87, x88, x89, x90, x91, x92, x93, x94, x95, x96, x97, x98, x99, x100, x101, x102, x103, x104, x105, x106, x107, x108, x109, x110] H = some (.bool true, H) := by
  intro r
  have hfew := hR.few
  have hsum : ∀ q, sumQ L q ≤ q * L.length := by
    intro q
    induction q with
    | zero => simp [sumQ]
    | succ q ih =>
      simp only [sumQ, Nat.succ_mul]
      have := q_le L (wq q)
      omega
  induction r with
  | zero =>
    intro q k hr hq hk
    intros
    obtain ⟨k, rfl⟩ : ∃ n, k = n + 1 := ⟨k - 1, by omega⟩
    obtain rfl : q = 18 := by omega
    have e : decide (((18 : Nat) : Int) < 18) = false := by decide
    have e1 : ((sumQ L 18 : Nat) : Int) = (L.length : Int) := by rw [sumQ_all L hL]
    have e2 : ((L.length : Int) == (L.length : Int)) = true := by simp
    rw [loop_succ, f14_b1_eq]
    unfold f14_b1
    simp -implicitDefEqProofs only [b_lss, e, r_opt, ob_some, iteV_false, again_exit]
    rw [f14_e1_2_eq]
    unfold f14_e1_2
    simp -implicitDefEqProofs only [b_eql, e1, e2, r_opt, ob_some, oneOf_one]
  | succ r ih =>
    intro q k hr hq hk
    intros
    obtain ⟨k, rfl⟩ : ∃ n, k = n + 1 := ⟨k - 1, by omega⟩
    have e : decide ((q : Int) < 18) = true := decide_eq_true (by omega)
    have e3 : IntKind.i64.wrap ((q : Int) + 1) = ((q + 1 : Nat) : Int) := by rw [wrap_i64 (by omega) (by omega)]; omega
    have d6 : bin Try.prog .quo 3 (.int .i64 q) (.int .i64 6) = some (.int .i64 (q / 6 : Nat)) := by
      rw [b_quo _ _ _ _ (by omega), Int.tdiv_eq_ediv_of_nonneg (by omega), wrap_i64 (by omega) (by omega)]
      congr 2
    have d2 : bin Try.prog .quo 3 (.int .i64 q) (.int .i64 2) = some (.int .i64 (q / 2 : Nat)) := by
      rw [b_quo _ _ _ _ (by omega), Int.tdiv_eq_ediv_of_nonneg (by omega), wrap_i64 (by omega) (by omega)]
      congr 2
    have m3 : bin Try.prog .rem 3 (.int .i64 (q / 2 : Nat)) (.int .i64 3) = some (.int .i64 (q / 2 % 3 : Nat)) := by
      rw [b_rem _ _ _ _ (by omega), Int.tmod_eq_emod_of_nonneg (by omega)]
      congr 2
    have m2 : bin Try.prog .rem 3 (.int .i64 q) (.int .i64 2) = some (.int .i64 (q % 2 : Nat)) := by
      rw [b_rem _ _ _ _ (by omega), Int.tmod_eq_emod_of_nonneg (by omega)]
      congr 2
    have t1 := rgLen_is hR (m := m) (by omega) ((q / 6 : Nat) : Int) ((q / 2 % 3 : Nat) : Int) ((q % 2 : Nat) : Int)
    have hw : ((((q / 6 : Nat) : Int), ((q / 2 % 3 : Nat) : Int), ((q % 2 : Nat) : Int)) : Way) = wq q := rfl
    rw [hw] at t1
    have hs := hsum q
    have hql := q_le L (wq q)
    have hmul : q * L.length ≤ 18 * 200 := Nat.mul_le_mul hq (by omega)
    have e4 : IntKind.i64.wrap ((sumQ L q : Int) + ((qOf L (wq q)).length : Int)) = ((sumQ L (q + 1) : Nat) : Int) := by
      simp only [sumQ]
      rw [wrap_i64 (by omega) (by omega)]
      omega
    rw [loop_succ, f14_b1_eq]
    unfold f14_b1
    simp -implicitDefEqProofs only [b_lss, e, r_opt, ob_some, iteV_true, d6, d2, m3, m2, t1, b_add, e4, e3, again_normal]
    exact ih (q + 1) k (by omega) (by omega) (by omega) ..

theorem pop_len (L : List En) (w : Way) : (popL L w).length + (if qOf L w = [] then 0 else 1) = L.length ∧ ∀ e ∈ popL L w, e ∈ L := by
  cases hq : qOf L w with
  | nil =>
    have hL : popL L w = L := by
      unfold popL
      apply List.eraseP_of_forall_not
      intro e he hd
      have : e.2.1 ∈ qOf L w := by
        unfold qOf
        exact List.mem_map_of_mem (List.mem_filter.mpr ⟨he, hd⟩)
      rw [hq] at this
      cases this
    rw [hL]
    simp
  | cons k ks =>
    obtain ⟨x, xs, h1, h2, h3, h4⟩ := first_in hq
    refine ⟨by simp; omega, fun e he => (h4 e he).1⟩

theorem room_loop0 (hn : n ≤ 40) (hm : 500 ≤ m) : ∀ (r i k : Nat) (H : Heap) (L : List En), xs.length - i = r → i ≤ xs.length → xs.length ≤ 100 → r < k → ROps H v b xs → IsRings H a L n 3 2 → (∀ e ∈ L, valid e.1 3 2 = true) → ∀ (x0 x2 x3 x9 x10 x11 x12 x13 x14 x15 x16 x17 x18 x19 x20 x21 x22 x23 x24 x25 x26 x27 x28 x29 x30 x31 x32 x33 x34 x35 x36 x37 x38 x39 x40 x41 x42 x43 x44 x45 x46 x47 x48 x49 x50 x51 x52 x53 x54 x55 x56 x57 x58 x59 x60 x61 x62 x63 x64 x65 x66 x67 x68 x69 x70 x71 x72 x73 x74 x75 x76 x77 x78 x79 x80 x81 x82 x83 x84 x85 x86 x87 x88 x89 x90 x91 x92 x93 x94 x95 x96 x97 x98 x99 x100 x101 x102 x103 x104 x105 x106 x107 x108 x109 x110 : Value),
    ∃ H', loopN k (runCode Try.prog (lvl Try.prog pk8 m) (loopN m) f14_c0) (f14_k0 (lvl Try.prog pk8 m) (loopN m)) [x0, v, x2, x3, (.bool false), (.int .i64 (n : Nat)), (.pointer (some ⟨a, 0, none⟩)), (.int .i64 (L.length : Nat)), (.int .i64 (i : Nat)), x9, x10, x11, x12, x13, x14, x15, x16, x17, x18, x19, x20, x21, x22, x23, x24, x25, x26, x27, x28, x29, x30, x31, x32, x33, x34, x35, x36, x37, x38, x39, x40, x41, x42, x43, x44, x45, x46, x47, x48, x49, x50, x51, x52, x53, x54, x55, x56, x57, x58, x59, x60, x61, x62, x63, x64, x65, x66, x67, x68, x69, x70, x71, x72, x73, x74, x75, x76, x77, x78, x79, x80, x81, x82, x83, x84, x85, x86, x87, x88, x89, x90, x91, x92, x93, x94, x95, x96, x97, x98, x99, x100, x101, x102, x103, x104, x105, x106, x107, x108, x109, x110] H = some (.bool true, H') := by
  intro r
  induction r with
  | zero =>
    intro i k H L hr hi hx hk hO hR hL
    intros
    obtain ⟨k, rfl⟩ : ∃ n, k = n + 1 := ⟨k - 1, by omega⟩
    obtain rfl : i = xs.length := by omega
    have hlen := hO.len
    have e : decide ((xs.length : Int) < xs.length) = false := by simp
    refine ⟨H, ?_⟩
    rw [loop_succ, f14_b0_eq]
    unfold f14_b0
    simp -implicitDefEqProofs only [hlen, b_lss, e, r_opt, ob_some, iteV_false, again_exit]
    rw [f14_e0_0_eq]
    unfold f14_e0_0
    exact room_loop1 hR hL (by omega) 18 0 m (by omega) (by omega) (by omega) ..
  | succ r ih =>
    intro i k H L hr hi hx hk hO hR hL
    intros
    obtain ⟨k, rfl⟩ : ∃ n, k = n + 1 := ⟨k - 1, by omega⟩
    have hfew := hR.few
    have hlen := hO.len
    have e : decide ((i : Int) < xs.length) = true := by simp; omega
    obtain ⟨y, hy⟩ : ∃ y, xs[i]? = some y := ⟨xs[i], List.getElem?_eq_getElem (by omega)⟩
    have hat := hO.sl.at_ i .i64 (by rw [List.length_map]; omega)
    have hld := hO.sl.ldN (el := ROp.cells) ROp.len hy
    have hval : Value.agg ⟨y.cells⟩ = y.val := rfl
    rw [hval] at hld
    obtain ⟨hin, hkd⟩ := hO.ok y (List.mem_of_getElem? hy)
    have hnr := near_is (H := H ++ [opB (yN y)]) (m := m) (by omega) (yN y) (inR_N hin)
    have e3 : IntKind.i64.wrap ((i : Int) + 1) = ((i + 1 : Nat) : Int) := by rw [wrap_i64 (by omega) (by omega)]; omega
    obtain ⟨t, ht⟩ : ∃ t, t = nearO (yN y) := ⟨_, rfl⟩
    have hvt : valid t.w 3 2 = true := by rw [ht]; exact near_w y
    have hkt : t.kind = y.kind := by rw [ht]; rfl
    rw [← ht] at hnr
    obtain ⟨H5, hH5⟩ : ∃ H5, H5 = H ++ [opB t] ++ [opB t] ++ [opB t] := ⟨_, rfl⟩
    have hstG := st_opG H (yN y) t (opB t) (opB t)
    rw [← hH5] at hstG
    have c5 : Ch AR H H5 := by rw [hH5, List.append_assoc, List.append_assoc]; exact Ch.app _ _ _
    have i5 : IsRings H5 a L n 3 2 := by rw [hH5]; exact ((hR.app _).app _).app _
    have at5 : H5[H.length]? = some (opB t) := by rw [hH5, List.append_assoc, List.append_assoc, List.getElem?_append_right (Nat.le_refl _)]; simp
    have f0 := ld_opj at5 0 _ rfl
    have f1 := ld_opj at5 1 _ rfl
    have f2 := ld_opj at5 2 _ rfl
    have f3 := ld_opj at5 3 _ rfl
    have f5 := ld_opx at5
    have r6 : bin Try.prog .rem 5 (.int .u8 t.kind) (.int .u8 6) = some (.int .u8 (t.kind % 6 : Nat)) := by
      rw [b_rem _ _ _ _ (by omega), Int.tmod_eq_emod_of_nonneg (by omega)]
      congr 2
    rw [loop_succ, f14_b0_eq]
    unfold f14_b0
    by_cases hp : t.kind % 6 < 3
    · have e4 : decide (((t.kind % 6 : Nat) : Int) < 3) = true := decide_eq_true (by omega)
      obtain ⟨H6, L6, p1, p2, p3, p4⟩ := push_any i5 (m := m) (by omega) t.w t.x
      rw [hvt, Bool.true_and] at p1 p4
      have p1' : lvl Try.prog pk8 m (.func 33) [.pointer (some ⟨a, 0, none⟩), .int .i64 t.i, .int .i64 t.o, .int .i64 t.l, t.x.val] H5 = some (.bool (decide (L.length < n)), H6) := p1
      have e5 : decide ((L.length : Int) < (n : Int)) = decide (L.length < n) := by congr 1; simp
      have e6 : (decide (L.length < n) != decide (L.length < n)) = false := by simp
      have hO6 := (hO.ch c5 nA_ro).ch p2 nA_ro
      rcases p4 with ⟨hc, kk, rfl⟩ | ⟨hc, rfl⟩
      · have e7 : IntKind.i64.wrap ((L.length : Int) + 1) = ((L ++ [(t.w, kk, t.x)]).length : Int) := by rw [wrap_i64 (by omega) (by omega)]; simp
        rw [hc] at p1' e5
        have e6' : (true != true) = false := rfl
        simp -implicitDefEqProofs only [hlen, b_lss, e, r_opt, r_ret, ob_some, iteV_true, hat, hld, zOp, x_newB, st_op0, r_fAddr, Nat.zero_add, st_opN, ld_op0, hnr, hstG, f0, f1, f2, f3, f5, r6, e4, p1', e5, bneq8, e6', iteV_false, b_add, e7, e3, again_normal]
        exact ih (i + 1) k H6 _ (by omega) (by omega) hx (by omega) hO6 p3 (fun e' he => by
          rcases List.mem_append.mp he with he | he
          · exact hL e' he
          · rw [List.mem_singleton] at he
            subst he
            exact hvt) ..
      · rw [hc] at p1' e5
        have e6' : (false != false) = false := rfl
        simp -implicitDefEqProofs only [hlen, b_lss, e, r_opt, r_ret, ob_some, iteV_true, hat, hld, zOp, x_newB, st_op0, r_fAddr, Nat.zero_add, st_opN, ld_op0, hnr, hstG, f0, f1, f2, f3, f5, r6, e4, p1', e5, bneq8, e6', iteV_false, b_add, e3, again_normal]
        exact ih (i + 1) k H6 _ (by omega) (by omega) hx (by omega) hO6 p3 hL ..
    · have e4 : decide (((t.kind % 6 : Nat) : Int) < 3) = false := decide_eq_false (by omega)
      have t1 := rgLen_is i5 (m := m) (by omega) t.i t.o t.l
      have htw : ((t.i, t.o, t.l) : Way) = t.w := rfl
      rw [htw] at t1
      obtain ⟨H6, p1, p2, p3⟩ := pop_any i5 (m := m) (by omega) t.w
      have p1' : lvl Try.prog pk8 m (.func 35) [.pointer (some ⟨a, 0, none⟩), .int .i64 t.i, .int .i64 t.o, .int .i64 t.l] H5 = some (headV (pkOf L t.w), H6) := p1
      obtain ⟨hpl, hps⟩ := pop_len L t.w
      have hO6 := ((hO.ch c5 nA_ro).ch p2 nA_ro).ch (Ch.app AR H6 [pkB ((pkOf L t.w).headD pk0)]) nA_ro
      have p3' := p3.app [pkB ((pkOf L t.w).headD pk0)]
      have s1 : stN 4 (.pointer (some ⟨H6.length, 0, none⟩)) ((pkOf L t.w).headD pk0).val (H6 ++ [pkB pk0]) = some (undef, H6 ++ [pkB ((pkOf L t.w).headD pk0)]) := st_pk0 H6 _
      have hv : headV (pkOf L t.w) = .tuple #[((pkOf L t.w).headD pk0).val, .bool (!(pkOf L t.w).isEmpty)] := rfl
      rw [hv] at p1'
      have z2 : (!(pkOf L t.w).isEmpty) = decide ((0 : Int) < ((qOf L t.w).length : Int)) := by
        rw [qp_len]
        cases pkOf L t.w with
        | nil => rfl
        | cons y ys => simp
      have z3 : ((!(pkOf L t.w).isEmpty) != decide ((0 : Int) < ((qOf L t.w).length : Int))) = false := by rw [z2]; simp
      by_cases hq : qOf L t.w = []
      · have z4 : (!(pkOf L t.w).isEmpty) = false := by rw [z2, hq]; rfl
        rw [if_pos hq] at hpl
        have z5 : ((popL L t.w).length : Int) = (L.length : Int) := by omega
        rw [z4] at p1' z3
        simp -implicitDefEqProofs only [hlen, b_lss, e, r_opt, r_ret, ob_some, iteV_true, hat, hld, zOp, x_newB, st_op0, r_fAddr, Nat.zero_add, st_opN, ld_op0, hnr, hstG, f0, f1, f2, f3, r6, e4, t1, p1', ext_0, ext_1, pkB_zero, s1, b_gtr, bneq8, z3, iteV_false, b_add, e3, again_normal]
        have := ih (i + 1) k _ (popL L t.w) (by omega) (by omega) hx (by omega) hO6 p3' (fun e' he => hL e' (hps e' he))
        rw [z5] at this
        exact this ..
      · have z4 : (!(pkOf L t.w).isEmpty) = true := by
          rw [z2]
          have := List.length_pos_iff.mpr hq
          exact decide_eq_true (by omega)
        rw [if_neg hq] at hpl
        have z5 : IntKind.i64.wrap ((L.length : Int) - 1) = ((popL L t.w).length : Int) := by rw [wrap_i64 (by omega) (by omega)]; omega
        rw [z4] at p1' z3
        simp -implicitDefEqProofs only [hlen, b_lss, e, r_opt, r_ret, ob_some, iteV_true, hat, hld, zOp, x_newB, st_op0, r_fAddr, Nat.zero_add, st_opN, ld_op0, hnr, hstG, f0, f1, f2, f3, r6, e4, t1, p1', ext_0, ext_1, pkB_zero, s1, b_gtr, bneq8, z3, iteV_false, b_sub, z5, b_add, e3, again_normal]
        exact ih (i + 1) k _ (popL L t.w) (by omega) (by omega) hx (by omega) hO6 p3' (fun e' he => hL e' (hps e' he)) ..

theorem ringsRoom_true {H : Heap} (s8 : Int) (h1 : 0 ≤ s8 ∧ s8 < 256) (ho : ROps H v b xs) : ∃ H', lvl Try.prog pk8 1000 (.func 14) [.int .u8 s8, v] H = some (.bool true, H') := by
  obtain ⟨s8, rfl⟩ : ∃ n : Nat, s8 = n := ⟨s8.toNat, by omega⟩
  have hk := fun H => known8_is 999 (by omega) H
  have hlen := ho.len
  by_cases hx : 100 < xs.length
  · have e1 : decide (100 < (xs.length : Int)) = true := decide_eq_true (by omega)
    refine ⟨H, lvl_at (flatPr_no rfl) (by omega) ?_⟩
    rw [f14_eq]
    unfold f14
    simp -implicitDefEqProofs only [show 1000 - 1 = 999 from rfl, hlen, b_gtr, e1, hk, r_opt, r_ret, ob_some, r_gdtf, r_gdtf2, r_gdu, r_gdu2, pick_t, iteV_true, oneOf_one]
  · have e1 : decide (100 < (xs.length : Int)) = false := decide_eq_false (by omega)
    have r40 : bin Try.prog .rem 5 (.int .u8 s8) (.int .u8 40) = some (.int .u8 (s8 % 40 : Nat)) := by
      rw [b_rem _ _ _ _ (by omega), Int.tmod_eq_emod_of_nonneg (by omega)]
      congr 2
    have cf := fun H => cvU8 H (s8 % 40) (by omega)
    have e2 : IntKind.i64.wrap (1 + ((s8 % 40 : Nat) : Int)) = ((1 + s8 % 40 : Nat) : Int) := by rw [wrap_i64 (by omega) (by omega)]; omega
    obtain ⟨a, H1, g1, g2, g3, g4⟩ := rgNew_ok (H := H) (m := 999) (by omega) 3 2 (1 + s8 % 40) (by omega)
    have := room_loop0 (v := v) (b := b) (xs := xs) (a := a) (m := 999) (n := 1 + s8 % 40) (by omega) (by omega) xs.length 0 999 H1 [] (by omega) (by omega) (by omega) (by omega) (ho.ch (Ch.ext g2) nA_ro) g3 (by simp)
    have g1' : lvl Try.prog pk8 999 (.func 29) [.int .i64 3, .int .i64 2, .int .i64 (1 + s8 % 40 : Nat)] H = some (.pointer (some ⟨a, 0, none⟩), H1) := g1
    have fin : ∃ H', body Try.prog (lvl Try.prog pk8 999) (loopN 999) 14 [.int .u8 s8, v] H = some (.bool true, H') := by
      rw [f14_eq]
      unfold f14
      simp -implicitDefEqProofs only [hlen, b_gtr, e1, hk, r40, cf, b_add, e2, g1', eRg, r_opt, r_ret, ob_some, r_gdff, r_gdff2, u_not, Bool.not_true, pick_f, iteV_false]
      exact this ..
    obtain ⟨H', hf⟩ := fin
    exact ⟨H', lvl_at (flatPr_no rfl) (by omega) hf⟩
end

end Go.Proofs.Ytcmmlgdbpnogjaa
