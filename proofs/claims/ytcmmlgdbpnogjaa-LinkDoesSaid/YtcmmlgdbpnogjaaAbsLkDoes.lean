/-
  LinkDoes answers true.
-/
import Derived.Test.YtcmmlgdbpnogjaaAbsLkRef
set_option linter.unusedSimpArgs false
set_option linter.unusedVariables false
set_option maxRecDepth 100000
namespace Go.Proofs.Ytcmmlgdbpnogjaa
open Go.Abs

/-- the link and the reference's, alike; a call in a place of its own -/
structure Both (N : Nat) (H : Heap) (v : Value) (b : Nat) (xs : List LOp) (a r o : Nat) (y : LOp) (bss : List (List UInt8)) (n : Nat) (F R : Nat → Prop) : Prop where
  inv : Inv N H v b xs a bss n F
  ref : RLink H r bss n R
  apart : ∀ c, F c → ¬ R c
  far : ∀ c, R c → N ≤ c
  op : H[o]? = some (.cells y.cells 31 .fix)
  opF : ¬ F o
  opR : ¬ R o
  old : N ≤ o
  yok : y.Ok N H
  ysm : y.b.length ≤ 3000

section
variable {N : Nat} {H H' : Heap} {v : Value} {b : Nat} {xs : List LOp} {a r o n m : Nat} {y : LOp} {bss bss' : List (List UInt8)} {F F' R R' : Nat → Prop}

/-- a step of the link -/
theorem Both.stepL (h : Both N H v b xs a r o y bss n F R) (hs : St F H H' F') (hi : Inv N H' v b xs a bss' n F') : RLink H' r bss n R ∧ (∀ c, F' c → ¬ R c) ∧ H'[o]? = some (.cells y.cells 31 .fix) ∧ ¬ F' o ∧ y.Ok N H' := by
  have ho := (List.getElem?_eq_some_iff.mp h.op).1
  refine ⟨h.ref.keep (fun c hc => hs.fr.2 c (h.ref.lt c hc) fun hF => h.apart c hF hc) hs.fr.1, fun c hc hR => ?_, by rw [hs.fr.2 o ho h.opF, h.op], fun hF => ?_, h.yok.keep fun c hc => hs.fr.2 c (by have := h.inv.len; omega) fun hF => by have := h.inv.far c hF; omega⟩
  · rcases hs.up c hc with hx | hx
    · exact h.apart c hx hR
    · have := h.ref.lt c hR
      omega
  · rcases hs.up o hF with hx | hx
    · exact h.opF hx
    · omega

/-- a step of the reference's -/
theorem Both.stepR (hi : Inv N H v b xs a bss' n F) (hap : ∀ c, F c → ¬ R c) (hfar : ∀ c, R c → N ≤ c) (hop : H[o]? = some (.cells y.cells 31 .fix)) (hoF : ¬ F o) (hoR : ¬ R o) (hold : N ≤ o) (hy : y.Ok N H) (hys : y.b.length ≤ 3000) (hs : St R H H' R') (hr : RLink H' r bss' n R') :
    Both N H' v b xs a r o y bss' n F R' := by
  have ho := (List.getElem?_eq_some_iff.mp hop).1
  have old : ∀ c, c < N → H'[c]? = H[c]? := fun c hc => hs.fr.2 c (by have := hi.len; omega) fun hF => by have := hfar c hF; omega
  refine ⟨⟨hi.ops.keep old, hi.lk.keep (fun c hc => hs.fr.2 c (hi.lk.lt c hc) (hap c hc)) hs.fr.1, hi.far, by have := hi.len; have := hs.fr.1; omega, hi.small⟩, hr, fun c hc hR => ?_, fun c hc => ?_, by rw [hs.fr.2 o ho hoR, hop], hoF, fun hR => ?_, hold, hy.keep old, hys⟩
  · rcases hs.up c hR with hx | hx
    · exact hap c hc hx
    · have := hi.lk.lt c hc
      omega
  · rcases hs.up c hc with hx | hx
    · exact hfar c hx
    · have := hi.len
      omega
  · rcases hs.up o hR with hx | hx
    · exact hoR hx
    · omega

theorem Both.ld (h : Both N H v b xs a r o y bss n F R) (j : Nat) (w : Value) (hw : y.cells[j]? = some w) : ld1 (.pointer (some ⟨o, j, none⟩)) H = some (w, H) := by
  rw [x_ld1, h.op, x_ldC, hw, x_cell]

theorem ld_op (hop : H[o]? = some (.cells y.cells 31 .fix)) (j : Nat) (w : Value) (hw : y.cells[j]? = some w) : ld1 (.pointer (some ⟨o, j, none⟩)) H = some (w, H) := by
  rw [x_ld1, hop, x_ldC, hw, x_cell]

theorem Both.send (h : Both N H v b xs a r o y bss n F R) (hm : 200 ≤ m) :
    ∃ k H1 H2 F' R', lvl Try.prog pk m (.func 19) [.pointer (some ⟨a, 0, none⟩), y.bv] H = some (.bool k, H1) ∧ H1[o]? = some (.cells y.cells 31 .fix) ∧ lvl Try.prog pk m (.func 27) [.pointer (some ⟨r, 0, none⟩), y.bv] H1 = some (.bool k, H2) ∧ Both N H2 v b xs a r o y (sent n bss y.b) n F' R' := by
  obtain ⟨H1, g1, g2, g3⟩ := lsend_ok (pr := pk) (flatPr_no rfl) (flatPr_no rfl) h.inv.lk (m := m) (by omega) h.yok.br (by have := h.ysm; omega)
  have hs := St.of_up g2
  have hi := h.inv.step hs g3
  obtain ⟨q1, q2, q3, q4, q5⟩ := h.stepL hs hi
  obtain ⟨H2, k1, k2, k3⟩ := rsend_ok q1 (m := m) (by omega) q5.br (by have := h.ysm; omega)
  exact ⟨_, H1, H2, _, _, g1, q3, k1, Both.stepR hi q2 h.far q3 q4 h.opR h.old q5 h.ysm (St.of_up k2) k3⟩

theorem Both.take (h : Both N H v b xs a r o y bss n F R) (hm : 200 ≤ m) (i : Int) :
    ∃ k u u' bs H1 H2 bss' F' R', lvl Try.prog pk m (.func 20) [.pointer (some ⟨a, 0, none⟩), .int .i64 i] H = some (.tuple #[u, .bool k], H1) ∧ H1[o]? = some (.cells y.cells 31 .fix) ∧ lvl Try.prog pk m (.func 24) [.pointer (some ⟨r, 0, none⟩), .int .i64 i] H1 = some (.tuple #[u', .bool k], H2) ∧ Br H2 u bs ∧ Br H2 u' bs ∧ Both N H2 v b xs a r o y bss' n F' R' := by
  by_cases hi : i < 0 ∨ (bss.length : Int) ≤ i
  · have g1 := h.inv.take_no (m := m) (by omega) i hi
    have g2 := rtake_no h.ref (m := m) (by omega) i hi
    exact ⟨false, _, _, [], H, H, bss, F, R, g1, h.op, g2, .inl ⟨rfl, .inl rfl⟩, .inl ⟨rfl, .inl rfl⟩, h⟩
  · obtain ⟨j, rfl⟩ : ∃ j : Nat, i = j := ⟨i.toNat, by omega⟩
    have hj : bss[j]? = some bss[j] := List.getElem?_eq_getElem (by omega)
    obtain ⟨u, H1, g1, g2, g3, g4, g5⟩ := h.inv.take_yes (m := m) (by omega) j hj
    obtain ⟨q1, q2, q3, q4, q5⟩ := h.stepL g2 g3
    obtain ⟨u', H2, k1, k2, k3, k4⟩ := rtake_yes q1 (m := m) (by omega) j hj
    refine ⟨true, u, u', bss[j], H1, H2, _, _, _, g1, q3, k1, g4.keep fun c hc => k2.2 c (g5 c hc).2 (q2 c (g5 c hc).1), k4, Both.stepR g3 q2 h.far q3 q4 h.opR h.old q5 h.ysm (St.of_up k2) k3⟩

theorem Both.twice (h : Both N H v b xs a r o y bss n F R) (hm : 300 ≤ m) (i : Int) :
    ∃ k H1 H2 bss' F' R', lvl Try.prog pk m (.func 21) [.pointer (some ⟨a, 0, none⟩), .int .i64 i] H = some (.bool k, H1) ∧ H1[o]? = some (.cells y.cells 31 .fix) ∧ lvl Try.prog pk m (.func 25) [.pointer (some ⟨r, 0, none⟩), .int .i64 i] H1 = some (.bool k, H2) ∧ Both N H2 v b xs a r o y bss' n F' R' := by
  by_cases hi : i < 0 ∨ (bss.length : Int) ≤ i
  · have g1 := h.inv.twice_no (m := m) (by omega) i hi
    have g2 := rtwice_no h.ref (m := m) (by omega) i hi
    exact ⟨false, H, H, bss, F, R, g1, h.op, g2, h⟩
  · obtain ⟨j, rfl⟩ : ∃ j : Nat, i = j := ⟨i.toNat, by omega⟩
    have hj : bss[j]? = some bss[j] := List.getElem?_eq_getElem (by omega)
    obtain ⟨H1, F', g1, g2, g3⟩ := h.inv.twice_yes (m := m) (by omega) j hj
    obtain ⟨q1, q2, q3, q4, q5⟩ := h.stepL g2 g3
    obtain ⟨H2, k1, k2, k3⟩ := rtwice_yes q1 (m := m) (by omega) j hj
    exact ⟨_, H1, H2, _, _, _, g1, q3, k1, Both.stepR g3 q2 h.far q3 q4 h.opR h.old q5 h.ysm (St.of_up k2) k3⟩

theorem Both.bend (h : Both N H v b xs a r o y bss n F R) (hm : 300 ≤ m) (i at_ : Int) (x : UInt8) :
    ∃ k H1 H2 bss' F' R', lvl Try.prog pk m (.func 22) [.pointer (some ⟨a, 0, none⟩), .int .i64 i, .int .i64 at_, .int .u8 x.toNat] H = some (.bool k, H1) ∧ H1[o]? = some (.cells y.cells 31 .fix) ∧ lvl Try.prog pk m (.func 26) [.pointer (some ⟨r, 0, none⟩), .int .i64 i, .int .i64 at_, .int .u8 x.toNat] H1 = some (.bool k, H2) ∧ Both N H2 v b xs a r o y bss' n F' R' := by
  by_cases hi : i < 0 ∨ (bss.length : Int) ≤ i ∨ at_ < 0 ∨ x = 0 ∨ bss[i.toNat]? = some []
  · have g1 := h.inv.bend_no (m := m) (by omega) i at_ x hi
    have g2 := rbend_no h.ref (m := m) (by omega) i at_ x hi
    exact ⟨false, H, H, bss, F, R, g1, h.op, g2, h⟩
  · simp only [not_or] at hi
    obtain ⟨h1, h2, h3, h4, h5⟩ := hi
    obtain ⟨j, rfl⟩ : ∃ j : Nat, i = j := ⟨i.toNat, by omega⟩
    obtain ⟨q, rfl⟩ : ∃ q : Nat, at_ = q := ⟨at_.toNat, by omega⟩
    have hj : bss[j]? = some bss[j] := List.getElem?_eq_getElem (by omega)
    have hne : bss[j] ≠ [] := by
      intro h6
      rw [Int.toNat_natCast, hj, h6] at h5
      exact h5 rfl
    obtain ⟨H1, g1, g2, g3⟩ := h.inv.bend_yes (m := m) (by omega) j q x hj h4 hne
    obtain ⟨q1, q2, q3, q4, q5⟩ := h.stepL g2 g3
    obtain ⟨H2, k1, k2, k3⟩ := rbend_yes q1 (m := m) (by omega) j q x hj h4 hne
    exact ⟨true, H1, H2, _, _, _, g1, q3, k1, Both.stepR g3 q2 h.far q3 q4 h.opR h.old q5 h.ysm (St.of_up k2) k3⟩

theorem Both.tail (h : Both N H v b xs a r o y bss n F R) (hm : 300 ≤ m) :
    ∃ w z H', lvl Try.prog pk m (.func 18) [.pointer (some ⟨a, 0, none⟩)] H = some (w, H') ∧ ld1 (.pointer (some ⟨r, 0, none⟩)) H' = some (z, H') ∧ chk (ld1 (.pointer (some ⟨r, 0, none⟩)) H) z = true ∧ lvl Try.prog pk m (.func 28) [w, z] H' = some (.bool true, H') ∧ Inv N H' v b xs a bss n F ∧ RLink H' r bss n R := by
  obtain ⟨w, H', G, g1, g2, g3, g4⟩ := h.inv.all (m := m) (by omega)
  obtain ⟨q1, q2, q3, q4, q5⟩ := h.stepL (St.ext g2) g3
  obtain ⟨z, G', k1, k2, k3, k4⟩ := q1.ex
  obtain ⟨z0, G0, j1, j2, j3, j4⟩ := h.ref.ex
  have e : z0 = z := by
    have := g2.2 r (h.ref.lt r h.ref.at_) id
    rw [j1, k1] at this
    injection this with this
    injection this with this
    injection this with this
    exact this.symm
  subst e
  have hfew := h.inv.lk.few
  have sm := same_is (m := m) (Row.rr g4.row) (Row.rr k2) (by omega) (by omega)
  have b1 : (bss == bss) = true := by simp
  rw [b1] at sm
  exact ⟨w, z0, H', g1, ldR0 z0 n k1, by rw [ldR0 z0 n j1]; exact chk_sl (Row.shape k2), sm, g3, q1⟩

theorem LOp.all (y : LOp) (h : Br H y.bv y.b) : allCells y.cells = true := by
  rcases h.isSl with e | ⟨b, o, n, c, e⟩ <;> simp [LOp.cells, e, allCells, Value.oneCell']

theorem does_loop (hm : 500 ≤ m) : ∀ (q i k : Nat) (H : Heap) (bss : List (List UInt8)) (F R : Nat → Prop), xs.length - i = q → i ≤ xs.length → xs.length ≤ 100 → q < k → Inv N H v b xs a bss n F → RLink H r bss n R → (∀ c, F c → ¬ R c) → (∀ c, R c → N ≤ c) → ∀ (x0 x2 x3 x8 x9 x10 x11 x12 x13 x14 x15 x16 x17 x18 x19 x20 x21 x22 x23 x24 x25 x26 x27 x28 x29 x30 x31 x32 x33 x34 x35 x36 x37 x38 x39 x40 x41 x42 x43 x44 x45 x46 x47 x48 x49 x50 x51 x52 x53 x54 x55 x56 x57 x58 x59 x60 x61 x62 x63 x64 x65 x66 x67 x68 x69 x70 x71 x72 x73 x74 x75 x76 x77 x78 x79 x80 x81 x82 x83 x84 x85 x86 x87 x88 x89 x90 x91 x92 x93 x94 x95 x96 x97 x98 x99 x100 x101 x102 x103 x104 x105 x106 x107 x108 x109 x110 x111 x112 x113 x114 x115 x116 x117 x118 x119 x120 x121 x122 x123 x124 x125 x126 x127 : Value),
    ∃ H', loopN k (runCode Try.prog (lvl Try.prog pk m) (loopN m) f6_c0) (f6_k0 (lvl Try.prog pk m) (loopN m)) [x0, v, x2, x3, (.bool false), (.pointer (some ⟨a, 0, none⟩)), (.pointer (some ⟨r, 0, none⟩)), (.int .i64 (i : Nat)), x8, x9, x10, x11, x12, x13, x14, x15, x16, x17, x18, x19, x20, x21, x22, x23, x24, x25, x26, x27, x28, x29, x30, x31, x32, x33, x34, x35, x36, x37, x38, x39, x40, x41, x42, x43, x44, x45, x46, x47, x48, x49, x50, x51, x52, x53, x54, x55, x56, x57, x58, x59, x60, x61, x62, x63, x64, x65, x66, x67, x68, x69, x70, x71, x72, x73, x74, x75, x76, x77, x78, x79, x80, x81, x82, x83, x84, x85, x86, x87, x88, x89, x90, x91, x92, x93, x94, x95, x96, x97, x98, x99, x100, x101, x102, x103, x104, x105, x106, x107, x108, x109, x110, x111, x112, x113, x114, x115, x116, x117, x118, x119, x120, x121, x122, x123, x124, x125, x126, x127] H = some (.bool true, H') := by
  intro q
  induction q with
  | zero =>
    intro i k H bss F R hr hi hx hk hI hR hap hfar
    intros
    obtain ⟨k, rfl⟩ : ∃ n, k = n + 1 := ⟨k - 1, by omega⟩
    obtain rfl : i = xs.length := by omega
    have hlen := hI.ops.len
    have e : decide ((xs.length : Int) < xs.length) = false := by simp
    refine ⟨H, ?_⟩
    rw [loop_succ, f6_b0_eq]
    unfold f6_b0
    simp -implicitDefEqProofs only [hlen, b_lss, e, r_opt, ob_some, iteV_false, again_exit]
    rw [f6_e0_0_eq]
    unfold f6_e0_0
    simp -implicitDefEqProofs only [oneOf_one]
  | succ q ih =>
    intro i k H bss F R hr hi hx hk hI hR hap hfar
    intros
    obtain ⟨k, rfl⟩ : ∃ n, k = n + 1 := ⟨k - 1, by omega⟩
    have hlen := hI.ops.len
    have e : decide ((i : Int) < xs.length) = true := by simp; omega
    obtain ⟨y, hy⟩ : ∃ y, xs[i]? = some y := ⟨xs[i], List.getElem?_eq_getElem (by omega)⟩
    have hym := List.mem_of_getElem? hy
    have hat := hI.ops.sl.at_ i .i64 (by rw [List.length_map]; omega)
    have hld := hI.ops.sl.ldN (el := LOp.cells) LOp.len hy
    have e3 : IntKind.i64.wrap ((i : Int) + 1) = ((i + 1 : Nat) : Int) := by rw [wrap_i64 (by omega) (by omega)]; omega
    have hyok := hI.ops.ok y hym
    -- the call in a place of its own
    have hB : Both N (H ++ [.cells y.cells 31 .fix]) v b xs a r H.length y bss n F R := by
      have hE : Ext H (H ++ [Blk.cells y.cells 31 .fix]) := Fr.app _ _ _
      refine ⟨hI.step (St.ext hE) (hI.lk.keep (fun c hc => hE.2 c (hI.lk.lt c hc) id) hE.1), hR.keep (fun c hc => hE.2 c (hR.lt c hc) id) hE.1, hap, hfar, by simp, fun hF => ?_, fun hF => ?_, hI.len, hyok.keep fun c hc => hE.2 c (by have := hI.len; omega) id, hI.small y hym⟩
      · have := hI.lk.lt _ hF
        omega
      · have := hR.lt _ hF
        omega
    have hst : stN 5 (.pointer (some ⟨H.length, 0, none⟩)) (.agg ⟨y.cells⟩) (H ++ [Blk.cells [.int .u8 0, .slice none 0 0, .int .i64 0, .int .i64 0, .int .u8 0] 31 .fix]) = some (undef, H ++ [Blk.cells y.cells 31 .fix]) := by
      rw [x_stN 5 H.length 0 (.agg ⟨y.cells⟩) rfl, x_last, toArr, x_stC _ _ _ _ _ _ (by decide) (by rw [LOp.len]; simp) (y.all hyok.br)]
      have : setCells [Value.int .u8 0, .slice none 0 0, .int .i64 0, .int .i64 0, .int .u8 0] 0 y.cells = y.cells := rfl
      rw [this]
      simp
    have e1 : ((y.kind : Nat) : Int).tmod 7 = ((y.kind % 7 : Nat) : Int) := by rw [Int.tmod_eq_emod_of_nonneg (by omega)]; omega
    have r1 := b_rem (P := Try.prog) 5 .u8 (y.kind : Int) 7 (by omega)
    rw [e1] at r1
    obtain ⟨kd, hkd⟩ : ∃ kd, kd = y.kind % 7 := ⟨_, rfl⟩
    rw [← hkd] at r1
    have l0 := hB.ld 0 _ rfl
    have l1 := hB.ld 1 _ rfl
    have l2 := hB.ld 2 _ rfl
    have l3 := hB.ld 3 _ rfl
    have l4 := hB.ld 4 _ rfl
    rw [loop_succ, f6_b0_eq]
    unfold f6_b0
    have fin : ∀ {bss'' : List (List UInt8)} {F'' R'' : Nat → Prop} {H'' : Heap}, Both N H'' v b xs a r H.length y bss'' n F'' R'' → True := fun _ => trivial
    have bb : ∀ k : Bool, (k == k) = true := fun k => by simp
    have kd3 : (((kd : Nat) : Int) == 3) = decide (kd = 3) := by by_cases h : kd = 3 <;> simp [h]; omega
    have kd4 : (((kd : Nat) : Int) == 4) = decide (kd = 4) := by by_cases h : kd = 4 <;> simp [h]; omega
    have kd5 : (((kd : Nat) : Int) == 5) = decide (kd = 5) := by by_cases h : kd = 5 <;> simp [h]; omega
    have kd6 : (((kd : Nat) : Int) == 6) = decide (kd = 6) := by by_cases h : kd = 6 <;> simp [h]; omega
    by_cases h3 : kd = 3
    · obtain ⟨kk, u, u', bs, H1, H2, bss', F', R', t1, t2, t3, t4, t5, t6⟩ := hB.take (m := m) (by omega) y.i
      have l2' := ld_op t2 2 _ (rfl : y.cells[2]? = some (.int .i64 y.i))
      have c1 := cB u _ t4
      have c2 := cB u' _ t5
      have bsq : (bs == bs) = true := by simp
      obtain ⟨w, z, H3, s1, s2, s3, s4, s5, s6⟩ := t6.tail (m := m) (by omega)
      have d3 : decide (kd = 3) = true := decide_eq_true h3
      simp -implicitDefEqProofs only [hlen, b_lss, e, r_opt, r_ret, ob_some, ifB_true, iteV_true, iteV_false, hat, hld, x_newB, hst, r_fAddr, Nat.zero_add, l0, r1, b_eql, kd3, d3, l2, t1, ext_0, ext_1, l2', t3, beql, bb, r_gdt, r_gdt2, c1, c2, b_strEq, bsq, pick_t, u_not, Bool.not_true, r_gdff, r_gdff2, s1, r_nil, s2, s3, Bool.and_true, s4, pick_f, b_add, e3, again_normal]
      exact ih (i + 1) k H3 _ _ _ (by omega) (by omega) hx (by omega) s5 s6 t6.apart t6.far ..
    · have d3 : decide (kd = 3) = false := decide_eq_false h3
      by_cases h4 : kd = 4
      · obtain ⟨kk, H1, H2, bss', F', R', t1, t2, t3, t6⟩ := hB.twice (m := m) (by omega) y.i
        have l2' := ld_op t2 2 _ (rfl : y.cells[2]? = some (.int .i64 y.i))
        obtain ⟨w, z, H3, s1, s2, s3, s4, s5, s6⟩ := t6.tail (m := m) (by omega)
        have d4 : decide (kd = 4) = true := decide_eq_true h4
        simp -implicitDefEqProofs only [hlen, b_lss, e, r_opt, r_ret, ob_some, ifB_true, iteV_true, iteV_false, hat, hld, x_newB, hst, r_fAddr, Nat.zero_add, l0, r1, b_eql, kd3, d3, kd4, d4, l2, t1, l2', t3, chk_int, beql, bb, u_not, Bool.not_true, r_gdff, r_gdff2, s1, r_nil, s2, s3, Bool.and_true, s4, pick_f, b_add, e3, again_normal]
        exact ih (i + 1) k H3 _ _ _ (by omega) (by omega) hx (by omega) s5 s6 t6.apart t6.far ..
      · have d4 : decide (kd = 4) = false := decide_eq_false h4
        by_cases h5 : kd = 5
        · obtain ⟨kk, H1, H2, bss', F', R', t1, t2, t3, t6⟩ := hB.bend (m := m) (by omega) y.i y.at_ y.x
          have l2' := ld_op t2 2 _ (rfl : y.cells[2]? = some (.int .i64 y.i))
          have l3' := ld_op t2 3 _ (rfl : y.cells[3]? = some (.int .i64 y.at_))
          have l4' := ld_op t2 4 _ (rfl : y.cells[4]? = some (.int .u8 y.x.toNat))
          obtain ⟨w, z, H3, s1, s2, s3, s4, s5, s6⟩ := t6.tail (m := m) (by omega)
          have d5 : decide (kd = 5) = true := decide_eq_true h5
          simp -implicitDefEqProofs only [hlen, b_lss, e, r_opt, r_ret, ob_some, ifB_true, iteV_true, iteV_false, hat, hld, x_newB, hst, r_fAddr, Nat.zero_add, l0, r1, b_eql, kd3, d3, kd4, d4, kd5, d5, l2, l3, l4, t1, l2', l3', l4', t3, chk_int, beql, bb, u_not, Bool.not_true, r_gdff, r_gdff2, s1, r_nil, s2, s3, Bool.and_true, s4, pick_f, b_add, e3, again_normal]
          exact ih (i + 1) k H3 _ _ _ (by omega) (by omega) hx (by omega) s5 s6 t6.apart t6.far ..
        · have d5 : decide (kd = 5) = false := decide_eq_false h5
          by_cases h6 : kd = 6
          · obtain ⟨kk, H1, H2, bss', F', R', t1, t2, t3, t6⟩ := hB.bend (m := m) (by omega) y.i y.at_ y.x
            have l2' := ld_op t2 2 _ (rfl : y.cells[2]? = some (.int .i64 y.i))
            have l3' := ld_op t2 3 _ (rfl : y.cells[3]? = some (.int .i64 y.at_))
            have l4' := ld_op t2 4 _ (rfl : y.cells[4]? = some (.int .u8 y.x.toNat))
            obtain ⟨w, z, H3, s1, s2, s3, s4, s5, s6⟩ := t6.tail (m := m) (by omega)
            have d6 : decide (kd = 6) = true := decide_eq_true h6
            simp -implicitDefEqProofs only [hlen, b_lss, e, r_opt, r_ret, ob_some, ifB_true, iteV_true, iteV_false, hat, hld, x_newB, hst, r_fAddr, Nat.zero_add, l0, r1, b_eql, kd3, d3, kd4, d4, kd5, d5, kd6, d6, l2, l3, l4, t1, l2', l3', l4', t3, chk_int, beql, bb, u_not, Bool.not_true, r_gdff, r_gdff2, s1, r_nil, s2, s3, Bool.and_true, s4, pick_f, b_add, e3, again_normal]
            exact ih (i + 1) k H3 _ _ _ (by omega) (by omega) hx (by omega) s5 s6 t6.apart t6.far ..
          · have d6 : decide (kd = 6) = false := decide_eq_false h6
            obtain ⟨kk, H1, H2, F', R', t1, t2, t3, t6⟩ := hB.send (m := m) (by omega)
            have l1' := ld_op t2 1 _ (rfl : y.cells[1]? = some y.bv)
            have ck : ∀ H : Heap, chk (some (y.bv, H)) y.bv = true := fun H => chk_sl hyok.br.isSl
            obtain ⟨w, z, H3, s1, s2, s3, s4, s5, s6⟩ := t6.tail (m := m) (by omega)
            simp -implicitDefEqProofs only [hlen, b_lss, e, r_opt, r_ret, ob_some, ifB_true, iteV_true, iteV_false, hat, hld, x_newB, hst, r_fAddr, Nat.zero_add, l0, r1, b_eql, kd3, d3, kd4, d4, kd5, d5, kd6, d6, l1, t1, l1', t3, ck, beql, bb, u_not, Bool.not_true, r_gdff, r_gdff2, s1, r_nil, s2, s3, Bool.and_true, s4, pick_f, b_add, e3, again_normal]
            exact ih (i + 1) k H3 _ _ _ (by omega) (by omega) hx (by omega) s5 s6 t6.apart t6.far ..

theorem linkDoes_true {H : Heap} (room : Int) (ho : Ops N H v b xs) (hN : N ≤ H.length) : ∃ H', lvl Try.prog pk (xs.length + 600) (.func 6) [.int .i64 room, v] H = some (.bool true, H') := by
  have h1 := heavy_is (pr := pk) (flatPr_no rfl) ho (m := xs.length + 599) (by omega)
  have h2 := fun H => known_is (xs.length + 599) (by omega) H
  by_cases hh : hvy xs = true
  · refine ⟨H, lvl_at (flatPr_no rfl) (by omega) ?_⟩
    rw [f6_eq]
    unfold f6
    rw [hh] at h1
    simp -implicitDefEqProofs only [show xs.length + 600 - 1 = xs.length + 599 by omega, h1, h2, r_opt, r_ret, ob_some, r_gdtf, r_gdtf2, r_gdu, r_gdu2, pick_t, iteV_true, oneOf_one]
  · have hh' : hvy xs = false := by simpa using hh
    obtain ⟨hx, hs⟩ := hvy_no ho hh'
    rw [hh'] at h1
    by_cases hr : room < 1 ∨ 64 < room
    · have g := lnew_no (pr := pk) (H := H) (m := xs.length + 599) (flatPr_no rfl) (by omega) room hr
      have g' := rnew_no (H := H) (m := xs.length + 599) (by omega) room hr
      refine ⟨H, lvl_at (flatPr_no rfl) (by omega) ?_⟩
      rw [f6_eq]
      unfold f6
      simp -implicitDefEqProofs only [show xs.length + 600 - 1 = xs.length + 599 by omega, h1, h2, g, g', eL0, eR0, r_opt, r_ret, ob_some, r_gdff, r_gdff2, u_not, Bool.not_true, pick_f, iteV_true, iteV_false, r_gdt, r_gdt2, r_gdtf, r_gdtf2, r_gdu, r_gdu2, pick_t, oneOf_one]
    · obtain ⟨n, rfl⟩ : ∃ n : Nat, room = n := ⟨room.toNat, by omega⟩
      obtain ⟨H1, F, g1, g2, g3, g4⟩ := Inv.new (m := xs.length + 599) ho hN hs (by omega) n (by omega)
      obtain ⟨H2, q1, q2, q3⟩ := rnew_ok (H := H1) (m := xs.length + 599) (by omega) n (by omega)
      have g3' := g3.step (St.ext q2) (g3.lk.keep (fun c hc => q2.2 c (g3.lk.lt c hc) id) q2.1)
      have := does_loop (n := n) (m := xs.length + 599) (a := H.length) (r := H1.length) (by omega) xs.length 0 (xs.length + 599) H2 [] F _ (by omega) (by omega) hx (by omega) g3' q3 (fun c hc hR => by have := g3.lk.lt c hc; have := hR.1; omega) (fun c hc => by have := hc.1; have := g3.len; omega)
      have fin : ∃ H', body Try.prog (lvl Try.prog pk (xs.length + 599)) (loopN (xs.length + 599)) 6 [.int .i64 n, v] H = some (.bool true, H') := by
        rw [f6_eq]
        unfold f6
        simp -implicitDefEqProofs only [h1, h2, g1, q1, eL, eR, r_opt, r_ret, ob_some, r_gdff, r_gdff2, u_not, Bool.not_true, pick_f, iteV_false]
        exact this ..
      obtain ⟨H', hf⟩ := fin
      exact ⟨H', lvl_at (flatPr_no rfl) (by omega) hf⟩
end

end Go.Proofs.Ytcmmlgdbpnogjaa
