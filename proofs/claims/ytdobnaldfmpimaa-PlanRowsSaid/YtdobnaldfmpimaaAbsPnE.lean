/-
  PLAN: PlanEdges answers true.
-/
import Derived.Test.YtdobnaldfmpimaaAbsPnA
set_option linter.unusedSectionVars false
set_option linter.unusedSimpArgs false
set_option linter.unusedVariables false
set_option maxRecDepth 100000
namespace Go.Proofs.Ytdobnaldfmpimaa
open Go.Abs

section
variable {H : Heap} {m : Nat} {p : PlanD} {ev wv nv : Value}

/-- more, behind a field of the plan -/
theorem add_field {α : Type} {el : α → List Value} {e e' : TypeId} {sz by' : Nat} (hsz : ∀ x, (el x).length = sz) (hall : ∀ x, allCells (el x) = true) (h0 : 0 < sz) {H0 : Heap} {v w : Value} {xs ys : List α} {b j : Nat} {cs : List Value}
    (hb : H[b]? = some (.cells cs 27 .fix)) (hj : j < cs.length) (hv : Rw el e sz H v xs) (hw : Rs el e' H w ys) (hn : New H0 v) (hbn : H0.length ≤ b) (he : Ext H0 H) (hr : roomy (xs.length + ys.length) by' = true) :
    ∃ v' H1 H', app e sz by' v w H = some (v', H1) ∧ stN 1 (.pointer (some ⟨b, j, none⟩)) v' H1 = some (undef, H') ∧
      Rw el e sz H' v' (xs ++ ys) ∧ New H0 v' ∧ Ext H0 H' ∧ H'[b]? = some (.cells (cs.set j v') 27 .fix) := by
  obtain ⟨v', H1, g1, g2, g3, g4, g5⟩ := hv.addS hsz hall h0 (by' := by') hw hr
  have hbl := (List.getElem?_eq_some_iff.mp hb).1
  have hl := he.1
  have hnh : ¬ home v b := fun hh => by
    obtain ⟨c', hc'⟩ := hv.blk hh
    rw [hb] at hc'
    simp at hc'
  have hb1 : H1[b]? = some (.cells cs 27 .fix) := by rw [g4 b hbl hnh, hb]
  obtain ⟨s1, s2⟩ := g2.shape
  have hb1l := (List.getElem?_eq_some_iff.mp hb1).1
  refine ⟨v', H1, H1.set b (.cells (cs.set j v') 27 .fix), g1, ?_, g2.keep fun c hc => ?_, fun c hc => ?_, ⟨by rw [List.length_set]; omega, fun c hc _ => ?_⟩, List.getElem?_set_self hb1l⟩
  · rw [x_stN 1 _ _ _ (by rw [s1]; rfl), hb1, s1, x_stC _ _ _ _ _ _ (by decide) (by simp; omega) s2]
    rfl
  · refine List.getElem?_set_ne fun hh => ?_
    subst hh
    obtain ⟨c', hc'⟩ := g2.blk hc
    rw [hb1] at hc'
    simp at hc'
  · rcases g5 c hc with h | ⟨h, _⟩
    · exact hn c h
    · omega
  · rw [List.getElem?_set_ne (by omega), g4 c (by omega) (fun h => by have := hn c h; omega), he.2 c hc id]

theorem edOk_no {n : Int} {E : List Ed} {e : Ed} (h : e ∈ E) (hb : ¬ okE n e) : edOk n [] E = false := by
  rw [← Bool.not_eq_true, edOk_ve]
  exact fun hh => hb (hh.1 e h)
theorem bad_edge {q : PlanD} (h : edOk q.nodes [] q.edges = false) : checkOk q = false := by
  unfold checkOk edgesOk
  rw [h]
  simp
theorem ok_edges {n : Int} {E : List Ed} (h : VE n E) : edOk n [] E = true := (edOk_ve n E).mpr h
theorem check_edges {q : PlanD} {E : List Ed} (h : checkOk q = true) (hE : edOk q.nodes [] E = true) (hl : E.length ≤ 15) : checkOk { q with edges := E } = true := by
  unfold checkOk edgesOk numOk rowsOk at *
  simp only [Bool.and_eq_true] at h ⊢
  exact ⟨h.1, ⟨hE, decide_eq_true (by omega)⟩, h.2.2⟩

/-- a plan whose edges lie elsewhere -/
theorem PV.edges {q : PlanD} {E : List Ed} {xv : Value} (h : PV H q ev wv nv) (hx : Es H xv E) (hl : E.length ≤ 1000) : PV H { q with edges := E } xv wv nv := ⟨hx, h.w, h.n, by simp only; omega, h.bw, h.bn⟩
theorem plB_set {q : PlanD} {E : List Ed} {xv : Value} : Blk.cells ((plC q ev wv nv).set 1 xv) 27 .fix = plB { q with edges := E } xv wv nv := rfl

theorem one_edge (H : Heap) (x : Ed) : bldSlice 33 2 1 [.int .i64 0, .int .i64 0] [(0, edV x)] H = some (.slice (some ⟨H.length, 0, none⟩) 1 1, H ++ [.cells (edC x) 33 .row]) := rfl
theorem four_edges (H : Heap) (x y z w : Ed) : bldSlice 33 2 4 [.int .i64 0, .int .i64 0] [(0, edV x), (1, edV y), (2, edV z), (3, edV w)] H = some (.slice (some ⟨H.length, 0, none⟩) 4 4, H ++ [.cells ([x, y, z, w].map edC).flatten 33 .row]) := by kernel_rfl

theorem ledges_end {H0 H1 : Heap} {a ax : Nat} {xv : Value} {k : Nat} (hk : k < 256) (hm : 17592186045100 < m) (hm2 : m ≤ 72057594037927936) (hp : PV H0 p ev wv nv) (hb : H0[a]? = some (plB p ev wv nv)) (he : Ext H0 H1) (hl : p.edges.length ≤ 15)
    (hE : VE p.nodes p.edges) (hok : checkOk p = true) (hxe : Es H1 xv p.edges.reverse) (hbx : H1[ax]? = some (plB { p with edges := p.edges.reverse } xv wv nv)) (x0 x1 x2 x3 x5 x6 x7 x8 x9 x10 x13 x14 x15 x16 x17 x18 x19 x20 x21 x22 x23 x24 x25 x26 x27 x28 x29 x30 x31 x32 x33 x34 x35 x36 x37 x38 x39 x40 x41 x42 x43 x44 x45 x46 x47 x48 x49 x50 x51 x52 x53 x54 x55 x56 x57 x58 x59 x60 x61 x62 x63 x64 x65 x66 x67 x68 x69 x70 x71 x72 x73 x74 x75 x76 x77 x78 x79 x80 x81 x82 x83 x84 x85 x86 x87 x88 x89 x90 x91 x92 x93 x94 x95 x96 x97 x98 x99 x100 x101 x102 x103 x104 x105 x106 x107 : Value) :
    ∃ H', f3_e0_0 (lvl Try.prog pk12 m) (loopN m) x0 x1 x2 x3 (.int .u8 k) x5 x6 x7 x8 x9 x10 (.pointer (some ⟨a, 0, none⟩)) (.pointer (some ⟨ax, 0, none⟩)) x13 x14 x15 x16 x17 x18 x19 x20 x21 x22 x23 x24 x25 x26 x27 x28 x29 x30 x31 x32 x33 x34 x35 x36 x37 x38 x39 x40 x41 x42 x43 x44 x45 x46 x47 x48 x49 x50 x51 x52 x53 x54 x55 x56 x57 x58 x59 x60 x61 x62 x63 x64 x65 x66 x67 x68 x69 x70 x71 x72 x73 x74 x75 x76 x77 x78 x79 x80 x81 x82 x83 x84 x85 x86 x87 x88 x89 x90 x91 x92 x93 x94 x95 x96 x97 x98 x99 x100 x101 x102 x103 x104 x105 x106 x107 H1 = some (.bool true, H') := by
  have b1 := ld_of hb he
  have p1 := hp.ext he
  have l11 := ld_pl11 b1
  have cp := pl_copy p1 H1
  -- y
  obtain ⟨Y0, hY0⟩ : ∃ Y0, Y0 = H1 ++ [plB p ev wv nv] := ⟨_, rfl⟩
  rw [← hY0] at cp
  have xY0 : Ext H1 Y0 := by rw [hY0]; exact Fr.app _ _ _
  have bY0 : Y0[H1.length]? = some (plB p ev wv nv) := by rw [hY0]; exact at_last _ _
  have s1 := st_pl (q' := { p with edges := [] }) (ev' := .slice none 0 0) (wv' := wv) (nv' := nv) (j := 1) (v := .slice none 0 0) bY0 rfl rfl (by omega) rfl
  obtain ⟨Y1, hY1⟩ : ∃ Y1, Y1 = Y0.set H1.length (plB { p with edges := [] } (.slice none 0 0) wv nv) := ⟨_, rfl⟩
  rw [← hY1] at s1
  have xY1 : Ext H1 Y1 := by rw [hY1]; exact set_ext xY0 (Nat.le_refl _)
  have bY1 : Y1[H1.length]? = some (plB { p with edges := [] } (.slice none 0 0) wv nv) := by rw [hY1]; exact List.getElem?_set_self (List.getElem?_eq_some_iff.mp bY0).1
  have lY1 := ld_pl bY1 1 _ rfl
  have bp1 := ld_of b1 xY1
  have le1 := ld_pl bp1 1 _ rfl
  have l01 := ld_pl bp1 0 _ rfl
  obtain ⟨yv, Y2, Y3, t1, t2, t3, t4, t5, t6⟩ := add_field (by' := 16) (H0 := H1) edC_len edC_all (by decide) bY1 (by show 1 < 11; omega) (Rw.nil (el := edC) (e := 33) (sz := 2)) (p1.ext xY1).e (New.nil _) (Nat.le_refl _) xY1 (roomy_mono (n := 1000000) (by decide) (by simp; omega))
  rw [List.nil_append] at t3
  have bp3 := ld_of b1 t5
  have l03 := ld_pl bp3 0 _ rfl
  have bd1 := bEd 1 1
  have bd2 := bEd 1 0
  have bd3 := bEd 0 p.nodes
  have bd4 := bEd (-1) 0
  have four := four_edges Y3 (1, 1) (1, 0) (0, p.nodes) (-1, 0)
  obtain ⟨Y4, hY4⟩ : ∃ Y4, Y4 = Y3 ++ [Blk.cells ([((1 : Int), (1 : Int)), (1, 0), (0, p.nodes), (-1, 0)].map edC).flatten 33 .row] := ⟨_, rfl⟩
  rw [← hY4] at four
  have xY4 : Ext Y3 Y4 := by rw [hY4]; exact Fr.app _ _ _
  have bY4 := ld_of t6 xY4
  have lY4 : ld1 (.pointer (some ⟨H1.length, 1, none⟩)) Y4 = some (yv, Y4) := r_ld1 bY4 rfl
  have c1 := fun H => cvU H k hk
  have c2 := remI k 4 4 rfl (by omega)
  obtain ⟨bad, hbad⟩ : ∃ x, ([((1 : Int), (1 : Int)), (1, 0), (0, p.nodes), (-1, 0)] : List Ed)[k % 4]? = some x := ⟨_, List.getElem?_eq_getElem (by simp; omega)⟩
  have hbads : ¬ okE p.nodes bad := by
    have hc : k % 4 = 0 ∨ k % 4 = 1 ∨ k % 4 = 2 ∨ k % 4 = 3 := by omega
    unfold okE
    rcases hc with c | c | c | c <;> rw [c] at hbad <;> simp at hbad <;> subst hbad <;> simp
  have hfour : Rs edC 33 Y4 (.slice (some ⟨Y3.length, 0, none⟩) 4 4) [((1 : Int), (1 : Int)), (1, 0), (0, p.nodes), (-1, 0)] := .inr ⟨Y3.length, 0, 4, rfl, Nat.le_refl _, fun _ => ⟨33, .row, [], [], rfl, fun _ => rfl, by rw [hY4]; simp⟩⟩
  obtain ⟨fb, fo, f1, _, f3⟩ := hfour.at_ edC_len hbad .i64
  have f4 : ldN 2 (.pointer (some ⟨fb, fo, none⟩)) Y4 = some (edV bad, Y4) := (f3 Y4 rfl).1
  have one := one_edge Y4 bad
  obtain ⟨yv2, Y5, Y6, r1, r2, r3, r4, r5, r6, _⟩ := push_field (by' := 16) (H0 := H1) (b := H1.length) (j := 1) edC_len edC_all (by decide) bad bY4 (by show 1 < 11; omega) (by rw [hY4]; exact t3.on _ : Ew Y4 yv p.edges) t4 (Nat.le_refl _) (t5.tr xY4) (roomy_mono (n := 1000000) (by decide) (by omega))
  have b6y : Y6[H1.length]? = some (plB { p with edges := p.edges ++ [bad] } yv2 wv nv) := r6
  have b6 := ld_of b1 r5
  have l6 := ld_pl11 b6
  have p6 := p1.ext r5
  -- z
  have cz := pl_copy p6 Y6
  obtain ⟨Z0, hZ0⟩ : ∃ Z0, Z0 = Y6 ++ [plB p ev wv nv] := ⟨_, rfl⟩
  rw [← hZ0] at cz
  have xZ0 : Ext Y6 Z0 := by rw [hZ0]; exact Fr.app _ _ _
  have bZ0 : Z0[Y6.length]? = some (plB p ev wv nv) := by rw [hZ0]; exact at_last _ _
  have s2 := st_pl (q' := { p with edges := [] }) (ev' := .slice none 0 0) (wv' := wv) (nv' := nv) (j := 1) (v := .slice none 0 0) bZ0 rfl rfl (by omega) rfl
  obtain ⟨Z1, hZ1⟩ : ∃ Z1, Z1 = Z0.set Y6.length (plB { p with edges := [] } (.slice none 0 0) wv nv) := ⟨_, rfl⟩
  rw [← hZ1] at s2
  have xZ1 : Ext Y6 Z1 := by rw [hZ1]; exact set_ext xZ0 (Nat.le_refl _)
  have bZ1 : Z1[Y6.length]? = some (plB { p with edges := [] } (.slice none 0 0) wv nv) := by rw [hZ1]; exact List.getElem?_set_self (List.getElem?_eq_some_iff.mp bZ0).1
  have lZ1 := ld_pl bZ1 1 _ rfl
  have le2 := ld_pl (ld_of b6 xZ1) 1 _ rfl
  obtain ⟨zv, Z2, Z3, u1, u2, u3, u4, u5, u6⟩ := add_field (by' := 16) (H0 := Y6) edC_len edC_all (by decide) bZ1 (by show 1 < 11; omega) (Rw.nil (el := edC) (e := 33) (sz := 2)) (p6.ext xZ1).e (New.nil _) (Nat.le_refl _) xZ1 (roomy_mono (n := 1000000) (by decide) (by simp; omega))
  rw [List.nil_append] at u3
  have u7 : ld1 (.pointer (some ⟨Y6.length, 1, none⟩)) Z3 = some (zv, Z3) := r_ld1 u6 rfl
  have le3 := ld_pl (ld_of b6 u5) 1 _ rfl
  obtain ⟨zv2, Z4, Z5, w1, w2, w3, w4, w5, w6⟩ := add_field (by' := 16) (H0 := Y6) edC_len edC_all (by decide) u6 (by show 1 < 11; omega) u3 (p6.ext u5).e u4 (Nat.le_refl _) u5 (roomy_mono (n := 1000000) (by decide) (by omega))
  have b5z : Z5[Y6.length]? = some (plB { p with edges := p.edges ++ p.edges } zv2 wv nv) := w6
  -- the checks
  have hx15 : Ext H1 Z5 := r5.tr w5
  have px : PV Z5 { p with edges := p.edges.reverse } xv wv nv := ((p1.ext hx15).edges (hxe.ext hx15) (by simp; omega))
  have lx := ld_pl11 (ld_of hbx hx15)
  have okx : checkOk { p with edges := p.edges.reverse } = true := check_edges hok (ok_edges ⟨fun e he => hE.1 e (List.mem_reverse.mp he), List.pairwise_reverse.mpr (hE.2.imp fun h => Ne.symm h)⟩) (by simpa using hl)
  obtain ⟨C1, k1, xc1⟩ := check_is px (m := m) (by omega) (by omega)
  rw [okx] at k1
  have py : PV C1 { p with edges := p.edges ++ [bad] } yv2 wv nv := ((p1.ext hx15).ext xc1).edges (((r3.rs).ext w5).ext xc1) (by simp; omega)
  have ly := ld_pl11 (ld_of (ld_of b6y w5) xc1)
  have oky : checkOk { p with edges := p.edges ++ [bad] } = false := bad_edge (edOk_no (e := bad) (by simp) hbads)
  obtain ⟨C2, k2, xc2⟩ := check_is py (m := m) (by omega) (by omega)
  rw [oky] at k2
  have le5 := ld_pl (ld_of (ld_of (ld_of b1 hx15) xc1) xc2) 1 _ rfl
  have hlen := (((p1.ext hx15).ext xc1).ext xc2).e.len
  have lz := ld_pl11 (ld_of (ld_of b5z xc1) xc2)
  have pz : PV C2 { p with edges := p.edges ++ p.edges } zv2 wv nv := (((p1.ext hx15).ext xc1).ext xc2).edges ((w3.rs.ext xc1).ext xc2) (by simp; omega)
  obtain ⟨C3, k3, xc3⟩ := check_is pz (m := m) (by omega) (by omega)
  have ee0 : (errno true == 0) = true := rfl
  have ee : (errno false == 120) = true := rfl
  unfold f3_e0_0
  by_cases h0 : p.edges = []
  · have d0 : ((p.edges.length : Int) == 0) = true := by rw [h0]; rfl
    refine ⟨C2, ?_⟩
    simp -implicitDefEqProofs only [r_opt, r_ret, ob_some, ifB_true, iteV_true, iteV_false, r_gdt, r_gdt2, r_gdtf, r_gdtf2, r_gdff, r_gdff2, r_gdft, r_gdft2, r_gdu, r_gdu2, pick_t, pick_f, ext_0, ext_1, x_newB, r_nil, r_fAddr, Nat.zero_add, b_lss, b_leq, b_gtr, b_geq, b_eql, b_neq, u_not, Bool.not_true, Bool.not_false, oneOf_one, oneOf_two, again_normal, again_exit, again_ret, Bool.and_true, l11, plZ_is, cp, s1, lY1, le1, t1, t2, bd1, bd2, bd3, bd4, l03, four, lY4, c1, c2, f1, f4, one, r1, r2, l6, cz, s2, lZ1, le2, u1, u2, u7, le3, w1, w2, lx, k1, ee0, ly, k2, ee, le5, hlen, d0]
  · have hlt : 0 < p.edges.length := List.length_pos_iff.mpr h0
    have d0 : ((p.edges.length : Int) == 0) = false := by simp; exact h0
    have okz : checkOk { p with edges := p.edges ++ p.edges } = false := bad_edge (by
      rw [← Bool.not_eq_true, edOk_ve]
      intro hh
      have := hh.2
      simp only at this
      rw [List.nodup_append] at this
      obtain ⟨x, hx⟩ := List.exists_mem_of_ne_nil _ h0
      exact this.2.2 x hx x hx rfl)
    rw [okz] at k3
    refine ⟨C3, ?_⟩
    simp -implicitDefEqProofs only [r_opt, r_ret, ob_some, ifB_true, iteV_true, iteV_false, r_gdt, r_gdt2, r_gdtf, r_gdtf2, r_gdff, r_gdff2, r_gdft, r_gdft2, r_gdu, r_gdu2, pick_t, pick_f, ext_0, ext_1, x_newB, r_nil, r_fAddr, Nat.zero_add, b_lss, b_leq, b_gtr, b_geq, b_eql, b_neq, u_not, Bool.not_true, Bool.not_false, oneOf_one, oneOf_two, again_normal, again_exit, again_ret, Bool.and_true, l11, plZ_is, cp, s1, lY1, le1, t1, t2, bd1, bd2, bd3, bd4, l03, four, lY4, c1, c2, f1, f4, one, r1, r2, l6, cz, s2, lZ1, le2, u1, u2, u7, le3, w1, w2, lx, k1, ee0, ly, k2, ee, le5, hlen, d0, lz, k3]

theorem rev_take {α : Type} (l : List α) (i : Nat) {x : α} (h : l[i]? = some x) : l.reverse.take (l.length - i) = l.reverse.take (l.length - (i + 1)) ++ [x] := by
  have hi := (List.getElem?_eq_some_iff.mp h).1
  have e : l.length - i = (l.length - (i + 1)) + 1 := by omega
  rw [e, List.take_add_one, List.getElem?_reverse (by omega)]
  have : l.length - 1 - (l.length - (i + 1)) = i := by omega
  rw [this, h]
  rfl

theorem ledges_loop {H0 : Heap} {a ax k8 : Nat} (hk8 : k8 < 256) (hm : 17592186045100 < m) (hm2 : m ≤ 72057594037927936) (hp : PV H0 p ev wv nv) (hb : H0[a]? = some (plB p ev wv nv)) (hl : p.edges.length ≤ 15) (hax : H0.length ≤ ax)
    (hE : VE p.nodes p.edges) (hok : checkOk p = true) : ∀ (q i k : Nat) (H1 : Heap) (xv : Value), i = q → i ≤ p.edges.length → q < k → Ext H0 H1 → Ew H1 xv (p.edges.reverse.take (p.edges.length - i)) → New H0 xv → H1[ax]? = some (plB { p with edges := p.edges.reverse.take (p.edges.length - i) } xv wv nv) → ∀ (x0 x1 x2 x3 x5 x6 x7 x8 x9 x10 x14 x15 x16 x17 x18 x19 x20 x21 x22 x23 x24 x25 x26 x27 x28 x29 x30 x31 x32 x33 x34 x35 x36 x37 x38 x39 x40 x41 x42 x43 x44 x45 x46 x47 x48 x49 x50 x51 x52 x53 x54 x55 x56 x57 x58 x59 x60 x61 x62 x63 x64 x65 x66 x67 x68 x69 x70 x71 x72 x73 x74 x75 x76 x77 x78 x79 x80 x81 x82 x83 x84 x85 x86 x87 x88 x89 x90 x91 x92 x93 x94 x95 x96 x97 x98 x99 x100 x101 x102 x103 x104 x105 x106 x107 : Value),
    ∃ H', loopN k (runCode Try.prog (lvl Try.prog pk12 m) (loopN m) f3_c0) (f3_k0 (lvl Try.prog pk12 m) (loopN m)) [x0, x1, x2, x3, (.int .u8 k8), x5, x6, x7, x8, x9, x10, (.pointer (some ⟨a, 0, none⟩)), (.pointer (some ⟨ax, 0, none⟩)), (.int .i64 ((i : Int) - 1)), x14, x15, x16, x17, x18, x19, x20, x21, x22, x23, x24, x25, x26, x27, x28, x29, x30, x31, x32, x33, x34, x35, x36, x37, x38, x39, x40, x41, x42, x43, x44, x45, x46, x47, x48, x49, x50, x51, x52, x53, x54, x55, x56, x57, x58, x59, x60, x61, x62, x63, x64, x65, x66, x67, x68, x69, x70, x71, x72, x73, x74, x75, x76, x77, x78, x79, x80, x81, x82, x83, x84, x85, x86, x87, x88, x89, x90, x91, x92, x93, x94, x95, x96, x97, x98, x99, x100, x101, x102, x103, x104, x105, x106, x107] H1 = some (.bool true, H') := by
  intro q
  induction q with
  | zero =>
    intro i k H1 xv hi0 hi hk he hx hn hbx
    intros
    obtain ⟨k, rfl⟩ : ∃ n, k = n + 1 := ⟨k - 1, by omega⟩
    subst hi0
    have e : decide ((0 : Int) ≤ ((0 : Nat) : Int) - 1) = false := by decide
    have ht : p.edges.reverse.take (p.edges.length - 0) = p.edges.reverse := List.take_of_length_le (by simp)
    rw [ht] at hx hbx
    rw [loop_succ, f3_b0_eq]
    unfold f3_b0
    simp -implicitDefEqProofs only [r_opt, r_ret, ob_some, ifB_true, iteV_true, iteV_false, r_gdt, r_gdt2, r_gdtf, r_gdtf2, r_gdff, r_gdff2, r_gdft, r_gdft2, r_gdu, r_gdu2, pick_t, pick_f, ext_0, ext_1, x_newB, r_nil, r_fAddr, Nat.zero_add, b_lss, b_leq, b_gtr, b_geq, b_eql, b_neq, u_not, Bool.not_true, Bool.not_false, oneOf_one, oneOf_two, again_normal, again_exit, again_ret, Bool.and_true, e]
    rw [f3_e0_0_eq]
    exact ledges_end hk8 hm hm2 hp hb he hl hE hok hx.rs hbx ..
  | succ q ih =>
    intro i k H1 xv hi0 hi hk he hx hn hbx
    intros
    obtain ⟨k, rfl⟩ : ∃ n, k = n + 1 := ⟨k - 1, by omega⟩
    subst hi0
    have e : decide ((0 : Int) ≤ ((q + 1 : Nat) : Int) - 1) = true := decide_eq_true (by omega)
    have b1 := ld_of hb he
    have le1 := ld_pl b1 1 _ rfl
    have lx1 := ld_pl hbx 1 _ rfl
    obtain ⟨x, hxi⟩ : ∃ x, p.edges[q]? = some x := ⟨_, List.getElem?_eq_getElem (by omega)⟩
    obtain ⟨b, o, g1, _, g3⟩ := (hp.ext he).e.at_ edC_len hxi .i64
    have eq : (((q + 1 : Nat) : Int) - 1) = ((q : Nat) : Int) := by omega
    have g4 : ldN 2 (.pointer (some ⟨b, o, none⟩)) H1 = some (edV x, H1) := (g3 H1 rfl).1
    obtain ⟨xv2, H2, H3, r1, r2, r3, r4, r5, r6, _⟩ := push_field (by' := 16) (H0 := H0) (b := ax) (j := 1) edC_len edC_all (by decide) x hbx (by show 1 < 11; omega) hx hn hax he (roomy_mono (n := 1000000) (by decide) (by simp; omega))
    rw [← rev_take p.edges q hxi] at r3
    have e3 : IntKind.i64.wrap (((q : Nat) : Int) - 1) = ((q : Nat) : Int) - 1 := wrap_i64 (by omega) (by omega)
    rw [loop_succ, f3_b0_eq]
    unfold f3_b0
    simp -implicitDefEqProofs only [r_opt, r_ret, ob_some, ifB_true, iteV_true, iteV_false, r_gdt, r_gdt2, r_gdtf, r_gdtf2, r_gdff, r_gdff2, r_gdft, r_gdft2, r_gdu, r_gdu2, pick_t, pick_f, ext_0, ext_1, x_newB, r_nil, r_fAddr, Nat.zero_add, b_lss, b_leq, b_gtr, b_geq, b_eql, b_neq, u_not, Bool.not_true, Bool.not_false, oneOf_one, oneOf_two, again_normal, again_exit, again_ret, Bool.and_true, e, eq, lx1, le1, g1, g4, one_edge, r1, r2, b_sub, e3]
    exact ih q k H3 xv2 rfl (by omega) (by omega) r5 r3 r4 r6 ..

theorem planEdges_true (nodes room more joined k : Nat) (h1 : nodes < 256) (h2 : room < 256) (h3 : more < 256) (h4 : joined < 65536) (h5 : k < 256) :
    ∃ H', lvl Try.prog pk12 18014398509481984 (.func 3) [.int .u8 nodes, .int .u8 room, .int .u8 more, .int .u16 joined, .int .u8 k] H = some (.bool true, H') ∧ True := by
  obtain ⟨H1, u, g1, hmd⟩ := make_is (m := 18014398509481984 - 1) nodes room more joined h1 h2 h3 h4 (us_nil H) (by simp) (by simp) (by omega)
  obtain ⟨ev, wv, nv, rfl, x1, hp⟩ := hmd.pv
  obtain ⟨p, hpp⟩ : ∃ p, p = mkP nodes room more joined [] := ⟨_, rfl⟩
  have hE := mk_ve nodes room more joined []
  have hl := mk_e15 nodes room more joined []
  have hok := mk_ok nodes room more joined []
  rw [← hpp] at hp g1 hE hl hok
  have cp := pl_copy hp H1
  obtain ⟨H2, hH2⟩ : ∃ H2, H2 = H1 ++ [plB p ev wv nv] := ⟨_, rfl⟩
  rw [← hH2] at cp
  have x2 : Ext H1 H2 := by rw [hH2]; exact Fr.app _ _ _
  have b2 : H2[H1.length]? = some (plB p ev wv nv) := by rw [hH2]; exact at_last _ _
  have l2 := ld_pl11 b2
  have hp2 := hp.ext x2
  have hk := fun H => known12_is (18014398509481984 - 1) (by omega) H
  obtain ⟨H3, g3, x3⟩ := check_is hp2 (m := 18014398509481984 - 1) (by omega) (by omega)
  rw [hok] at g3
  have en : (errno true != 0) = false := rfl
  have b3 := ld_of b2 x3
  have l3 := ld_pl11 b3
  have hp3 := hp2.ext x3
  have cx := pl_copy hp3 H3
  obtain ⟨X0, hX0⟩ : ∃ X0, X0 = H3 ++ [plB p ev wv nv] := ⟨_, rfl⟩
  rw [← hX0] at cx
  have xX0 : Ext H3 X0 := by rw [hX0]; exact Fr.app _ _ _
  have bX0 : X0[H3.length]? = some (plB p ev wv nv) := by rw [hX0]; exact at_last _ _
  have s1 := st_pl (q' := { p with edges := [] }) (ev' := .slice none 0 0) (wv' := wv) (nv' := nv) (j := 1) (v := .slice none 0 0) bX0 rfl rfl (by omega) rfl
  obtain ⟨X1, hX1⟩ : ∃ X1, X1 = X0.set H3.length (plB { p with edges := [] } (.slice none 0 0) wv nv) := ⟨_, rfl⟩
  rw [← hX1] at s1
  have xX1 : Ext H3 X1 := by rw [hX1]; exact set_ext xX0 (Nat.le_refl _)
  have bX1 : X1[H3.length]? = some (plB { p with edges := [] } (.slice none 0 0) wv nv) := by rw [hX1]; exact List.getElem?_set_self (List.getElem?_eq_some_iff.mp bX0).1
  have le := ld_pl (ld_of b3 xX1) 1 _ rfl
  have hlen := (hp3.ext xX1).e.len
  have ei : IntKind.i64.wrap ((p.edges.length : Int) - 1) = (p.edges.length : Int) - 1 := wrap_i64 (by omega) (by omega)
  have z0 : p.edges.reverse.take (p.edges.length - p.edges.length) = [] := by simp
  refine lvl_ex1 (pk_no rfl rfl) (by omega) ?_
  rw [f3_eq]
  unfold f3
  simp -implicitDefEqProofs only [r_opt, r_ret, ob_some, ifB_true, iteV_true, iteV_false, r_gdt, r_gdt2, r_gdtf, r_gdtf2, r_gdff, r_gdff2, r_gdft, r_gdft2, r_gdu, r_gdu2, pick_t, pick_f, ext_0, ext_1, x_newB, r_nil, r_fAddr, Nat.zero_add, b_lss, b_leq, b_gtr, b_geq, b_eql, b_neq, u_not, Bool.not_true, Bool.not_false, oneOf_one, oneOf_two, again_normal, again_exit, again_ret, Bool.and_true, g1, plZ_is, cp, hk, l2, g3, en, l3, cx, s1, le, hlen, b_sub, ei]
  exact Exists.imp (fun H' h => ⟨h, trivial⟩) (ledges_loop (m := 18014398509481984 - 1) h5 (by omega) (by omega) hp3 b3 hl (Nat.le_refl _) hE hok p.edges.length p.edges.length (18014398509481984 - 1) X1 (.slice none 0 0) rfl (Nat.le_refl _) (by omega) xX1 (by rw [z0]; exact Rw.nil) (New.nil _) (by rw [z0]; exact bX1) ..)
end

end Go.Proofs.Ytdobnaldfmpimaa
