/-
  RINGS: the reference's New, Head, Pop, Push; a queue's packets.
-/
import Derived.Test.YtcmmlgdbpnogjaaAbsRgRef
set_option linter.unusedSectionVars false
set_option linter.unusedSimpArgs false
set_option linter.unusedVariables false
set_option maxRecDepth 100000
namespace Go.Proofs.Ytcmmlgdbpnogjaa
open Go.Abs

section
variable {H H' : Heap} {r n ports lanes m : Nat} {R : List RE}

theorem bRef (a b c : Int) : bld Try.prog 89 [(0, .int .i64 a), (1, .int .i64 b), (2, .int .i64 c)] = some (.agg #[.int .i64 a, .int .i64 b, .int .i64 c, .slice none 0 0]) := by kernel_rfl
theorem chk_pk (x : Pkt) (H : Heap) : chk (some (x.val, H)) x.val = true := by simp [chk, veq, veqL, Pkt.val, Pkt.cells]

theorem rNew_ok (hm : 0 < m) (po la sl : Nat) (h : 1 ≤ po ∧ po ≤ 16 ∧ 1 ≤ la ∧ la ≤ 3 ∧ 1 ≤ sl ∧ sl ≤ 200) : ∃ H' r, lvl Try.prog pk8 m (.func 36) [.int .i64 po, .int .i64 la, .int .i64 sl] H = some (.pointer (some ⟨r, 0, none⟩), H') ∧ Ext H H' ∧ RRef H' r [] sl po la := by
  refine ⟨H ++ [.cells [.int .i64 po, .int .i64 la, .int .i64 sl, .slice none 0 0] 89 .fix], H.length, lvl_at (flatPr_no rfl) (by omega) ?_, Fr.app _ _ _, ⟨.slice none 0 0, by simp, Rw.nil⟩⟩
  rw [f36_eq]
  unfold f36
  have e1 : decide ((po : Int) < 1) = false := decide_eq_false (by omega)
  have e2 : decide ((16 : Int) < po) = false := decide_eq_false (by omega)
  have e3 : decide ((la : Int) < 1) = false := decide_eq_false (by omega)
  have e4 : decide ((3 : Int) < la) = false := decide_eq_false (by omega)
  have e5 : decide ((sl : Int) < 1) = false := decide_eq_false (by omega)
  have e6 : decide ((200 : Int) < sl) = false := decide_eq_false (by omega)
  simp -implicitDefEqProofs only [r_opt, r_ret, ob_some, ifB_true, iteV_true, iteV_false, r_gdt, r_gdt2, r_gdtf, r_gdtf2, r_gdff, r_gdff2, r_gdft, r_gdft2, r_gdu, r_gdu2, pick_t, pick_f, ext_0, ext_1, x_newB, r_nil, r_fAddr, Nat.zero_add, b_lss, b_leq, b_gtr, b_geq, b_eql, b_neq, u_not, Bool.not_true, Bool.not_false, oneOf_one, oneOf_two, again_normal, again_exit, again_ret, Bool.and_true, e1, e2, e3, e4, e5, e6, bRef]
  rfl

theorem rNew_no (hm : 0 < m) (po la sl : Int) (h : ¬ (1 ≤ po ∧ po ≤ 16 ∧ 1 ≤ la ∧ la ≤ 3 ∧ 1 ≤ sl ∧ sl ≤ 200)) : lvl Try.prog pk8 m (.func 36) [.int .i64 po, .int .i64 la, .int .i64 sl] H = some (.pointer none, H) := by
  refine lvl_at (flatPr_no rfl) (by omega) ?_
  rw [f36_eq]
  unfold f36
  by_cases c1 : po < 1
  · simp -implicitDefEqProofs only [r_opt, r_ret, ob_some, ifB_true, iteV_true, iteV_false, r_gdt, r_gdt2, r_gdtf, r_gdtf2, r_gdff, r_gdff2, r_gdft, r_gdft2, r_gdu, r_gdu2, pick_t, pick_f, ext_0, ext_1, x_newB, r_nil, r_fAddr, Nat.zero_add, b_lss, b_leq, b_gtr, b_geq, b_eql, b_neq, u_not, Bool.not_true, Bool.not_false, oneOf_one, oneOf_two, again_normal, again_exit, again_ret, Bool.and_true, c1, decide_true, decide_false]
  · by_cases c2 : 16 < po
    · simp -implicitDefEqProofs only [r_opt, r_ret, ob_some, ifB_true, iteV_true, iteV_false, r_gdt, r_gdt2, r_gdtf, r_gdtf2, r_gdff, r_gdff2, r_gdft, r_gdft2, r_gdu, r_gdu2, pick_t, pick_f, ext_0, ext_1, x_newB, r_nil, r_fAddr, Nat.zero_add, b_lss, b_leq, b_gtr, b_geq, b_eql, b_neq, u_not, Bool.not_true, Bool.not_false, oneOf_one, oneOf_two, again_normal, again_exit, again_ret, Bool.and_true, c1, c2, decide_true, decide_false]
    · by_cases c3 : la < 1
      · simp -implicitDefEqProofs only [r_opt, r_ret, ob_some, ifB_true, iteV_true, iteV_false, r_gdt, r_gdt2, r_gdtf, r_gdtf2, r_gdff, r_gdff2, r_gdft, r_gdft2, r_gdu, r_gdu2, pick_t, pick_f, ext_0, ext_1, x_newB, r_nil, r_fAddr, Nat.zero_add, b_lss, b_leq, b_gtr, b_geq, b_eql, b_neq, u_not, Bool.not_true, Bool.not_false, oneOf_one, oneOf_two, again_normal, again_exit, again_ret, Bool.and_true, c1, c2, c3, decide_true, decide_false]
      · by_cases c4 : 3 < la
        · simp -implicitDefEqProofs only [r_opt, r_ret, ob_some, ifB_true, iteV_true, iteV_false, r_gdt, r_gdt2, r_gdtf, r_gdtf2, r_gdff, r_gdff2, r_gdft, r_gdft2, r_gdu, r_gdu2, pick_t, pick_f, ext_0, ext_1, x_newB, r_nil, r_fAddr, Nat.zero_add, b_lss, b_leq, b_gtr, b_geq, b_eql, b_neq, u_not, Bool.not_true, Bool.not_false, oneOf_one, oneOf_two, again_normal, again_exit, again_ret, Bool.and_true, c1, c2, c3, c4, decide_true, decide_false]
        · by_cases c5 : sl < 1
          · simp -implicitDefEqProofs only [r_opt, r_ret, ob_some, ifB_true, iteV_true, iteV_false, r_gdt, r_gdt2, r_gdtf, r_gdtf2, r_gdff, r_gdff2, r_gdft, r_gdft2, r_gdu, r_gdu2, pick_t, pick_f, ext_0, ext_1, x_newB, r_nil, r_fAddr, Nat.zero_add, b_lss, b_leq, b_gtr, b_geq, b_eql, b_neq, u_not, Bool.not_true, Bool.not_false, oneOf_one, oneOf_two, again_normal, again_exit, again_ret, Bool.and_true, c1, c2, c3, c4, c5, decide_true, decide_false]
          · by_cases c6 : 200 < sl
            · simp -implicitDefEqProofs only [r_opt, r_ret, ob_some, ifB_true, iteV_true, iteV_false, r_gdt, r_gdt2, r_gdtf, r_gdtf2, r_gdff, r_gdff2, r_gdft, r_gdft2, r_gdu, r_gdu2, pick_t, pick_f, ext_0, ext_1, x_newB, r_nil, r_fAddr, Nat.zero_add, b_lss, b_leq, b_gtr, b_geq, b_eql, b_neq, u_not, Bool.not_true, Bool.not_false, oneOf_one, oneOf_two, again_normal, again_exit, again_ret, Bool.and_true, c1, c2, c3, c4, c5, c6, decide_true, decide_false]
            · omega

theorem rHead_is (h : RRef H r R n ports lanes) (hR : R.length ≤ 900) (hm : R.length + 110 < m) (w : Way) : ∃ H', lvl Try.prog pk8 m (.func 52) [.pointer (some ⟨r, 0, none⟩), .int .i64 w.1, .int .i64 w.2.1, .int .i64 w.2.2] H = some (headV (pkR R w), H') ∧ Ext H H' := by
  have h1 := h.ext (H' := H ++ [pkB pk0]) (Fr.app _ _ _)
  have g := first_is h1 (show R.length ≤ 1000 by omega) (m := m - 1) (by omega) w
  rcases fI_is w R 0 with ⟨i1, i2, i3⟩ | ⟨j, e, i1, i2, i3, ⟨xs, i4⟩, i5⟩
  · rw [i1] at g
    rw [i2]
    refine ⟨H ++ [pkB pk0], lvl_at (flatPr_no rfl) (by omega) ?_, Fr.app _ _ _⟩
    rw [f52_eq]
    unfold f52
    have e1 : decide ((-1 : Int) < 0) = true := rfl
    have hl : ldN 4 (.pointer (some ⟨H.length, 0, none⟩)) (H ++ [pkB pk0]) = some (pk0.val, H ++ [pkB pk0]) := ld_pkAt (by simp)
    simp -implicitDefEqProofs only [r_opt, r_ret, ob_some, ifB_true, iteV_true, iteV_false, r_gdt, r_gdt2, r_gdtf, r_gdtf2, r_gdff, r_gdff2, r_gdft, r_gdft2, r_gdu, r_gdu2, pick_t, pick_f, ext_0, ext_1, x_newB, r_nil, r_fAddr, Nat.zero_add, b_lss, b_leq, b_gtr, b_geq, b_eql, b_neq, u_not, Bool.not_true, Bool.not_false, oneOf_one, oneOf_two, again_normal, again_exit, again_ret, Bool.and_true, pkB_zero, g, e1, pk_bld, st_pk0, hl]
    rfl
  · rw [i1, Nat.zero_add] at g
    rw [i4]
    obtain ⟨v, hd, hv⟩ := h1
    obtain ⟨b, o, g1, g2, g3⟩ := hv.rr.at_ reC_len i2 .i64
    obtain ⟨_, _, g5⟩ := g3 (H ++ [pkB pk0]) rfl
    have a3 : ldN 4 (.pointer (some ⟨b, o + 3, none⟩)) (H ++ [pkB pk0]) = some (e.2.val, (H ++ [pkB pk0])) := g5 3 4 (by omega)
    have l3 : ld1 (.pointer (some ⟨r, 3, none⟩)) (H ++ [pkB pk0]) = some (v, (H ++ [pkB pk0])) := by rw [x_ld1, hd]; rfl
    refine ⟨H ++ [pkB e.2], lvl_at (flatPr_no rfl) (by omega) ?_, Fr.app _ _ _⟩
    rw [f52_eq]
    unfold f52
    have e1 : decide ((j : Int) < 0) = false := decide_eq_false (by omega)
    have hl : ldN 4 (.pointer (some ⟨H.length, 0, none⟩)) (H ++ [pkB e.2]) = some (e.2.val, H ++ [pkB e.2]) := ld_pkAt (by simp)
    simp -implicitDefEqProofs only [r_opt, r_ret, ob_some, ifB_true, iteV_true, iteV_false, r_gdt, r_gdt2, r_gdtf, r_gdtf2, r_gdff, r_gdff2, r_gdft, r_gdft2, r_gdu, r_gdu2, pick_t, pick_f, ext_0, ext_1, x_newB, r_nil, r_fAddr, Nat.zero_add, b_lss, b_leq, b_gtr, b_geq, b_eql, b_neq, u_not, Bool.not_true, Bool.not_false, oneOf_one, oneOf_two, again_normal, again_exit, again_ret, Bool.and_true, pkB_zero, g, e1, l3, g1, a3, st_pk0, hl]
    rfl

theorem rPop_is (h : RRef H r R n ports lanes) (hR : R.length ≤ 900) (hm : R.length + 110 < m) (w : Way) : ∃ H', lvl Try.prog pk8 m (.func 51) [.pointer (some ⟨r, 0, none⟩), .int .i64 w.1, .int .i64 w.2.1, .int .i64 w.2.2] H = some (headV (pkR R w), H') ∧ Ch AE H H' ∧ RRef H' r (R.eraseP (wf w)) n ports lanes := by
  have h1 := h.ext (H' := H ++ [pkB pk0]) (Fr.app _ _ _)
  have g := first_is h1 (show R.length ≤ 1000 by omega) (m := m - 1) (by omega) w
  rcases fI_is w R 0 with ⟨i1, i2, i3⟩ | ⟨j, e, i1, i2, i3, ⟨xs, i4⟩, i5⟩
  · rw [i1] at g
    rw [i2, i3]
    refine ⟨H ++ [pkB pk0], lvl_at (flatPr_no rfl) (by omega) ?_, Ch.app _ _ _, h1⟩
    rw [f51_eq]
    unfold f51
    have e1 : decide ((-1 : Int) < 0) = true := rfl
    have hl : ldN 4 (.pointer (some ⟨H.length, 0, none⟩)) (H ++ [pkB pk0]) = some (pk0.val, H ++ [pkB pk0]) := ld_pkAt (by simp)
    simp -implicitDefEqProofs only [r_opt, r_ret, ob_some, ifB_true, iteV_true, iteV_false, r_gdt, r_gdt2, r_gdtf, r_gdtf2, r_gdff, r_gdff2, r_gdft, r_gdft2, r_gdu, r_gdu2, pick_t, pick_f, ext_0, ext_1, x_newB, r_nil, r_fAddr, Nat.zero_add, b_lss, b_leq, b_gtr, b_geq, b_eql, b_neq, u_not, Bool.not_true, Bool.not_false, oneOf_one, oneOf_two, again_normal, again_exit, again_ret, Bool.and_true, pkB_zero, g, e1, pk_bld, st_pk0, hl]
    rfl
  · rw [i1, Nat.zero_add] at g
    rw [i4, i5]
    have hj := (List.getElem?_eq_some_iff.mp i2).1
    obtain ⟨v, hd, hv⟩ := h1
    obtain ⟨b, o, g1, g2, g3⟩ := hv.rr.at_ reC_len i2 .i64
    obtain ⟨_, _, g5⟩ := g3 (H ++ [pkB pk0]) rfl
    have a3 : ldN 4 (.pointer (some ⟨b, o + 3, none⟩)) (H ++ [pkB pk0]) = some (e.2.val, (H ++ [pkB pk0])) := g5 3 4 (by omega)
    have l3 : ld1 (.pointer (some ⟨r, 3, none⟩)) (H ++ [pkB pk0]) = some (v, (H ++ [pkB pk0])) := by rw [x_ld1, hd]; rfl
    obtain ⟨H2, hH2⟩ : ∃ H2, H2 = H ++ [pkB pk0] ++ [pkB e.2] := ⟨_, rfl⟩
    have st1 : stN 4 (.pointer (some ⟨(H ++ [pkB pk0]).length, 0, none⟩)) e.2.val (H ++ [pkB pk0] ++ [pkB pk0]) = some (undef, H2) := by rw [hH2]; exact st_pk0 _ _
    have c2 : Ch AE H H2 := by rw [hH2, List.append_assoc]; exact Ch.app _ _ _
    have x2 : Ext H H2 := by rw [hH2, List.append_assoc]; exact Fr.app _ _ _
    have hrl : r < H.length := (List.getElem?_eq_some_iff.mp h.row.choose_spec.1).1
    have hd2 : H2[r]? = some (.cells [.int .i64 ports, .int .i64 lanes, .int .i64 n, v] 89 .fix) := by
      rw [x2.2 r hrl id, ← hd, List.getElem?_append_left hrl]
    have hv2 : Ents H2 v R := by rw [hH2]; exact hv.on _
    have l32 : ld1 (.pointer (some ⟨r, 3, none⟩)) H2 = some (v, H2) := by rw [x_ld1, hd2]; rfl
    obtain ⟨v1, s1, s2, s3⟩ := hv2.rr.sub (P := Try.prog) reC_len szEnt (lo := none) rfl (bnd_nat R.length .i64 j) (Nat.zero_le _) (by omega)
    rw [List.drop_zero] at s2
    obtain ⟨u1, H3, t1, t2, t3, t4, t5⟩ := (Rw.nil (el := reC) (e := 91) (sz := 7) (H := H2)).add reC_len reC_all (by decide) (by' := 56) s2 (roomy_le (n := 1001) (by decide) (by simp; omega))
    rw [List.nil_append] at t2
    have nil_home : ∀ b, ¬ home (.slice none 0 0) b := fun b ⟨_, _, _, h⟩ => by cases h
    have x3 : Ext H2 H3 := ⟨t3, fun b hb _ => t4 b hb (nil_home b)⟩
    have hd3 : H3[r]? = some (.cells [.int .i64 ports, .int .i64 lanes, .int .i64 n, v] 89 .fix) := by
      rw [x3.2 r (by have := x2.1; omega) id, hd2]
    have hv3 : Ents H3 v R := hv2.keep fun b hb => x3.2 b (hv2.lt hb) id
    have l33 : ld1 (.pointer (some ⟨r, 3, none⟩)) H3 = some (v, H3) := by rw [x_ld1, hd3]; rfl
    have e3 : IntKind.i64.wrap ((j : Int) + 1) = ((j + 1 : Nat) : Int) := by rw [wrap_i64 (by omega) (by omega)]; omega
    obtain ⟨v2, s4, s5, s6⟩ := hv3.rr.sub (P := Try.prog) reC_len szEnt (hi := none) (bnd_nat 0 .i64 (j + 1)) (r := R.length) rfl (by omega) (Nat.le_refl _)
    rw [List.take_of_length_le (Nat.le_refl _)] at s5
    obtain ⟨u2, H4, t6, t7, t8, t9, t10⟩ := t2.add reC_len reC_all (by decide) (by' := 56) s5 (roomy_le (n := 2001) (by decide) (by simp; omega))
    have hold : ∀ b, b < H2.length → H4[b]? = H2[b]? := fun b hb => by
      rw [t9 b (by omega) (fun hh => (t5 b hh).elim (nil_home b) fun h => by omega), x3.2 b hb id]
    have hl4 : H2.length ≤ H4.length := by omega
    have hl2 : H2.length = H.length + 2 := by rw [hH2]; simp
    have hd4 : H4[r]? = some (.cells [.int .i64 ports, .int .i64 lanes, .int .i64 n, v] 89 .fix) := by rw [hold r (by omega), hd2]
    have hu2 : ∀ b, home u2 b → ∃ cs, H4[b]? = some (.cells cs 91 .row) := fun b hb => t7.blk hb
    have a1 : allCells [u2] = true := by
      rcases t7 with ⟨_, ⟨rfl, _⟩ | ⟨_, _, _, rfl, _⟩⟩ <;> rfl
    have st2 : stN 1 (.pointer (some ⟨r, 3, none⟩)) u2 H4 = some (undef, H4.set r (.cells [.int .i64 ports, .int .i64 lanes, .int .i64 n, u2] 89 .fix)) := by
      have hc : u2.cells.toList = [u2] := by rcases t7 with ⟨_, ⟨rfl, _⟩ | ⟨_, _, _, rfl, _⟩⟩ <;> rfl
      rw [x_stN 1 r 3 u2 (by rw [hc]; rfl), hd4, hc, x_stC _ _ _ _ _ _ (by decide) (by simp) a1]
      rfl
    obtain ⟨H5, hH5⟩ : ∃ H5, H5 = H4.set r (.cells [.int .i64 ports, .int .i64 lanes, .int .i64 n, u2] 89 .fix) := ⟨_, rfl⟩
    rw [← hH5] at st2
    have k5 : ∀ b, b ≠ r → H5[b]? = H4[b]? := fun b hb => by rw [hH5]; exact get_set_ne hb
    have hl5 : H5.length = H4.length := by rw [hH5]; simp
    have p1 : H5[H.length + 1]? = some (pkB e.2) := by
      rw [k5 _ (by omega), hold _ (by omega), hH2, List.getElem?_append_right (by simp)]
      simp
    have p0 : H5[H.length]? = some (pkB pk0) := by
      rw [k5 _ (by omega), hold _ (by omega), hH2, List.append_assoc, List.getElem?_append_right (Nat.le_refl _)]
      simp
    have l5 : ldN 4 (.pointer (some ⟨(H ++ [pkB pk0]).length, 0, none⟩)) H5 = some (e.2.val, H5) := ld_pkAt (by rw [List.length_append]; exact p1)
    have st5 := st_pkAt (x := e.2) p0
    obtain ⟨H6, hH6⟩ : ∃ H6, H6 = H5.set H.length (pkB e.2) := ⟨_, rfl⟩
    rw [← hH6] at st5
    have l6 : ldN 4 (.pointer (some ⟨H.length, 0, none⟩)) H6 = some (e.2.val, H6) := ld_pkAt (by rw [hH6]; exact List.getElem?_set_self (by omega))
    have k6 : ∀ b, b ≠ H.length → H6[b]? = H5[b]? := fun b hb => by rw [hH6]; exact get_set_ne hb
    refine ⟨H6, lvl_at (flatPr_no rfl) (by omega) ?_, ⟨by rw [hH6, List.length_set]; omega, fun b x hx hA => ?_⟩, u2, ?_, ?_⟩
    · rw [f51_eq]
      unfold f51
      have e1 : decide ((j : Int) < 0) = false := decide_eq_false (by omega)
      simp -implicitDefEqProofs only [r_opt, r_ret, ob_some, ifB_true, iteV_true, iteV_false, r_gdt, r_gdt2, r_gdtf, r_gdtf2, r_gdff, r_gdff2, r_gdft, r_gdft2, r_gdu, r_gdu2, pick_t, pick_f, ext_0, ext_1, x_newB, r_nil, r_fAddr, Nat.zero_add, b_lss, b_leq, b_gtr, b_geq, b_eql, b_neq, u_not, Bool.not_true, Bool.not_false, oneOf_one, oneOf_two, again_normal, again_exit, again_ret, Bool.and_true, pkB_zero, g, e1, l3, g1, a3, st1, l32, s1, t1, l33, b_add, e3, s4, t6, st2, l5, st5, l6]
      rfl
    · have hb := (List.getElem?_eq_some_iff.mp hx).1
      have hbr : b ≠ r := fun hh => by
        subst hh
        obtain ⟨v', hv', _⟩ := h.row
        rw [hv'] at hx
        cases hx
        exact hA (.inr ⟨rfl, rfl⟩)
      rw [k6 b (by omega), k5 b hbr, hold b (by omega), x2.2 b hb id, hx]
    · rw [k6 r (by omega), hH5]
      exact List.getElem?_set_self (by omega)
    · refine t7.keep fun b hb => ?_
      obtain ⟨cs, hcs⟩ := hu2 b hb
      have n1 : b ≠ H.length := fun hh => by
        rw [hh, hold _ (by omega), hH2, List.append_assoc, List.getElem?_append_right (Nat.le_refl _)] at hcs
        simp [pkB] at hcs
      have n2 : b ≠ r := fun hh => by
        rw [hh, hd4] at hcs
        simp at hcs
      rw [k6 b n1, k5 b n2]

theorem rPush_is (h : RRef H r R n ports lanes) (hR : R.length ≤ 900) (hm : 0 < m) (w : Way) (x : Pkt) : ∃ H', lvl Try.prog pk8 m (.func 53) [.pointer (some ⟨r, 0, none⟩), .int .i64 w.1, .int .i64 w.2.1, .int .i64 w.2.2, x.val] H = some (.bool (valid w ports lanes && decide (R.length < n)), H') ∧ Ch AE H H' ∧
    RRef H' r (if (valid w ports lanes && decide (R.length < n)) = true then R ++ [(w, x)] else R) n ports lanes := by
  have h1 := h.ext (H' := H ++ [pkB x]) (Fr.app _ _ _)
  obtain ⟨v, hd, hv⟩ := h1
  have l0 : ld1 (.pointer (some ⟨r, 0, none⟩)) (H ++ [pkB x]) = some (.int .i64 ports, (H ++ [pkB x])) := by rw [x_ld1, hd]; rfl
  have l1 : ld1 (.pointer (some ⟨r, 1, none⟩)) (H ++ [pkB x]) = some (.int .i64 lanes, (H ++ [pkB x])) := by rw [x_ld1, hd]; rfl
  have l2 : ld1 (.pointer (some ⟨r, 2, none⟩)) (H ++ [pkB x]) = some (.int .i64 n, (H ++ [pkB x])) := by rw [x_ld1, hd]; rfl
  have l3 : ld1 (.pointer (some ⟨r, 3, none⟩)) (H ++ [pkB x]) = some (v, (H ++ [pkB x])) := by rw [x_ld1, hd]; rfl
  have hlen := hv.len
  have hx0 : Blk.cells x.val.cells.toList 50 .fix = pkB x := rfl
  by_cases hok : (valid w ports lanes && decide (R.length < n)) = true
  · rw [if_pos hok, hok]
    rw [Bool.and_eq_true] at hok
    have hn := of_decide_eq_true hok.2
    have hval := hok.1
    unfold valid at hval
    simp only [Bool.and_eq_true, decide_eq_true_eq] at hval
    have e1 : decide (w.1 < 0) = false := decide_eq_false (by omega)
    have e2 : decide ((ports : Int) ≤ w.1) = false := decide_eq_false (by omega)
    have e3 : decide (w.2.1 < 0) = false := decide_eq_false (by omega)
    have e4 : decide ((ports : Int) ≤ w.2.1) = false := decide_eq_false (by omega)
    have e5 : decide (w.2.2 < 0) = false := decide_eq_false (by omega)
    have e6 : decide ((lanes : Int) ≤ w.2.2) = false := decide_eq_false (by omega)
    have e7 : decide ((n : Int) ≤ R.length) = false := decide_eq_false (by omega)
    have lx : ldN 4 (.pointer (some ⟨H.length, 0, none⟩)) (H ++ [pkB x]) = some (x.val, H ++ [pkB x]) := ld_pkAt (by simp)
    obtain ⟨H2, hH2⟩ : ∃ H2, H2 = H ++ [pkB x] ++ [.cells (reC (w, x)) 91 .row] := ⟨_, rfl⟩
    have b1 := bld_en1 (w, x) (H ++ [pkB x])
    rw [← hH2] at b1
    have hv2 : Ents H2 v R := by rw [hH2]; exact hv.on _
    have hw : Rr reC 91 H2 (.slice (some ⟨(H ++ [pkB x]).length, 0, none⟩) 1 1) [(w, x)] := by rw [hH2]; exact one_rr (el := reC) (w, x) (H ++ [pkB x])
    obtain ⟨u, H3, t1, t2, t3, t4, t5⟩ := hv2.add reC_len reC_all (by decide) (by' := 56) hw (roomy_le (n := 1001) (by decide) (by simp; omega))
    have x2 : Ext H H2 := by rw [hH2, List.append_assoc]; exact Fr.app _ _ _
    have hrl : r < H.length := (List.getElem?_eq_some_iff.mp h.row.choose_spec.1).1
    have hvr : ¬ home v r := fun hh => by
      obtain ⟨cs, hcs⟩ := hv2.blk hh
      rw [x2.2 r hrl id] at hcs
      obtain ⟨v', hv', _⟩ := h.row
      rw [hv'] at hcs
      simp at hcs
    have hd3 : H3[r]? = some (.cells [.int .i64 ports, .int .i64 lanes, .int .i64 n, v] 89 .fix) := by
      rw [t4 r (by have := x2.1; omega) hvr, x2.2 r hrl id, ← hd, List.getElem?_append_left hrl]
    have a1 : allCells [u] = true := by
      rcases t2 with ⟨_, ⟨rfl, _⟩ | ⟨_, _, _, rfl, _⟩⟩ <;> rfl
    have st2 : stN 1 (.pointer (some ⟨r, 3, none⟩)) u H3 = some (undef, H3.set r (.cells [.int .i64 ports, .int .i64 lanes, .int .i64 n, u] 89 .fix)) := by
      have hc : u.cells.toList = [u] := by rcases t2 with ⟨_, ⟨rfl, _⟩ | ⟨_, _, _, rfl, _⟩⟩ <;> rfl
      rw [x_stN 1 r 3 u (by rw [hc]; rfl), hd3, hc, x_stC _ _ _ _ _ _ (by decide) (by simp) a1]
      rfl
    refine ⟨H3.set r (.cells [.int .i64 ports, .int .i64 lanes, .int .i64 n, u] 89 .fix), lvl_at (flatPr_no rfl) (by omega) ?_, ⟨?_, fun b y hb hA => ?_⟩, u, List.getElem?_set_self (by have := x2.1; omega), ?_⟩
    · rw [f53_eq]
      unfold f53
      simp -implicitDefEqProofs only [r_opt, r_ret, ob_some, ifB_true, iteV_true, iteV_false, r_gdt, r_gdt2, r_gdtf, r_gdtf2, r_gdff, r_gdff2, r_gdft, r_gdft2, r_gdu, r_gdu2, pick_t, pick_f, ext_0, ext_1, x_newB, r_nil, r_fAddr, Nat.zero_add, b_lss, b_leq, b_gtr, b_geq, b_eql, b_neq, u_not, Bool.not_true, Bool.not_false, oneOf_one, oneOf_two, again_normal, again_exit, again_ret, Bool.and_true, hx0, l0, l1, l2, l3, hlen, e1, e2, e3, e4, e5, e6, e7, lx, bld_en, b1, t1, st2]
    · have := x2.1
      rw [List.length_set]
      omega
    · have hbl := (List.getElem?_eq_some_iff.mp hb).1
      have hbr : b ≠ r := fun hh => by
        subst hh
        obtain ⟨v', hv', _⟩ := h.row
        rw [hv'] at hb
        cases hb
        exact hA (.inr ⟨rfl, rfl⟩)
      have hnh : ¬ home v b := fun hh => by
        obtain ⟨cs, hcs⟩ := hv2.blk hh
        rw [x2.2 b hbl id, hb] at hcs
        cases hcs
        exact hA (.inl ⟨rfl, rfl⟩)
      rw [get_set_ne hbr, t4 b (by have := x2.1; omega) hnh, x2.2 b hbl id, hb]
    · refine t2.keep fun b hb => ?_
      obtain ⟨cs, hcs⟩ := t2.blk hb
      refine get_set_ne fun hh => ?_
      rw [hh, hd3] at hcs
      simp at hcs
  · have hno : (valid w ports lanes && decide (R.length < n)) = false := by simpa using hok
    rw [if_neg hok, hno]
    refine ⟨H ++ [pkB x], lvl_at (flatPr_no rfl) (by omega) ?_, Ch.app _ _ _, ⟨v, hd, hv⟩⟩
    rw [f53_eq]
    unfold f53
    by_cases c1 : w.1 < 0
    · simp -implicitDefEqProofs only [r_opt, r_ret, ob_some, ifB_true, iteV_true, iteV_false, r_gdt, r_gdt2, r_gdtf, r_gdtf2, r_gdff, r_gdff2, r_gdft, r_gdft2, r_gdu, r_gdu2, pick_t, pick_f, ext_0, ext_1, x_newB, r_nil, r_fAddr, Nat.zero_add, b_lss, b_leq, b_gtr, b_geq, b_eql, b_neq, u_not, Bool.not_true, Bool.not_false, oneOf_one, oneOf_two, again_normal, again_exit, again_ret, Bool.and_true, hx0, l0, l1, l2, l3, hlen, c1, decide_true, decide_false]
    · by_cases c2 : (ports : Int) ≤ w.1
      · simp -implicitDefEqProofs only [r_opt, r_ret, ob_some, ifB_true, iteV_true, iteV_false, r_gdt, r_gdt2, r_gdtf, r_gdtf2, r_gdff, r_gdff2, r_gdft, r_gdft2, r_gdu, r_gdu2, pick_t, pick_f, ext_0, ext_1, x_newB, r_nil, r_fAddr, Nat.zero_add, b_lss, b_leq, b_gtr, b_geq, b_eql, b_neq, u_not, Bool.not_true, Bool.not_false, oneOf_one, oneOf_two, again_normal, again_exit, again_ret, Bool.and_true, hx0, l0, l1, l2, l3, hlen, c1, c2, decide_true, decide_false]
      · by_cases c3 : w.2.1 < 0
        · simp -implicitDefEqProofs only [r_opt, r_ret, ob_some, ifB_true, iteV_true, iteV_false, r_gdt, r_gdt2, r_gdtf, r_gdtf2, r_gdff, r_gdff2, r_gdft, r_gdft2, r_gdu, r_gdu2, pick_t, pick_f, ext_0, ext_1, x_newB, r_nil, r_fAddr, Nat.zero_add, b_lss, b_leq, b_gtr, b_geq, b_eql, b_neq, u_not, Bool.not_true, Bool.not_false, oneOf_one, oneOf_two, again_normal, again_exit, again_ret, Bool.and_true, hx0, l0, l1, l2, l3, hlen, c1, c2, c3, decide_true, decide_false]
        · by_cases c4 : (ports : Int) ≤ w.2.1
          · simp -implicitDefEqProofs only [r_opt, r_ret, ob_some, ifB_true, iteV_true, iteV_false, r_gdt, r_gdt2, r_gdtf, r_gdtf2, r_gdff, r_gdff2, r_gdft, r_gdft2, r_gdu, r_gdu2, pick_t, pick_f, ext_0, ext_1, x_newB, r_nil, r_fAddr, Nat.zero_add, b_lss, b_leq, b_gtr, b_geq, b_eql, b_neq, u_not, Bool.not_true, Bool.not_false, oneOf_one, oneOf_two, again_normal, again_exit, again_ret, Bool.and_true, hx0, l0, l1, l2, l3, hlen, c1, c2, c3, c4, decide_true, decide_false]
          · by_cases c5 : w.2.2 < 0
            · simp -implicitDefEqProofs only [r_opt, r_ret, ob_some, ifB_true, iteV_true, iteV_false, r_gdt, r_gdt2, r_gdtf, r_gdtf2, r_gdff, r_gdff2, r_gdft, r_gdft2, r_gdu, r_gdu2, pick_t, pick_f, ext_0, ext_1, x_newB, r_nil, r_fAddr, Nat.zero_add, b_lss, b_leq, b_gtr, b_geq, b_eql, b_neq, u_not, Bool.not_true, Bool.not_false, oneOf_one, oneOf_two, again_normal, again_exit, again_ret, Bool.and_true, hx0, l0, l1, l2, l3, hlen, c1, c2, c3, c4, c5, decide_true, decide_false]
            · by_cases c6 : (lanes : Int) ≤ w.2.2
              · simp -implicitDefEqProofs only [r_opt, r_ret, ob_some, ifB_true, iteV_true, iteV_false, r_gdt, r_gdt2, r_gdtf, r_gdtf2, r_gdff, r_gdff2, r_gdft, r_gdft2, r_gdu, r_gdu2, pick_t, pick_f, ext_0, ext_1, x_newB, r_nil, r_fAddr, Nat.zero_add, b_lss, b_leq, b_gtr, b_geq, b_eql, b_neq, u_not, Bool.not_true, Bool.not_false, oneOf_one, oneOf_two, again_normal, again_exit, again_ret, Bool.and_true, hx0, l0, l1, l2, l3, hlen, c1, c2, c3, c4, c5, c6, decide_true, decide_false]
              · by_cases c7 : (n : Int) ≤ R.length
                · simp -implicitDefEqProofs only [r_opt, r_ret, ob_some, ifB_true, iteV_true, iteV_false, r_gdt, r_gdt2, r_gdtf, r_gdtf2, r_gdff, r_gdff2, r_gdft, r_gdft2, r_gdu, r_gdu2, pick_t, pick_f, ext_0, ext_1, x_newB, r_nil, r_fAddr, Nat.zero_add, b_lss, b_leq, b_gtr, b_geq, b_eql, b_neq, u_not, Bool.not_true, Bool.not_false, oneOf_one, oneOf_two, again_normal, again_exit, again_ret, Bool.and_true, hx0, l0, l1, l2, l3, hlen, c1, c2, c3, c4, c5, c6, c7, decide_true, decide_false]
                · exfalso; exact hok (by unfold valid; simp; omega)

theorem rgAll_loop {a mb p s : Nat} {L : List En} {l : List Slot} {top free : Int} {fl : List Nat} {f : Way → Option Value} {H0 : Heap} {w : Way} {v : Value} (hi0 : RI H0 a L n ports lanes p s mb l top free fl f) (hf : f w = some v) : ∀ (q i k : Nat) (H : Heap) (u : Value), (qOf L w).length - i = q → i ≤ (qOf L w).length → q < k → 100 < m → Ext H0 H → Pks H u ((pkOf L w).take i) → (∀ b, home u b → H0.length ≤ b) → ∀ (x1 x2 x3 x4 x5 x6 x7 x8 x10 x11 x12 x13 x14 x15 x16 x17 x18 x19 x20 x21 x25 x26 x27 x28 x29 x30 x31 x32 x33 x34 x35 x36 x37 x38 x39 x40 x41 x42 : Value),
    ∃ H' u', loopN k (runCode Try.prog (lvl Try.prog pk8 m) (loopN m) f40_c0) (f40_k0 (lvl Try.prog pk8 m) (loopN m)) [(.pointer (some ⟨a, 0, none⟩)), x1, x2, x3, x4, x5, x6, x7, x8, u, x10, x11, x12, x13, x14, x15, x16, x17, x18, x19, x20, x21, v, (.int .i64 (qOf L w).length), (.int .i64 (i : Nat)), x25, x26, x27, x28, x29, x30, x31, x32, x33, x34, x35, x36, x37, x38, x39, x40, x41, x42] H = some (u', H') ∧ Ext H0 H' ∧ Pks H' u' (pkOf L w) ∧ (∀ b, home u' b → H0.length ≤ b) := by
  intro q
  have hql := qp_len L w
  have hqn : (qOf L w).length ≤ 200 := by
    have h1 : (qOf L w).length ≤ L.length := q_le L w
    have := hi0.cnt
    have := hi0.b1
    omega
  induction q with
  | zero =>
    intro i k H u hr hi hk hm hE hu hn
    intros
    obtain ⟨k, rfl⟩ : ∃ n, k = n + 1 := ⟨k - 1, by omega⟩
    obtain rfl : i = (qOf L w).length := by omega
    have e : decide (((qOf L w).length : Int) < (qOf L w).length) = false := by simp
    rw [List.take_of_length_le (by omega)] at hu
    refine ⟨H, u, ?_, hE, hu, hn⟩
    rw [loop_succ, f40_b0_eq]
    unfold f40_b0
    simp -implicitDefEqProofs only [r_opt, r_ret, ob_some, ifB_true, iteV_true, iteV_false, r_gdt, r_gdt2, r_gdtf, r_gdtf2, r_gdff, r_gdff2, r_gdft, r_gdft2, r_gdu, r_gdu2, pick_t, pick_f, ext_0, ext_1, x_newB, r_nil, r_fAddr, Nat.zero_add, b_lss, b_leq, b_gtr, b_geq, b_eql, b_neq, u_not, Bool.not_true, Bool.not_false, oneOf_one, oneOf_two, again_normal, again_exit, again_ret, Bool.and_true, e]
    rw [f40_e0_0_eq]
    unfold f40_e0_0
    rfl
  | succ q ih =>
    intro i k H u hr hi hk hm hE hu hn
    intros
    obtain ⟨k, rfl⟩ : ∃ n, k = n + 1 := ⟨k - 1, by omega⟩
    have hi1 : RI H a L n ports lanes p s mb l top free fl f := hi0.keep fun b x hb _ => by rw [hE.2 b (List.getElem?_eq_some_iff.mp hb).1 id, hb]
    have e : decide ((i : Int) < (qOf L w).length) = true := by simp; omega
    have e3 : IntKind.i64.wrap ((i : Int) + 1) = ((i + 1 : Nat) : Int) := by rw [wrap_i64 (by omega) (by omega)]; omega
    -- the one in the queue
    have hq0 : (qOf L w)[i]? = some ((qOf L w)[i]'(by omega)) := List.getElem?_eq_getElem (by omega)
    obtain ⟨en, hen⟩ : ∃ en, (L.filter fun e => decide (e.1 = w))[i]? = some en := by
      unfold qOf at hq0
      rw [List.getElem?_map] at hq0
      cases hh : (L.filter fun e => decide (e.1 = w))[i]? with
      | none => rw [hh] at hq0; cases hq0
      | some en => exact ⟨en, rfl⟩
    have hqe : (qOf L w)[i]? = some en.2.1 := by unfold qOf; rw [List.getElem?_map, hen]; rfl
    have hpe : (pkOf L w)[i]? = some en.2.2 := by unfold pkOf; rw [List.getElem?_map, hen]; rfl
    have hin : en ∈ L := (List.mem_filter.mp (List.mem_of_getElem? hen)).1
    obtain ⟨qq, d, hslot⟩ := hi1.full en hin
    have hg := get_yes (pr := pk8) (flatPr_no rfl) (flatPr_no rfl) hi1.pool.pool (m := m) (by omega) en.2.1 qq en.2.2 d hslot
    obtain ⟨bb, oo, g1, g2, g3⟩ := (hi1.yes _ v hf).1.get (i := i) (x := intV en.2.1) (by rw [List.getElem?_map, hqe]; rfl) .i64
    have ld := g3 H rfl
    have lI : intV en.2.1 = .int .i64 en.2.1 := rfl
    rw [lI] at ld
    have l0 := hi1.ld0
    have st1 : stN 4 (.pointer (some ⟨(H ++ [pkB en.2.2]).length, 0, none⟩)) en.2.2.val (H ++ [pkB en.2.2] ++ [pkB pk0]) = some (undef, H ++ [pkB en.2.2] ++ [pkB en.2.2]) := st_pk0 _ _
    have lx : ldN 4 (.pointer (some ⟨(H ++ [pkB en.2.2]).length, 0, none⟩)) (H ++ [pkB en.2.2] ++ [pkB en.2.2]) = some (en.2.2.val, H ++ [pkB en.2.2] ++ [pkB en.2.2]) := ld_pkAt (by simp)
    have htake : (pkOf L w).take (i + 1) = (pkOf L w).take i ++ [en.2.2] := by rw [List.take_add_one, hpe]; rfl
    have hE2 : Ext H0 (H ++ [pkB en.2.2] ++ [pkB en.2.2]) := by
      rw [List.append_assoc]
      exact hE.trans (Fr.app _ _ _)
    obtain ⟨u', H', p1, p2, p3, p4⟩ := pk_push en.2.2 (H := H ++ [pkB en.2.2] ++ [pkB en.2.2]) ((hu.on _).on _) hn hE2 (by rw [List.length_take]; omega)
    rw [loop_succ, f40_b0_eq]
    unfold f40_b0
    simp -implicitDefEqProofs only [r_opt, r_ret, ob_some, ifB_true, iteV_true, iteV_false, r_gdt, r_gdt2, r_gdtf, r_gdtf2, r_gdff, r_gdff2, r_gdft, r_gdft2, r_gdu, r_gdu2, pick_t, pick_f, ext_0, ext_1, x_newB, r_nil, r_fAddr, Nat.zero_add, b_lss, b_leq, b_gtr, b_geq, b_eql, b_neq, u_not, Bool.not_true, Bool.not_false, oneOf_one, oneOf_two, again_normal, again_exit, again_ret, Bool.and_true, e, g1, ld, l0, hg, pkB_zero, st1, lx, bld_pk1, p1, b_add, e3]
    exact ih (i + 1) k H' u' (by omega) (by omega) (by omega) hm p4 (by rw [htake]; exact p2) p3 ..

theorem rgAll_is {a : Nat} {L : List En} (h : IsRings H a L n ports lanes) (hm : 300 < m) (i o k : Int) : ∃ H' u, lvl Try.prog pk8 m (.func 40) [.pointer (some ⟨a, 0, none⟩), .int .i64 i, .int .i64 o, .int .i64 k] H = some (u, H') ∧ Ext H H' ∧ Pks H' u (pkOf L (i, o, k)) ∧ (∀ b, home u b → H.length ≤ b) := by
  obtain ⟨p, s, mb, l, top, free, fl, f, hi⟩ := h
  have l1 := hi.ld1
  have g := hi.mp.get keyW (i, o, k) (.slice none 0 0)
  refine lvl_ex (flatPr_no rfl) (by omega) ?_
  rw [f40_eq]
  unfold f40
  cases hf : f (i, o, k) with
  | none =>
    rw [hf] at g
    simp only [Option.getD_none] at g
    have hq := hi.no _ hf
    have hp : pkOf L (i, o, k) = [] := List.length_eq_zero_iff.mp (by rw [← qp_len, hq]; rfl)
    refine ⟨H, .slice none 0 0, ?_, Fr.refl _ _, by rw [hp]; exact Rw.nil, fun b ⟨_, _, _, h⟩ => by cases h⟩
    obtain ⟨mm, hmm⟩ : ∃ mm, m - 1 = mm + 1 := ⟨m - 2, by omega⟩
    have e : decide ((0 : Int) < 0) = false := rfl
    simp -implicitDefEqProofs only [r_opt, r_ret, ob_some, ifB_true, iteV_true, iteV_false, r_gdt, r_gdt2, r_gdtf, r_gdtf2, r_gdff, r_gdff2, r_gdft, r_gdft2, r_gdu, r_gdu2, pick_t, pick_f, ext_0, ext_1, x_newB, r_nil, r_fAddr, Nat.zero_add, b_lss, b_leq, b_gtr, b_geq, b_eql, b_neq, u_not, Bool.not_true, Bool.not_false, oneOf_one, oneOf_two, again_normal, again_exit, again_ret, Bool.and_true, l1, bW, g, r_lenSl0]
    rw [hmm, loop_succ, f40_b0_eq]
    unfold f40_b0
    simp -implicitDefEqProofs only [r_opt, r_ret, ob_some, ifB_true, iteV_true, iteV_false, r_gdt, r_gdt2, r_gdtf, r_gdtf2, r_gdff, r_gdff2, r_gdft, r_gdft2, r_gdu, r_gdu2, pick_t, pick_f, ext_0, ext_1, x_newB, r_nil, r_fAddr, Nat.zero_add, b_lss, b_leq, b_gtr, b_geq, b_eql, b_neq, u_not, Bool.not_true, Bool.not_false, oneOf_one, oneOf_two, again_normal, again_exit, again_ret, Bool.and_true, e]
    rw [f40_e0_0_eq]
    unfold f40_e0_0
    rfl
  | some v =>
    rw [hf] at g
    simp only [Option.getD_some] at g
    have hl := (hi.yes _ v hf).1.len
    rw [List.length_map] at hl
    have hqn : (qOf L (i, o, k)).length ≤ 200 := by
      have h1 : (qOf L (i, o, k)).length ≤ L.length := q_le L _
      have := hi.cnt
      have := hi.b1
      omega
    simp -implicitDefEqProofs only [r_opt, r_ret, ob_some, ifB_true, iteV_true, iteV_false, r_gdt, r_gdt2, r_gdtf, r_gdtf2, r_gdff, r_gdff2, r_gdft, r_gdft2, r_gdu, r_gdu2, pick_t, pick_f, ext_0, ext_1, x_newB, r_nil, r_fAddr, Nat.zero_add, b_lss, b_leq, b_gtr, b_geq, b_eql, b_neq, u_not, Bool.not_true, Bool.not_false, oneOf_one, oneOf_two, again_normal, again_exit, again_ret, Bool.and_true, l1, bW, g, hl]
    exact rgAll_loop hi hf (qOf L (i, o, k)).length 0 (m - 1) H (.slice none 0 0) (by omega) (by omega) (by omega) (by omega) (Fr.refl _ _) (Rw.nil (el := Pkt.cells)) (fun b ⟨_, _, _, h⟩ => by cases h) ..
end

end Go.Proofs.Ytcmmlgdbpnogjaa
