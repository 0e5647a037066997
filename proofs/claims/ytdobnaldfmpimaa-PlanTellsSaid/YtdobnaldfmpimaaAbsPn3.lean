/-
  PLAN: Beside, Port, Hops.
-/
import Derived.Test.YtdobnaldfmpimaaAbsPn2
set_option linter.unusedSectionVars false
set_option linter.unusedSimpArgs false
set_option linter.unusedVariables false
set_option maxRecDepth 100000
namespace Go.Proofs.Ytdobnaldfmpimaa
open Go.Abs

/-! ### without neighbours alike -/
def dd : List Int → List Int
  | [] => []
  | [x] => [x]
  | x :: y :: r => if x = y then dd (y :: r) else x :: dd (y :: r)

theorem dd_snoc : ∀ (l : List Int) (a b : Int), dd (l ++ [a, b]) = if a = b then dd (l ++ [a]) else dd (l ++ [a]) ++ [b]
  | [], a, b => by
    by_cases h : a = b <;> simp [dd, h]
  | [x], a, b => by
    by_cases h : a = b <;> by_cases h2 : x = a <;> simp [dd, h, h2] <;> simp_all
  | x :: y :: l, a, b => by
    have ih := dd_snoc (y :: l) a b
    simp only [List.cons_append] at ih ⊢
    simp only [dd]
    by_cases h2 : x = y
    · rw [if_pos h2, if_pos h2, ih]
    · rw [if_neg h2, if_neg h2, ih]
      by_cases h : a = b
      · rw [if_pos h, if_pos h]
      · rw [if_neg h, if_neg h]
        rfl
theorem dd_take {zs : List Int} {j : Nat} {a b : Int} (h0 : 0 < j) (ha : zs[j - 1]? = some a) (hb : zs[j]? = some b) : dd (zs.take (j + 1)) = if b = a then dd (zs.take j) else dd (zs.take j) ++ [b] := by
  have e1 : zs.take j = zs.take (j - 1) ++ [a] := by
    have := List.take_add_one (l := zs) (i := j - 1)
    rw [ha, show j - 1 + 1 = j by omega] at this
    simpa using this
  have e2 : zs.take (j + 1) = zs.take (j - 1) ++ [a, b] := by
    rw [List.take_add_one, hb, e1]
    simp
  rw [e2, dd_snoc, ← e1]
  by_cases h : a = b
  · rw [if_pos h, if_pos h.symm]
  · rw [if_neg h, if_neg (Ne.symm h)]
theorem dd_le : ∀ l : List Int, (dd l).length ≤ l.length
  | [] => Nat.le_refl _
  | [x] => Nat.le_refl _
  | x :: y :: r => by
    have := dd_le (y :: r)
    unfold dd
    split
    · simp only [List.length_cons] at *; omega
    · simp only [List.length_cons] at *; omega

section
variable {H : Heap} {m c cap : Nat} {ys rest : List Value}

theorem ia {o n i : Nat} (h : i < n) : iAddr 1 (.slice (some ⟨c, o, none⟩) n cap) (.int .i64 (i : Nat)) = some (.pointer (some ⟨c, o + i, none⟩)) := by
  rw [r_iAddr _ _ _ _ _ _ _ (by omega) (by omega)]
  simp

def rowB (ys : List Int) (rest : List Value) : Blk := .cells (ys.map (Value.int .i64) ++ rest) 3 .row
theorem rd_row {ys : List Int} {i : Nat} {y : Int} (hc : H[c]? = some (rowB ys rest)) (hi : ys[i]? = some y) : ld1 (.pointer (some ⟨c, i, none⟩)) H = some (.int .i64 y, H) := by
  have := (List.getElem?_eq_some_iff.mp hi).1
  rw [x_ld1, hc]
  unfold rowB
  rw [x_ldC, List.getElem?_append_left (by rw [List.length_map]; exact this), List.getElem?_map, hi]
  rfl
theorem st_row {ys : List Int} {i : Nat} (y : Int) (hc : H[c]? = some (rowB ys rest)) (hi : i < ys.length) : stN 1 (.pointer (some ⟨c, i, none⟩)) (.int .i64 y) H = some (undef, H.set c (rowB (ys.set i y) rest)) := by
  rw [x_stN 1 _ _ _ rfl, hc]
  unfold rowB
  have e : (Value.int .i64 y).cells.toList = [.int .i64 y] := rfl
  rw [e, x_stC _ _ _ _ _ _ (by decide) (by simp; omega) rfl]
  congr 3
  simp only [setCells]
  rw [List.set_append_left _ _ (by rw [List.length_map]; exact hi), ← List.map_set]

theorem compact_end {zs ys : List Int} {k : Nat} (hc : H[c]? = some (rowB ys rest)) (hy : ys.length = zs.length) (hk : k < zs.length) (hcap : zs.length ≤ cap) (hrest : rest.length = cap - zs.length) (hd : ys.take k = dd zs) :
    ∃ w H', slc Try.prog 1 (.slice (some ⟨c, 0, none⟩) zs.length cap) (some (.int .i64 (k : Nat))) none none H = some (w, H) ∧ clr 1 [.int .i64 0] w H = some (.tuple #[], H') ∧
      slc Try.prog 1 (.slice (some ⟨c, 0, none⟩) zs.length cap) none (some (.int .i64 (k : Nat))) none H' = some (.slice (some ⟨c, 0, none⟩) k cap, H') ∧ Iw H' (.slice (some ⟨c, 0, none⟩) k cap) (dd zs) ∧ H'.length = H.length ∧ ∀ b, b ≠ c → H'[b]? = H[b]? := by
  have hlt := (List.getElem?_eq_some_iff.mp hc).1
  have g1 := slc_is (P := Try.prog) (H := H) (o := 0) (sz := 1) (len := zs.length) (cap := cap) (lo := some (.int .i64 (k : Nat))) (hi := none) (mx := none) (h := zs.length) (m := cap) (l := k) hc (fun _ => szI) (bnd_nat 0 .i64 k) rfl rfl (by omega) (by omega) (Nat.le_refl _)
  rw [Nat.zero_add, Nat.mul_one] at g1
  obtain ⟨H', hH'⟩ : ∃ H', H' = H.set c (rowB (ys.take k) ((List.replicate (zs.length - k) [Value.int .i64 0]).flatten ++ rest)) := ⟨_, rfl⟩
  have hc' : H'[c]? = some (rowB (ys.take k) ((List.replicate (zs.length - k) [Value.int .i64 0]).flatten ++ rest)) := by rw [hH']; exact List.getElem?_set_self hlt
  have hyk : (ys.take k).length = k := by rw [List.length_take]; omega
  have g2 : clr 1 [.int .i64 0] (.slice (some ⟨c, k, none⟩) (zs.length - k) (cap - k)) H = some (.tuple #[], H') := by
    unfold clr
    simp only
    rw [if_neg (by omega), hc]
    unfold rowB
    simp only
    rw [if_pos ⟨by decide, by simp; omega, rfl, rfl⟩, hH']
    congr 3
    unfold rowB
    congr 1
    have hsplit : ys.map (Value.int .i64) = (ys.take k).map (Value.int .i64) ++ (ys.drop k).map (Value.int .i64) := by rw [← List.map_append, List.take_append_drop]
    have hl : ((List.replicate (zs.length - k) [Value.int .i64 0]).flatten).length = zs.length - k := by simp
    rw [hsplit]
    have := setCells_mid ((List.replicate (zs.length - k) [Value.int .i64 0]).flatten) ((ys.drop k).map (Value.int .i64)) ((ys.take k).map (Value.int .i64)) rest (by rw [hl, List.length_map, List.length_drop]; omega)
    rw [List.length_map, hyk] at this
    rw [this, List.append_assoc]
  have g3 := slc_is (P := Try.prog) (H := H') (o := 0) (sz := 1) (len := zs.length) (cap := cap) (lo := none) (hi := some (.int .i64 (k : Nat))) (mx := none) (h := k) (m := cap) (l := 0) hc' (fun _ => szI) rfl (bnd_nat _ .i64 k) rfl (by omega) (by omega) (Nat.le_refl _)
  rw [Nat.zero_mul, Nat.zero_add, Nat.sub_zero, Nat.sub_zero] at g3
  refine ⟨_, H', g1, g2, g3, ?_, by rw [hH']; simp, fun b hb => by rw [hH']; exact List.getElem?_set_ne (Ne.symm hb)⟩
  have hdl : (dd zs).length = k := by rw [← hd, hyk]
  refine ⟨by rw [inC_flat, List.length_map, Nat.mul_one], .inr ⟨c, cap, (List.replicate (zs.length - k) [Value.int .i64 0]).flatten ++ rest, by rw [hdl], by omega, ?_, by rw [inC_flat, hc', hd]; rfl⟩⟩
  simp [hdl]
  omega

/-- what both ends of Compact say -/
def Comp (H0 : Heap) (c cap : Nat) (zs : List Int) (v : Value) (H' : Heap) : Prop := Iw H' v (dd zs) ∧ (∀ b, home v b → b = c) ∧ H'.length = H0.length ∧ ∀ b, b ≠ c → H'[b]? = H0[b]?

theorem compact_loop1 {zs : List Int} {rest : List Value} {k0 kk : Nat} {H0 : Heap} {Q : Heap → Value → Prop} (hQ : ∀ H' v, Comp H0 c cap zs v H' → Q H' v) (hcap : zs.length ≤ cap) (hrest : rest.length = cap - zs.length) (hn : zs.length ≤ 72057594037927936) (h1 : 1 ≤ k0) :
    ∀ (q j t k : Nat) (H : Heap) (ys : List Int), zs.length - j = q → j ≤ zs.length → q < k → k0 < j → t < j → H[c]? = some (rowB ys rest) → ys.length = zs.length → ys.take t = dd (zs.take j) → ys.drop t = zs.drop t → H.length = H0.length → (∀ b, b ≠ c → H[b]? = H0[b]?) → ∀ (x1 x2 x6 x7 x8 x9 x10 x11 x12 x13 x14 x15 x16 x17 x18 x19 x20 x21 x22 x23 x24 x25 x26 x27 x28 x29 x30 x31 x32 x33 x34 x35 x36 x37 x38 x39 x40 x41 x42 x43 x44 x45 x46 x47 x48 x49 x50 x51 x52 x53 x54 x55 x56 x57 x58 x59 x60 : Value),
    ∃ H' v, loopN k (runCode Try.prog (lvl Try.prog pk12 m) (loopN m) f45_c1) (f45_k1 (lvl Try.prog pk12 m) (loopN m) (again kk (runCode Try.prog (lvl Try.prog pk12 m) (loopN m) f45_c0) (f45_k0 (lvl Try.prog pk12 m) (loopN m)))) [(.slice (some ⟨c, 0, none⟩) zs.length cap), x1, x2, (.int .i64 (t : Nat)), (.slice (some ⟨c, k0, none⟩) (zs.length - k0) (cap - k0)), (.int .i64 (j - k0 : Nat)), x6, x7, x8, x9, x10, x11, x12, x13, x14, x15, x16, x17, x18, x19, x20, x21, x22, x23, x24, x25, x26, x27, x28, x29, x30, x31, x32, x33, x34, x35, x36, x37, x38, x39, x40, x41, x42, x43, x44, x45, x46, x47, x48, x49, x50, x51, x52, x53, x54, x55, x56, x57, x58, x59, x60] H = some (v, H') ∧ Q H' v := by
  intro q
  induction q with
  | zero =>
    intro j t k H ys hr hj hk hkj htj hc hy hd hdr hl hf
    intros
    obtain ⟨k, rfl⟩ : ∃ n, k = n + 1 := ⟨k - 1, by omega⟩
    obtain rfl : j = zs.length := by omega
    rw [List.take_of_length_le (Nat.le_refl _)] at hd
    obtain ⟨w, H', g1, g2, g3, g4, g5, g6⟩ := compact_end hc hy htj hcap hrest hd
    have e : decide (((zs.length - k0 : Nat) : Int) < (zs.length - k0 : Nat)) = false := by simp
    refine ⟨H', .slice (some ⟨c, 0, none⟩) t cap, ?_, hQ _ _ ⟨g4, fun b ⟨_, _, _, h⟩ => by cases h; rfl, by omega, fun b hb => by rw [g6 b hb, hf b hb]⟩⟩
    rw [loop_succ, f45_b1_eq]
    unfold f45_b1
    simp -implicitDefEqProofs only [r_opt, r_ret, ob_some, ifB_true, iteV_true, iteV_false, r_gdt, r_gdt2, r_gdtf, r_gdtf2, r_gdff, r_gdff2, r_gdft, r_gdft2, r_gdu, r_gdu2, pick_t, pick_f, ext_0, ext_1, x_newB, r_nil, r_fAddr, Nat.zero_add, b_lss, b_leq, b_gtr, b_geq, b_eql, b_neq, u_not, Bool.not_true, Bool.not_false, oneOf_one, oneOf_two, again_normal, again_exit, again_ret, Bool.and_true, r_lenSl, e]
    rw [f45_e1_2_eq]
    unfold f45_e1_2
    simp -implicitDefEqProofs only [r_opt, r_ret, ob_some, ifB_true, iteV_true, iteV_false, r_gdt, r_gdt2, r_gdtf, r_gdtf2, r_gdff, r_gdff2, r_gdft, r_gdft2, r_gdu, r_gdu2, pick_t, pick_f, ext_0, ext_1, x_newB, r_nil, r_fAddr, Nat.zero_add, b_lss, b_leq, b_gtr, b_geq, b_eql, b_neq, u_not, Bool.not_true, Bool.not_false, oneOf_one, oneOf_two, again_normal, again_exit, again_ret, Bool.and_true, g1, g2, g3]
    rw [f45_r0_eq]
    rfl
  | succ q ih =>
    intro j t k H ys hr hj hk hkj htj hc hy hd hdr hl hf
    intros
    obtain ⟨k, rfl⟩ : ∃ n, k = n + 1 := ⟨k - 1, by omega⟩
    have e : decide (((j - k0 : Nat) : Int) < (zs.length - k0 : Nat)) = true := by simp; omega
    have e3 : IntKind.i64.wrap (((j - k0 : Nat) : Int) + 1) = ((j + 1 - k0 : Nat) : Int) := by rw [wrap_i64 (by omega) (by omega)]; omega
    have e4 : IntKind.i64.wrap (((j - k0 : Nat) : Int) - 1) = ((j - 1 - k0 : Nat) : Int) := by rw [wrap_i64 (by omega) (by omega)]; omega
    have e5 : IntKind.i64.wrap ((t : Int) + 1) = ((t + 1 : Nat) : Int) := by rw [wrap_i64 (by omega) (by omega)]; omega
    have get : ∀ i, t ≤ i → ys[i]? = zs[i]? := fun i hi => by
      have := congrArg (·[i - t]?) hdr
      simp only [List.getElem?_drop] at this
      rwa [show t + (i - t) = i by omega] at this
    have ga : ys[j - 1]? = some (zs[j - 1]'(by omega)) := by rw [get _ (by omega)]; exact List.getElem?_eq_getElem (by omega)
    have gb : ys[j]? = some (zs[j]'(by omega)) := by rw [get _ (by omega)]; exact List.getElem?_eq_getElem (by omega)
    have i1 : iAddr 1 (.slice (some ⟨c, k0, none⟩) (zs.length - k0) (cap - k0)) (.int .i64 (j - k0 : Nat)) = some (.pointer (some ⟨c, j, none⟩)) := by rw [ia (by omega), show k0 + (j - k0) = j by omega]
    have i2 : iAddr 1 (.slice (some ⟨c, k0, none⟩) (zs.length - k0) (cap - k0)) (.int .i64 (j - 1 - k0 : Nat)) = some (.pointer (some ⟨c, j - 1, none⟩)) := by rw [ia (by omega), show k0 + (j - 1 - k0) = j - 1 by omega]
    have i3 : iAddr 1 (.slice (some ⟨c, 0, none⟩) zs.length cap) (.int .i64 (t : Nat)) = some (.pointer (some ⟨c, t, none⟩)) := by rw [ia (by omega), Nat.zero_add]
    have l1 := rd_row hc gb
    have l2 := rd_row hc ga
    have s1 := st_row (i := t) (zs[j]'(by omega)) hc (by omega)
    have hdt := dd_take (zs := zs) (j := j) (by omega) (List.getElem?_eq_getElem (show j - 1 < zs.length by omega)) (List.getElem?_eq_getElem (show j < zs.length by omega))
    rw [loop_succ, f45_b1_eq]
    unfold f45_b1
    by_cases hx : zs[j]'(by omega) = zs[j - 1]'(by omega)
    · have d : ((zs[j]'(by omega)) != (zs[j - 1]'(by omega))) = false := by simp [hx]
      rw [if_pos hx] at hdt
      simp -implicitDefEqProofs only [r_opt, r_ret, ob_some, ifB_true, iteV_true, iteV_false, r_gdt, r_gdt2, r_gdtf, r_gdtf2, r_gdff, r_gdff2, r_gdft, r_gdft2, r_gdu, r_gdu2, pick_t, pick_f, ext_0, ext_1, x_newB, r_nil, r_fAddr, Nat.zero_add, b_lss, b_leq, b_gtr, b_geq, b_eql, b_neq, u_not, Bool.not_true, Bool.not_false, oneOf_one, oneOf_two, again_normal, again_exit, again_ret, Bool.and_true, r_lenSl, e, i1, l1, b_sub, e4, i2, l2, d, b_add, e3]
      exact ih (j + 1) t k H ys (by omega) (by omega) (by omega) (by omega) (by omega) hc hy (by rw [hdt]; exact hd) hdr hl hf ..
    · have d : ((zs[j]'(by omega)) != (zs[j - 1]'(by omega))) = true := by simp [hx]
      rw [if_neg hx] at hdt
      simp -implicitDefEqProofs only [r_opt, r_ret, ob_some, ifB_true, iteV_true, iteV_false, r_gdt, r_gdt2, r_gdtf, r_gdtf2, r_gdff, r_gdff2, r_gdft, r_gdft2, r_gdu, r_gdu2, pick_t, pick_f, ext_0, ext_1, x_newB, r_nil, r_fAddr, Nat.zero_add, b_lss, b_leq, b_gtr, b_geq, b_eql, b_neq, u_not, Bool.not_true, Bool.not_false, oneOf_one, oneOf_two, again_normal, again_exit, again_ret, Bool.and_true, r_lenSl, e, i1, l1, b_sub, e4, i2, l2, d, i3, s1, b_add, e3, e5]
      refine ih (j + 1) (t + 1) k _ (ys.set t (zs[j]'(by omega))) (by omega) (by omega) (by omega) (by omega) (by omega) (List.getElem?_set_self (List.getElem?_eq_some_iff.mp hc).1) (by rw [List.length_set]; exact hy) ?_ ?_ (by rw [List.length_set]; exact hl) (fun b hb => by rw [List.getElem?_set_ne (Ne.symm hb)]; exact hf b hb) ..
      · rw [hdt, ← hd, List.take_add_one, List.getElem?_set_self (by omega), List.take_set_of_le (Nat.le_refl _)]
        rfl
      · rw [List.drop_set_of_lt (by omega), ← List.drop_drop (i := 1), hdr, List.drop_drop]

theorem compact_loop0 {zs : List Int} {rest : List Value} {Q : Heap → Value → Prop} (hQ : ∀ H' v, Comp H c cap zs v H' → Q H' v) (hcap : zs.length ≤ cap) (hrest : rest.length = cap - zs.length) (hn : zs.length + 10 < m) (hm : m ≤ 72057594037927936) (hc : H[c]? = some (rowB zs rest)) :
    ∀ (q j k : Nat), zs.length - j = q → 1 ≤ j → j ≤ zs.length → q < k → dd (zs.take j) = zs.take j → ∀ (x1 x2 x4 x5 x6 x7 x8 x9 x10 x11 x12 x13 x14 x15 x16 x17 x18 x19 x20 x21 x22 x23 x24 x25 x26 x27 x28 x29 x30 x31 x32 x33 x34 x35 x36 x37 x38 x39 x40 x41 x42 x43 x44 x45 x46 x47 x48 x49 x50 x51 x52 x53 x54 x55 x56 x57 x58 x59 x60 : Value),
    ∃ H' v, loopN k (runCode Try.prog (lvl Try.prog pk12 m) (loopN m) f45_c0) (f45_k0 (lvl Try.prog pk12 m) (loopN m)) [(.slice (some ⟨c, 0, none⟩) zs.length cap), x1, x2, (.int .i64 (j : Nat)), x4, x5, x6, x7, x8, x9, x10, x11, x12, x13, x14, x15, x16, x17, x18, x19, x20, x21, x22, x23, x24, x25, x26, x27, x28, x29, x30, x31, x32, x33, x34, x35, x36, x37, x38, x39, x40, x41, x42, x43, x44, x45, x46, x47, x48, x49, x50, x51, x52, x53, x54, x55, x56, x57, x58, x59, x60] H = some (v, H') ∧ Q H' v := by
  intro q
  induction q with
  | zero =>
    intro j k hr h1 hj hk hd
    intros
    obtain ⟨k, rfl⟩ : ∃ n, k = n + 1 := ⟨k - 1, by omega⟩
    obtain rfl : j = zs.length := by omega
    rw [List.take_of_length_le (Nat.le_refl _)] at hd
    have e : decide ((zs.length : Int) < zs.length) = false := by simp
    refine ⟨H, .slice (some ⟨c, 0, none⟩) zs.length cap, ?_, hQ _ _ ⟨?_, fun b ⟨_, _, _, h⟩ => by cases h; rfl, rfl, fun b hb => rfl⟩⟩
    · rw [loop_succ, f45_b0_eq]
      unfold f45_b0
      simp -implicitDefEqProofs only [r_opt, r_ret, ob_some, ifB_true, iteV_true, iteV_false, r_gdt, r_gdt2, r_gdtf, r_gdtf2, r_gdff, r_gdff2, r_gdft, r_gdft2, r_gdu, r_gdu2, pick_t, pick_f, ext_0, ext_1, x_newB, r_nil, r_fAddr, Nat.zero_add, b_lss, b_leq, b_gtr, b_geq, b_eql, b_neq, u_not, Bool.not_true, Bool.not_false, oneOf_one, oneOf_two, again_normal, again_exit, again_ret, Bool.and_true, r_lenSl, e]
      rw [f45_e0_0_eq]
      rfl
    · rw [hd]
      exact ⟨by rw [inC_flat, List.length_map, Nat.mul_one], .inr ⟨c, cap, rest, rfl, hcap, by rw [hrest, Nat.mul_one], by rw [inC_flat, hc]; rfl⟩⟩
  | succ q ih =>
    intro j k hr h1 hj hk hd
    intros
    obtain ⟨k, rfl⟩ : ∃ n, k = n + 1 := ⟨k - 1, by omega⟩
    have e : decide ((j : Int) < zs.length) = true := by simp; omega
    have e3 : IntKind.i64.wrap ((j : Int) + 1) = ((j + 1 : Nat) : Int) := by rw [wrap_i64 (by omega) (by omega)]; omega
    have e4 : IntKind.i64.wrap ((j : Int) - 1) = ((j - 1 : Nat) : Int) := by rw [wrap_i64 (by omega) (by omega)]; omega
    have i1 : iAddr 1 (.slice (some ⟨c, 0, none⟩) zs.length cap) (.int .i64 (j : Nat)) = some (.pointer (some ⟨c, j, none⟩)) := by rw [ia (by omega), Nat.zero_add]
    have i2 : iAddr 1 (.slice (some ⟨c, 0, none⟩) zs.length cap) (.int .i64 (j - 1 : Nat)) = some (.pointer (some ⟨c, j - 1, none⟩)) := by rw [ia (by omega), Nat.zero_add]
    have ga : zs[j - 1]? = some (zs[j - 1]'(by omega)) := List.getElem?_eq_getElem (by omega)
    have gb : zs[j]? = some (zs[j]'(by omega)) := List.getElem?_eq_getElem (by omega)
    have l1 := rd_row hc gb
    have l2 := rd_row hc ga
    have hdt := dd_take (zs := zs) (j := j) (by omega) ga gb
    rw [loop_succ, f45_b0_eq]
    unfold f45_b0
    by_cases hx : zs[j]'(by omega) = zs[j - 1]'(by omega)
    · have d : ((zs[j]'(by omega)) == (zs[j - 1]'(by omega))) = true := by simp [hx]
      have g1 := slc_is (P := Try.prog) (H := H) (o := 0) (sz := 1) (len := zs.length) (cap := cap) (lo := some (.int .i64 (j : Nat))) (hi := none) (mx := none) (h := zs.length) (m := cap) (l := j) hc (fun _ => szI) (bnd_nat 0 .i64 j) rfl rfl (by omega) (by omega) (Nat.le_refl _)
      rw [Nat.zero_add, Nat.mul_one] at g1
      rw [if_pos hx] at hdt
      have e1 : (1 : Int) = ((j + 1 - j : Nat) : Int) := by omega
      simp -implicitDefEqProofs only [r_opt, r_ret, ob_some, ifB_true, iteV_true, iteV_false, r_gdt, r_gdt2, r_gdtf, r_gdtf2, r_gdff, r_gdff2, r_gdft, r_gdft2, r_gdu, r_gdu2, pick_t, pick_f, ext_0, ext_1, x_newB, r_nil, r_fAddr, Nat.zero_add, b_lss, b_leq, b_gtr, b_geq, b_eql, b_neq, u_not, Bool.not_true, Bool.not_false, oneOf_one, oneOf_two, again_normal, again_exit, again_ret, Bool.and_true, r_lenSl, e, i1, l1, b_sub, e4, i2, l2, d, g1]
      have := compact_loop1 (m := m) (kk := k) (H0 := H) (cap := cap) (c := c) (k0 := j) hQ hcap hrest (by omega) h1 (zs.length - (j + 1)) (j + 1) j m H zs rfl (by omega) (by omega) (by omega) (by omega) hc rfl (by rw [hdt, hd]) rfl rfl (fun _ _ => rfl)
      rw [← e1] at this
      exact this ..
    · have d : ((zs[j]'(by omega)) == (zs[j - 1]'(by omega))) = false := by simp [hx]
      rw [if_neg hx] at hdt
      simp -implicitDefEqProofs only [r_opt, r_ret, ob_some, ifB_true, iteV_true, iteV_false, r_gdt, r_gdt2, r_gdtf, r_gdtf2, r_gdff, r_gdff2, r_gdft, r_gdft2, r_gdu, r_gdu2, pick_t, pick_f, ext_0, ext_1, x_newB, r_nil, r_fAddr, Nat.zero_add, b_lss, b_leq, b_gtr, b_geq, b_eql, b_neq, u_not, Bool.not_true, Bool.not_false, oneOf_one, oneOf_two, again_normal, again_exit, again_ret, Bool.and_true, r_lenSl, e, i1, l1, b_sub, e4, i2, l2, d, b_add, e3]
      exact ih (j + 1) k (by omega) (by omega) (by omega) (by omega) (by rw [hdt, hd, List.take_add_one, gb]; rfl) ..

theorem compact_is {v : Value} {zs : List Int} {H0 : Heap} (hv : Iw H v zs) (hnew : New H0 v) (he : Ext H0 H) (hn : zs.length + 20 < m) (hm : m ≤ 72057594037927936) : ∃ H' u, lvl Try.prog pk12 m (.func 45) [v] H = some (u, H') ∧ Ext H0 H' ∧ Iw H' u (dd zs) ∧ New H0 u := by
  have hlen := hv.len
  refine lvl_ex (pk_no rfl rfl) (by omega) ?_
  rw [f45_eq]
  unfold f45
  by_cases h2 : zs.length < 2
  · have e : decide ((zs.length : Int) < 2) = true := by simp; omega
    have hd : dd zs = zs := by
      match zs, h2 with
      | [], _ => rfl
      | [x], _ => rfl
      | x :: y :: r, h => exact absurd h (by simp only [List.length_cons]; omega)
    refine ⟨H, v, ?_, he, by rw [hd]; exact hv, hnew⟩
    simp -implicitDefEqProofs only [r_opt, r_ret, ob_some, ifB_true, iteV_true, iteV_false, r_gdt, r_gdt2, r_gdtf, r_gdtf2, r_gdff, r_gdff2, r_gdft, r_gdft2, r_gdu, r_gdu2, pick_t, pick_f, ext_0, ext_1, x_newB, r_nil, r_fAddr, Nat.zero_add, b_lss, b_leq, b_gtr, b_geq, b_eql, b_neq, u_not, Bool.not_true, Bool.not_false, oneOf_one, oneOf_two, again_normal, again_exit, again_ret, Bool.and_true, hlen, e]
  · have e : decide ((zs.length : Int) < 2) = false := by simp; omega
    obtain ⟨hcs, ⟨rfl, h0⟩ | ⟨c, cap, rest, rfl, h1, h2', h3⟩⟩ := hv
    · omega
    · rw [inC_flat] at h3
      rw [Nat.mul_one] at h2'
      have hcl := hnew c ⟨_, _, _, rfl⟩
      simp -implicitDefEqProofs only [r_opt, r_ret, ob_some, ifB_true, iteV_true, iteV_false, r_gdt, r_gdt2, r_gdtf, r_gdtf2, r_gdff, r_gdff2, r_gdft, r_gdft2, r_gdu, r_gdu2, pick_t, pick_f, ext_0, ext_1, x_newB, r_nil, r_fAddr, Nat.zero_add, b_lss, b_leq, b_gtr, b_geq, b_eql, b_neq, u_not, Bool.not_true, Bool.not_false, oneOf_one, oneOf_two, again_normal, again_exit, again_ret, Bool.and_true, hlen, e]
      have hd1 : dd (zs.take 1) = zs.take 1 := by
        match zs with
        | [] => rfl
        | x :: r => rfl
      refine compact_loop0 (fun H' u hC => ?_) h1 h2' (by omega) (by omega) h3 (zs.length - 1) 1 (m - 1) rfl (Nat.le_refl _) (by omega) (by omega) hd1 ..
      obtain ⟨g2, g3, g4, g5⟩ := hC
      refine ⟨⟨by rw [g4]; exact he.1, fun b hb _ => ?_⟩, g2, fun b hb => by rw [g3 b hb]; exact hcl⟩
      rw [g5 b (by omega), he.2 b hb id]
end

/-! ### Beside -/
def candE (v : Int) (e : Ed) : List Int := if e.1 = e.2 then [] else if e.1 = v then [e.2] else if e.2 = v then [e.1] else []
def cand (es : List Ed) (v : Int) : List Int := es.flatMap (candE v)
def bes (es : List Ed) (v : Int) : List Int := dd (srt (cand es v))
theorem cand_le (v : Int) : ∀ es : List Ed, (cand es v).length ≤ es.length
  | [] => Nat.le_refl _
  | e :: es => by
    have := cand_le v es
    unfold cand at *
    rw [List.flatMap_cons, List.length_append]
    have h1 : (candE v e).length ≤ 1 := by
      unfold candE
      split
      · simp
      · split
        · simp
        · split <;> simp
    simp only [List.length_cons]
    omega
theorem cand_take {es : List Ed} {i : Nat} {e : Ed} (v : Int) (h : es[i]? = some e) : cand (es.take (i + 1)) v = cand (es.take i) v ++ candE v e := by
  unfold cand
  rw [List.take_add_one, h]
  simp
theorem bldI (H : Heap) (k : Int) : bldSlice 3 1 1 [.int .i64 0] [(0, .int .i64 k)] H = some (.slice (some ⟨H.length, 0, none⟩) 1 1, H ++ [.cells (inC k) 3 .row]) := rfl
theorem zEd : Blk.cells [Value.int .i64 0, .int .i64 0] 33 .fix = .cells (edC (0, 0)) 33 .fix := rfl
def edB (y : Ed) : Blk := .cells (edC y) 33 .fix
theorem st_ed (y : Ed) (H : Heap) : stN 2 (.pointer (some ⟨H.length, 0, none⟩)) (edV y) (H ++ [.cells (edC (0, 0)) 33 .fix]) = some (undef, H ++ [edB y]) := by
  rw [x_stN 2 _ _ _ rfl, at_last, x_stC _ _ _ _ _ _ (by decide) (by simp [edC, edV, Value.cells]) rfl]
  simp [edC, edV, Value.cells, setCells, edB]
theorem ld_ed0 {H : Heap} {b : Nat} {y : Ed} (h : H[b]? = some (edB y)) : ld1 (.pointer (some ⟨b, 0, none⟩)) H = some (.int .i64 y.1, H) := by rw [x_ld1, h]; rfl
theorem ld_ed1 {H : Heap} {b : Nat} {y : Ed} (h : H[b]? = some (edB y)) : ld1 (.pointer (some ⟨b, 1, none⟩)) H = some (.int .i64 y.2, H) := by rw [x_ld1, h]; rfl

section
variable {H : Heap} {m : Nat} {p : PlanD} {ev wv nv : Value}

theorem beside_loop {v : Int} {Q : Heap → Value → Prop} (hQ : ∀ H' u, Ext H H' → Iw H' u (bes p.edges v) → New H u → Q H' u) (hx : Es H ev p.edges) (hL : p.edges.length ≤ 17592186043000) (hn : p.edges.length + 30 < m) (hm : m ≤ 72057594037927936) : ∀ (q i k : Nat) (H1 : Heap) (acc : Value), p.edges.length - i = q → i ≤ p.edges.length → q < k → Ext H H1 → Iw H1 acc (cand (p.edges.take i) v) → New H acc → ∀ (x0 x2 x3 x4 x6 x7 x8 x12 x13 x14 x15 x16 x17 x18 x19 x20 x21 x22 x23 x24 x25 x26 x27 x28 x29 x30 x31 x32 x33 x34 x35 x36 x37 x38 x39 x40 x41 x42 x43 x44 x45 : Value),
    ∃ H' u, loopN k (runCode Try.prog (lvl Try.prog pk12 m) (loopN m) f22_c0) (f22_k0 (lvl Try.prog pk12 m) (loopN m)) [x0, (.int .i64 v), x2, x3, x4, acc, x6, x7, x8, ev, (.int .i64 p.edges.length), (.int .i64 (i : Nat)), x12, x13, x14, x15, x16, x17, x18, x19, x20, x21, x22, x23, x24, x25, x26, x27, x28, x29, x30, x31, x32, x33, x34, x35, x36, x37, x38, x39, x40, x41, x42, x43, x44, x45] H1 = some (u, H') ∧ Q H' u := by
  intro q
  induction q with
  | zero =>
    intro i k H1 acc hr hi hk he ha hnew
    intros
    obtain ⟨k, rfl⟩ : ∃ n, k = n + 1 := ⟨k - 1, by omega⟩
    obtain rfl : i = p.edges.length := by omega
    have e : decide ((p.edges.length : Int) < p.edges.length) = false := by simp
    rw [List.take_of_length_le (Nat.le_refl _)] at ha
    have hcl := cand_le v p.edges
    obtain ⟨H2, g1, g2, g3⟩ := sort_rw ha (by omega) hnew he
    have g1' := sort_is m (by omega) [acc] H1
    rw [g1] at g1'
    have hsl := srt_len (cand p.edges v)
    obtain ⟨H3, u, q1, q2, q3, q4⟩ := compact_is (m := m) g2 hnew g3 (by omega) (by omega)
    refine ⟨H3, u, ?_, hQ _ _ q2 q3 q4⟩
    rw [loop_succ, f22_b0_eq]
    unfold f22_b0
    simp -implicitDefEqProofs only [r_opt, r_ret, ob_some, ifB_true, iteV_true, iteV_false, r_gdt, r_gdt2, r_gdtf, r_gdtf2, r_gdff, r_gdff2, r_gdft, r_gdft2, r_gdu, r_gdu2, pick_t, pick_f, ext_0, ext_1, x_newB, r_nil, r_fAddr, Nat.zero_add, b_lss, b_leq, b_gtr, b_geq, b_eql, b_neq, u_not, Bool.not_true, Bool.not_false, oneOf_one, oneOf_two, again_normal, again_exit, again_ret, Bool.and_true, e]
    rw [f22_e0_0_eq]
    unfold f22_e0_0
    simp -implicitDefEqProofs only [r_opt, r_ret, ob_some, ifB_true, iteV_true, iteV_false, r_gdt, r_gdt2, r_gdtf, r_gdtf2, r_gdff, r_gdff2, r_gdft, r_gdft2, r_gdu, r_gdu2, pick_t, pick_f, ext_0, ext_1, x_newB, r_nil, r_fAddr, Nat.zero_add, b_lss, b_leq, b_gtr, b_geq, b_eql, b_neq, u_not, Bool.not_true, Bool.not_false, oneOf_one, oneOf_two, again_normal, again_exit, again_ret, Bool.and_true, g1', q1]
  | succ q ih =>
    intro i k H1 acc hr hi hk he ha hnew
    intros
    obtain ⟨k, rfl⟩ : ∃ n, k = n + 1 := ⟨k - 1, by omega⟩
    have e : decide ((i : Int) < p.edges.length) = true := by simp; omega
    have e3 : IntKind.i64.wrap ((i : Int) + 1) = ((i + 1 : Nat) : Int) := by rw [wrap_i64 (by omega) (by omega)]; omega
    have hxi : p.edges[i]? = some p.edges[i] := List.getElem?_eq_getElem (by omega)
    obtain ⟨b, o, g1, g2, g3⟩ := (hx.ext he).at_ edC_len hxi .i64
    obtain ⟨y, hy⟩ : ∃ y, y = p.edges[i] := ⟨_, rfl⟩
    have l1 : ldN 2 (.pointer (some ⟨b, o, none⟩)) H1 = some (edV y, H1) := by rw [hy]; exact (g3 H1 rfl).1
    rw [← hy] at hxi
    have hct := cand_take v hxi
    have hcl := cand_le v (p.edges.take i)
    rw [List.length_take] at hcl
    have st := st_ed y H1
    obtain ⟨H2, hH2⟩ : ∃ H2, H2 = H1 ++ [edB y] := ⟨_, rfl⟩
    rw [← hH2] at st
    have x1 : Ext H1 H2 := by rw [hH2]; exact Fr.app _ _ _
    have hb : H2[H1.length]? = some (edB y) := by rw [hH2]; exact at_last _ _
    have la := ld_ed0 hb
    have lb := ld_ed1 hb
    have ha2 : Iw H2 acc (cand (p.edges.take i) v) := by rw [hH2]; exact ha.on _
    rw [loop_succ, f22_b0_eq]
    unfold f22_b0
    by_cases c1 : y.1 = y.2
    · have d1 : (y.1 == y.2) = true := by simpa using c1
      have hc0 : candE v y = [] := if_pos c1
      rw [hc0, List.append_nil] at hct
      simp -implicitDefEqProofs only [r_opt, r_ret, ob_some, ifB_true, iteV_true, iteV_false, r_gdt, r_gdt2, r_gdtf, r_gdtf2, r_gdff, r_gdff2, r_gdft, r_gdft2, r_gdu, r_gdu2, pick_t, pick_f, ext_0, ext_1, x_newB, r_nil, r_fAddr, Nat.zero_add, b_lss, b_leq, b_gtr, b_geq, b_eql, b_neq, u_not, Bool.not_true, Bool.not_false, oneOf_one, oneOf_two, again_normal, again_exit, again_ret, Bool.and_true, e, g1, l1, zEd, st, la, lb, d1, b_add, e3]
      exact ih (i + 1) k H2 acc (by omega) (by omega) (by omega) (he.tr x1) (by rw [hct]; exact ha2) hnew ..
    · have d1 : (y.1 == y.2) = false := by simpa using c1
      by_cases c2 : y.1 = v
      · have d2 : (y.1 == v) = true := by simpa using c2
        have hc0 : candE v y = [y.2] := by unfold candE; rw [if_neg c1, if_pos c2]
        rw [hc0] at hct
        obtain ⟨u, H3, t1, t2, t3, t4⟩ := ha2.push1 (by' := 8) inC_len inC_all (by decide) y.2 hnew (he.tr x1) (roomy_mono (n := 17592186044100) (by decide) (by omega))
        simp -implicitDefEqProofs only [r_opt, r_ret, ob_some, ifB_true, iteV_true, iteV_false, r_gdt, r_gdt2, r_gdtf, r_gdtf2, r_gdff, r_gdff2, r_gdft, r_gdft2, r_gdu, r_gdu2, pick_t, pick_f, ext_0, ext_1, x_newB, r_nil, r_fAddr, Nat.zero_add, b_lss, b_leq, b_gtr, b_geq, b_eql, b_neq, u_not, Bool.not_true, Bool.not_false, oneOf_one, oneOf_two, again_normal, again_exit, again_ret, Bool.and_true, e, g1, l1, zEd, st, la, lb, d1, d2, bldI, t1, b_add, e3]
        exact ih (i + 1) k H3 u (by omega) (by omega) (by omega) t4 (by rw [hct]; exact t2) t3 ..
      · have d2 : (y.1 == v) = false := by simpa using c2
        by_cases c3 : y.2 = v
        · have d3 : (y.2 == v) = true := by simpa using c3
          have hc0 : candE v y = [y.1] := by unfold candE; rw [if_neg c1, if_neg c2, if_pos c3]
          rw [hc0] at hct
          obtain ⟨u, H3, t1, t2, t3, t4⟩ := ha2.push1 (by' := 8) inC_len inC_all (by decide) y.1 hnew (he.tr x1) (roomy_mono (n := 17592186044100) (by decide) (by omega))
          simp -implicitDefEqProofs only [r_opt, r_ret, ob_some, ifB_true, iteV_true, iteV_false, r_gdt, r_gdt2, r_gdtf, r_gdtf2, r_gdff, r_gdff2, r_gdft, r_gdft2, r_gdu, r_gdu2, pick_t, pick_f, ext_0, ext_1, x_newB, r_nil, r_fAddr, Nat.zero_add, b_lss, b_leq, b_gtr, b_geq, b_eql, b_neq, u_not, Bool.not_true, Bool.not_false, oneOf_one, oneOf_two, again_normal, again_exit, again_ret, Bool.and_true, e, g1, l1, zEd, st, la, lb, d1, d2, d3, bldI, t1, b_add, e3]
          exact ih (i + 1) k H3 u (by omega) (by omega) (by omega) t4 (by rw [hct]; exact t2) t3 ..
        · have d3 : (y.2 == v) = false := by simpa using c3
          have hc0 : candE v y = [] := by unfold candE; rw [if_neg c1, if_neg c2, if_neg c3]
          rw [hc0, List.append_nil] at hct
          simp -implicitDefEqProofs only [r_opt, r_ret, ob_some, ifB_true, iteV_true, iteV_false, r_gdt, r_gdt2, r_gdtf, r_gdtf2, r_gdff, r_gdff2, r_gdft, r_gdft2, r_gdu, r_gdu2, pick_t, pick_f, ext_0, ext_1, x_newB, r_nil, r_fAddr, Nat.zero_add, b_lss, b_leq, b_gtr, b_geq, b_eql, b_neq, u_not, Bool.not_true, Bool.not_false, oneOf_one, oneOf_two, again_normal, again_exit, again_ret, Bool.and_true, e, g1, l1, zEd, st, la, lb, d1, d2, d3, b_add, e3]
          exact ih (i + 1) k H2 acc (by omega) (by omega) (by omega) (he.tr x1) (by rw [hct]; exact ha2) hnew ..

theorem beside_is (hp : PV H p ev wv nv) (hn : p.edges.length + 40 < m) (hm : m ≤ 72057594037927936) (v : Int) : ∃ H' u, lvl Try.prog pk12 m (.func 22) [plV p ev wv nv, .int .i64 v] H = some (u, H') ∧ Ext H H' ∧ Iw H' u (bes p.edges v) ∧ New H u := by
  refine lvl_ex (pk_no rfl rfl) (by omega) ?_
  have hb := at_last H (plB p ev wv nv)
  have l1 := ld_pl hb 1 _ rfl
  have hlen := hp.e.len
  rw [f22_eq]
  unfold f22
  simp -implicitDefEqProofs only [r_opt, r_ret, ob_some, ifB_true, iteV_true, iteV_false, r_gdt, r_gdt2, r_gdtf, r_gdtf2, r_gdff, r_gdff2, r_gdft, r_gdft2, r_gdu, r_gdu2, pick_t, pick_f, ext_0, ext_1, x_newB, r_nil, r_fAddr, Nat.zero_add, b_lss, b_leq, b_gtr, b_geq, b_eql, b_neq, u_not, Bool.not_true, Bool.not_false, oneOf_one, oneOf_two, again_normal, again_exit, again_ret, Bool.and_true, plV_cells, l1, hlen]
  exact beside_loop (fun H' u h1 h2 h3 => ⟨h1, h2, h3⟩) hp.e hp.be (m := m - 1) (by omega) (by omega) p.edges.length 0 (m - 1) _ _ (by omega) (by omega) (by omega) (Fr.app _ _ _) (Rw.nil (el := inC)) (New.nil _) ..
end

end Go.Proofs.Ytdobnaldfmpimaa
