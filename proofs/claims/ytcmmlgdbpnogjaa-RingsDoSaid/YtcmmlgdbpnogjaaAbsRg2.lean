/-
  RINGS: contracts of New, Len, Head, Push.
-/
import Derived.Test.YtcmmlgdbpnogjaaAbsRg
import Derived.Test.YtcmmlgdbpnogjaaAbsRow
set_option linter.unusedSectionVars false
set_option linter.unusedSimpArgs false
set_option linter.unusedVariables false
set_option maxRecDepth 100000
namespace Go.Proofs.Ytcmmlgdbpnogjaa
open Go.Abs

abbrev pk8 : Prims := flatPr [30]

theorem known8_ok : PrimsOk Try.prog pk8 := flatPr_ok (by kernel_rfl) fun g hg => by
  simp at hg
  subst hg
  exact ⟨300, by kernel_rfl⟩
theorem mix8 : Try.prog.follows .mixedOrders = true := by kernel_rfl
theorem known8_is (n : Nat) (hn : 0 < n) (H : Heap) : lvl Try.prog pk8 n (.func 30) [] H = some (.bool true, H) := flat_call (P := Try.prog) (ids := [30]) (g := 30) rfl hn H

theorem bRg (p mb : Nat) (a b : Int) : bld Try.prog 79 [(0, .pointer (some ⟨p, 0, none⟩)), (1, .map (some mb)), (2, .int .i64 a), (3, .int .i64 b)] = some (.agg #[.pointer (some ⟨p, 0, none⟩), .map (some mb), .int .i64 a, .int .i64 b]) := rfl
theorem newM_is (H : Heap) : newM H = some (.map (some H.length), H ++ [.map [] 0]) := rfl
theorem bldI (H : Heap) (k : Int) : bldSlice 3 1 1 [.int .i64 0] [(0, .int .i64 k)] H = some (.slice (some ⟨H.length, 0, none⟩) 1 1, H ++ [.cells [.int .i64 k] 3 .row]) := rfl
theorem minI3 (a b c : Int) : minmax Try.prog false [.int .i64 a, .int .i64 b, .int .i64 c] = some (.int .i64 (min (min a b) c)) := by
  simp [minmax, flat, purF, pur, Builtin.min_, Builtin.min2, pure, bind, Sem.bind]
  split <;> split <;> omega
theorem maxI2 (a b : Int) : minmax Try.prog true [.int .i64 a, .int .i64 b] = some (.int .i64 (max a b)) := by
  simp [minmax, flat, purF, pur, Builtin.max_, Builtin.max2, pure, bind, Sem.bind]
  split <;> omega

/-- is there such a queue? -/
def valid (w : Way) (ports lanes : Nat) : Bool := decide (0 ≤ min (min w.1 w.2.1) w.2.2) && decide (max w.1 w.2.1 < (ports : Int)) && decide (w.2.2 < (lanes : Int))

theorem Model.keepT {H H' : Heap} {p s : Nat} {l : List Slot} {top free : Int} {fl : List Nat} (h : Model H p s l top free fl)
    (hk : ∀ (b : Nat) (cs : List Value) (e : TypeId) (k : Kind), H[b]? = some (.cells cs e k) → (e = 94 ∧ k = .fix) ∨ (e = 97 ∧ k = .row) ∨ (e = 50 ∧ k = .fix) → H'[b]? = some (.cells cs e k)) : Model H' p s l top free fl :=
  ⟨⟨hk _ _ _ _ h.pool.hp (.inl ⟨rfl, rfl⟩), hk _ _ _ _ h.pool.hs (.inr (.inl ⟨rfl, rfl⟩)), fun i q x d hi => hk _ _ _ _ (h.pool.hq i q x d hi) (.inr (.inr ⟨rfl, rfl⟩))⟩, h.chain, h.nodup, h.full, h.cnt, h.len⟩

section
variable {H : Heap} {a n ports lanes m : Nat} {L : List En}

theorem rgNew_no (hm : 300 < m) (po la sl : Int) (h : ¬ (1 ≤ po ∧ po ≤ 16 ∧ 1 ≤ la ∧ la ≤ 3 ∧ 1 ≤ sl ∧ sl ≤ 200)) : ∃ H', lvl Try.prog pk8 m (.func 29) [.int .i64 po, .int .i64 la, .int .i64 sl] H = some (.pointer none, H') ∧ Ext H H' := by
  by_cases hs : sl < 1 ∨ 200 < sl
  · have g := new_no (H := H) (pr := pk8) (flatPr_no rfl) sl hs (m := m - 1) (by omega)
    refine ⟨H, lvl_at (flatPr_no rfl) (by omega) ?_, Fr.refl _ _⟩
    rw [f29_eq]
    unfold f29
    simp -implicitDefEqProofs only [g, e22', r_opt, r_ret, ob_some, r_gdtf, r_gdtf2, r_gdu, r_gdu2, pick_t, iteV_true, oneOf_one]
  · obtain ⟨k, rfl⟩ : ∃ k : Nat, sl = k := ⟨sl.toNat, by omega⟩
    have g := new_ok (H := H) (pr := pk8) (flatPr_no rfl) k (by omega) (by omega) (m := m - 1) (by omega)
    refine ⟨heapN H (made k), lvl_at (flatPr_no rfl) (by omega) ?_, Fr.app _ _ _⟩
    rw [f29_eq]
    unfold f29
    by_cases h1 : po < 1
    · have e1 : decide (po < 1) = true := decide_eq_true h1
      simp -implicitDefEqProofs only [g, e22, b_lss, e1, r_opt, r_ret, ob_some, r_gdff, r_gdff2, r_gdtf, r_gdtf2, r_gdu, r_gdu2, pick_t, pick_f, iteV_true, oneOf_one]
    · have e1 : decide (po < 1) = false := decide_eq_false h1
      by_cases h2 : 16 < po
      · have e2 : decide (16 < po) = true := decide_eq_true h2
        simp -implicitDefEqProofs only [g, e22, b_lss, b_gtr, e1, e2, r_opt, r_ret, ob_some, r_gdff, r_gdff2, r_gdtf, r_gdtf2, r_gdu, r_gdu2, pick_t, pick_f, iteV_true, oneOf_one]
      · have e2 : decide (16 < po) = false := decide_eq_false h2
        by_cases h3 : la < 1
        · have e3 : decide (la < 1) = true := decide_eq_true h3
          simp -implicitDefEqProofs only [g, e22, b_lss, b_gtr, e1, e2, e3, r_opt, r_ret, ob_some, r_gdff, r_gdff2, r_gdtf, r_gdtf2, r_gdu, r_gdu2, pick_t, pick_f, iteV_true, oneOf_one]
        · have e3 : decide (la < 1) = false := decide_eq_false h3
          have e4 : decide (3 < la) = true := decide_eq_true (by omega)
          simp -implicitDefEqProofs only [g, e22, b_lss, b_gtr, e1, e2, e3, e4, r_opt, r_ret, ob_some, r_gdff, r_gdff2, r_gdtf, r_gdtf2, r_gdu, r_gdu2, pick_t, pick_f, iteV_true, oneOf_one]

theorem rgNew_ok (hm : 300 < m) (po la sl : Nat) (h : 1 ≤ po ∧ po ≤ 16 ∧ 1 ≤ la ∧ la ≤ 3 ∧ 1 ≤ sl ∧ sl ≤ 200) : ∃ a H', lvl Try.prog pk8 m (.func 29) [.int .i64 po, .int .i64 la, .int .i64 sl] H = some (.pointer (some ⟨a, 0, none⟩), H') ∧ Ext H H' ∧ IsRings H' a [] sl po la ∧ H.length ≤ a := by
  have g := new_ok (H := H) (pr := pk8) (flatPr_no rfl) sl (by omega) (by omega) (m := m - 1) (by omega)
  have hM := ((made_model (H := H) sl (by omega) (by omega)).app [Blk.map [] 0]).app [.cells [.pointer (some ⟨H.length + 1, 0, none⟩), .map (some (heapN H (made sl)).length), .int .i64 po, .int .i64 la] 79 .fix]
  have e1 : decide ((po : Int) < 1) = false := decide_eq_false (by omega)
  have e2 : decide (16 < (po : Int)) = false := decide_eq_false (by omega)
  have e3 : decide ((la : Int) < 1) = false := decide_eq_false (by omega)
  have e4 : decide (3 < (la : Int)) = false := decide_eq_false (by omega)
  have hl : (heapN H (made sl)).length = H.length + 2 := by simp [heapN]
  refine ⟨(heapN H (made sl) ++ [Blk.map [] 0]).length, heapN H (made sl) ++ [Blk.map [] 0] ++ [Blk.cells [.pointer (some ⟨H.length + 1, 0, none⟩), .map (some (heapN H (made sl)).length), .int .i64 po, .int .i64 la] 79 .fix], lvl_at (flatPr_no rfl) (by omega) ?_, ?_,
    ⟨H.length + 1, H.length, (heapN H (made sl)).length, made sl, 0, sl, List.range sl, fun _ => none, by simp, hM, made_len sl, by simp, by simp, by simp, ?_, fun w _ => rfl, by simp, by simp, by omega, by omega⟩, by simp [hl]; omega⟩
  · rw [f29_eq]
    unfold f29
    simp -implicitDefEqProofs only [g, e22, b_lss, b_gtr, e1, e2, e3, e4, r_opt, r_ret, ob_some, r_gdff, r_gdff2, pick_f, iteV_false, newM_is, bRg, x_newB, oneOf_one]
    rfl
  · unfold heapN
    rw [List.append_assoc, List.append_assoc]
    exact Fr.app _ _ _
  · have h0 := IsMap.new (enc := wayV) (heapN H (made sl))
    refine h0.keep ?_
    rw [List.getElem?_append_left (by simp)]

theorem right_is (h : IsRings H a L n ports lanes) (hm : 0 < m) (w : Way) : lvl Try.prog pk8 m (.func 48) [.pointer (some ⟨a, 0, none⟩), wayV w] H = some (.bool (valid w ports lanes), H ++ [.cells [.int .i64 w.1, .int .i64 w.2.1, .int .i64 w.2.2] 82 .fix]) := by
  obtain ⟨p, s, mb, l, top, free, fl, f, hi⟩ := h
  have hi' := hi.app [.cells [.int .i64 w.1, .int .i64 w.2.1, .int .i64 w.2.2] 82 .fix]
  have l2 := hi'.ld2
  have l3 := hi'.ld3
  have x0 : ld1 (.pointer (some ⟨H.length, 0, none⟩)) (H ++ [.cells [.int .i64 w.1, .int .i64 w.2.1, .int .i64 w.2.2] 82 .fix]) = some (.int .i64 w.1, H ++ [.cells [.int .i64 w.1, .int .i64 w.2.1, .int .i64 w.2.2] 82 .fix]) := by rw [x_ld1, x_last]; rfl
  have x1 : ld1 (.pointer (some ⟨H.length, 1, none⟩)) (H ++ [.cells [.int .i64 w.1, .int .i64 w.2.1, .int .i64 w.2.2] 82 .fix]) = some (.int .i64 w.2.1, H ++ [.cells [.int .i64 w.1, .int .i64 w.2.1, .int .i64 w.2.2] 82 .fix]) := by rw [x_ld1, x_last]; rfl
  have x2 : ld1 (.pointer (some ⟨H.length, 2, none⟩)) (H ++ [.cells [.int .i64 w.1, .int .i64 w.2.1, .int .i64 w.2.2] 82 .fix]) = some (.int .i64 w.2.2, H ++ [.cells [.int .i64 w.1, .int .i64 w.2.1, .int .i64 w.2.2] 82 .fix]) := by rw [x_ld1, x_last]; rfl
  have hc : (Value.cells (wayV w)).toList = [.int .i64 w.1, .int .i64 w.2.1, .int .i64 w.2.2] := rfl
  refine lvl_at (flatPr_no rfl) (by omega) ?_
  rw [f48_eq]
  unfold f48 valid
  rw [hc]
  by_cases h1 : 0 ≤ min (min w.1 w.2.1) w.2.2
  · have e1 : decide (0 ≤ min (min w.1 w.2.1) w.2.2) = true := decide_eq_true h1
    by_cases h2 : max w.1 w.2.1 < (ports : Int)
    · have e2 : decide (max w.1 w.2.1 < (ports : Int)) = true := decide_eq_true h2
      simp -implicitDefEqProofs only [x_newB, r_fAddr, r_nil, Nat.zero_add, Nat.add_zero, x0, x1, x2, l2, l3, minI3, maxI2, b_geq, b_lss, e1, e2, r_opt, r_ret, ob_some, ifB_true, r_gdt, r_gdt2, pick_t, oneOf_one, Bool.true_and]
    · have e2 : decide (max w.1 w.2.1 < (ports : Int)) = false := decide_eq_false h2
      simp -implicitDefEqProofs only [x_newB, r_fAddr, r_nil, Nat.zero_add, Nat.add_zero, x0, x1, x2, l2, l3, minI3, maxI2, b_geq, b_lss, e1, e2, r_opt, r_ret, ob_some, ifB_true, r_gdt, r_gdt2, r_gdft, r_gdft2, r_gdu, r_gdu2, pick_t, pick_f, oneOf_one, Bool.true_and, Bool.false_and]
  · have e1 : decide (0 ≤ min (min w.1 w.2.1) w.2.2) = false := decide_eq_false h1
    simp -implicitDefEqProofs only [x_newB, r_fAddr, r_nil, Nat.zero_add, Nat.add_zero, x0, x1, x2, l2, l3, minI3, maxI2, b_geq, b_lss, e1, r_opt, r_ret, ob_some, ifB_true, r_gdft, r_gdft2, r_gdu, r_gdu2, pick_f, oneOf_one, Bool.false_and]

theorem rgLen_is (h : IsRings H a L n ports lanes) (hm : 0 < m) (i o k : Int) : lvl Try.prog pk8 m (.func 32) [.pointer (some ⟨a, 0, none⟩), .int .i64 i, .int .i64 o, .int .i64 k] H = some (.int .i64 (qOf L (i, o, k)).length, H) := by
  obtain ⟨p, s, mb, l, top, free, fl, f, hi⟩ := h
  have l1 := hi.ld1
  have g := hi.mp.get keyW (i, o, k) (.slice none 0 0)
  refine lvl_at (flatPr_no rfl) (by omega) ?_
  rw [f32_eq]
  unfold f32
  cases hf : f (i, o, k) with
  | none =>
    rw [hf] at g
    simp only [Option.getD_none] at g
    rw [hi.no _ hf]
    simp -implicitDefEqProofs only [r_nil, r_fAddr, Nat.zero_add, l1, bW, g, r_lenSl0, r_opt, ob_some, oneOf_one]
    rfl
  | some v =>
    rw [hf] at g
    simp only [Option.getD_some] at g
    have hl := (hi.yes _ v hf).1.len
    rw [List.length_map] at hl
    simp -implicitDefEqProofs only [r_nil, r_fAddr, Nat.zero_add, l1, bW, g, hl, r_opt, ob_some, oneOf_one]

theorem st_pk0 (H : Heap) (x : Pkt) : stN 4 (.pointer (some ⟨H.length, 0, none⟩)) x.val (H ++ [pkB pk0]) = some (undef, H ++ [pkB x]) := by
  rw [st_pk, x_last, stC_pk, set_last]
theorem ld_pkAt {H : Heap} {b : Nat} {x : Pkt} (h : H[b]? = some (pkB x)) : ldN 4 (.pointer (some ⟨b, 0, none⟩)) H = some (x.val, H) := by
  rw [x_ldN, h, ldN_pk]
theorem st_pkAt {H : Heap} {b : Nat} {y x : Pkt} (h : H[b]? = some (pkB y)) : stN 4 (.pointer (some ⟨b, 0, none⟩)) x.val H = some (undef, H.set b (pkB x)) := by
  rw [st_pk, h, stC_pk]

/-- the first packet of a queue, or none -/
def headV (ps : List Pkt) : Value := .tuple #[(ps.headD pk0).val, .bool (!ps.isEmpty)]

theorem rgHead_is (h : IsRings H a L n ports lanes) (hm : 10 < m) (i o k : Int) : ∃ H', lvl Try.prog pk8 m (.func 31) [.pointer (some ⟨a, 0, none⟩), .int .i64 i, .int .i64 o, .int .i64 k] H = some (headV (pkOf L (i, o, k)), H') ∧ Ext H H' := by
  obtain ⟨p, s, mb, l, top, free, fl, f, hi⟩ := h
  have hi1 := hi.app [pkB pk0]
  have l1 := hi1.ld1
  have l0 := hi1.ld0
  have g := hi1.mp.get keyW (i, o, k) (.slice none 0 0)
  cases hf : f (i, o, k) with
  | none =>
    rw [hf] at g
    simp only [Option.getD_none] at g
    have hq := hi.no _ hf
    have hp : pkOf L (i, o, k) = [] := List.length_eq_zero_iff.mp (by rw [← qp_len, hq]; rfl)
    rw [hp]
    refine ⟨H ++ [pkB pk0], lvl_at (flatPr_no rfl) (by omega) ?_, Fr.app _ _ _⟩
    rw [f31_eq]
    unfold f31
    have e1 : ((0 : Int) == 0) = true := rfl
    have hl : ldN 4 (.pointer (some ⟨H.length, 0, none⟩)) (H ++ [pkB pk0]) = some (pk0.val, H ++ [pkB pk0]) := ld_pkAt (by simp)
    simp -implicitDefEqProofs only [pkB_zero, x_newB, r_nil, r_fAddr, Nat.zero_add, l1, bW, g, r_lenSl0, b_eql, e1, pk_bld, st_pk0, hl, r_opt, ob_some, iteV_true, oneOf_two]
    rfl
  | some v =>
    rw [hf] at g
    simp only [Option.getD_some] at g
    obtain ⟨hr, hne⟩ := hi1.yes _ v hf
    obtain ⟨k0, ks, hq⟩ : ∃ k0 ks, qOf L (i, o, k) = k0 :: ks := by
      cases hx : qOf L (i, o, k) with
      | nil => exact absurd hx hne
      | cons a b => exact ⟨a, b, rfl⟩
    obtain ⟨x, xs, hp, hin, hlen, hrest⟩ := first_in hq
    rw [hq] at hr
    rw [hp]
    have hl := hr.len
    obtain ⟨bb, oo, g1, g2, g3⟩ := hr.get (i := 0) (x := intV k0) rfl .i64
    obtain ⟨q, d, hslot⟩ := hi.full _ hin
    have hg := get_yes (pr := pk8) (flatPr_no rfl) (flatPr_no rfl) hi1.pool.pool (m := m - 1) (by omega) k0 q x d hslot
    have e1 : ((((k0 :: ks).map intV).length : Int) == 0) = false := by simp; omega
    have hst : stN 4 (.pointer (some ⟨H.length, 0, none⟩)) x.val (H ++ [pkB pk0] ++ [pkB x]) = some (undef, H ++ [pkB x] ++ [pkB x]) := by
      rw [st_pkAt (y := pk0) (by rw [List.getElem?_append_left (by simp)]; simp)]
      simp
    have hld : ldN 4 (.pointer (some ⟨H.length, 0, none⟩)) (H ++ [pkB x] ++ [pkB x]) = some (x.val, H ++ [pkB x] ++ [pkB x]) := ld_pkAt (by rw [List.getElem?_append_left (by simp)]; simp)
    refine ⟨H ++ [pkB x] ++ [pkB x], lvl_at (flatPr_no rfl) (by omega) ?_, by rw [List.append_assoc]; exact Fr.app _ _ _⟩
    rw [f31_eq]
    unfold f31
    have g1' : iAddr 1 v (.int .i64 0) = some (.pointer (some ⟨bb, oo, none⟩)) := g1
    have hk0 : intV k0 = .int .i64 k0 := rfl
    simp -implicitDefEqProofs only [pkB_zero, x_newB, r_nil, r_fAddr, Nat.zero_add, Nat.add_zero, l0, l1, bW, g, hl, b_eql, e1, g1', g3 _ rfl, hk0, hg, ext_0, ext_1, hst, hld, r_opt, ob_some, ifB_true, iteV_false, oneOf_two]
    rfl

end

end Go.Proofs.Ytcmmlgdbpnogjaa
