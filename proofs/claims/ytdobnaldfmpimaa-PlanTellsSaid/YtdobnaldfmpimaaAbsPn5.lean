/-
  PLAN: the reference's Beside, Port, Hops, same.
-/
import Derived.Test.YtdobnaldfmpimaaAbsPn4
set_option linter.unusedSectionVars false
set_option linter.unusedSimpArgs false
set_option linter.unusedVariables false
set_option maxRecDepth 100000
namespace Go.Proofs.Ytdobnaldfmpimaa
open Go.Abs

/-! ### one more in its place, once -/
def layL (x : Int) : List Int → List Int
  | [] => [x]
  | y :: r => if y < x then y :: layL x r else if y = x then x :: r else x :: y :: r
theorem layL_mem (x z : Int) : ∀ l, z ∈ layL x l ↔ z = x ∨ z ∈ l
  | [] => by simp [layL]
  | y :: r => by
    unfold layL
    split
    · simp only [List.mem_cons, layL_mem x z r]
      constructor
      · rintro (h | h | h)
        · exact .inr (.inl h)
        · exact .inl h
        · exact .inr (.inr h)
      · rintro (h | h | h)
        · exact .inr (.inl h)
        · exact .inl h
        · exact .inr (.inr h)
    · split
      · rename_i h
        subst h
        simp
      · simp
theorem layL_len (x : Int) : ∀ l, (layL x l).length ≤ l.length + 1
  | [] => by simp [layL]
  | y :: r => by
    have := layL_len x r
    unfold layL
    split
    · simp only [List.length_cons]; omega
    · split <;> simp only [List.length_cons] <;> omega
theorem layL_pw (x : Int) : ∀ l, l.Pairwise (· < ·) → (layL x l).Pairwise (· < ·)
  | [], _ => by simp [layL]
  | y :: r, h => by
    obtain ⟨h1, h2⟩ := List.pairwise_cons.mp h
    unfold layL
    split
    · rename_i hyx
      refine List.pairwise_cons.mpr ⟨fun z hz => ?_, layL_pw x r h2⟩
      rcases (layL_mem x z r).mp hz with rfl | hz
      · exact hyx
      · exact h1 z hz
    · rename_i hyx
      split
      · rename_i hh
        subst hh
        exact h
      · rename_i hne
        refine List.pairwise_cons.mpr ⟨fun z hz => ?_, h⟩
        rcases List.mem_cons.mp hz with rfl | hz
        · omega
        · have := h1 z hz
          omega
theorem pw_ext : ∀ (l l' : List Int), l.Pairwise (· < ·) → l'.Pairwise (· < ·) → (∀ z, z ∈ l ↔ z ∈ l') → l = l'
  | [], [], _, _, _ => rfl
  | [], y :: r, _, _, h => absurd ((h y).mpr (by simp)) (by simp)
  | x :: l, [], _, _, h => absurd ((h x).mp (by simp)) (by simp)
  | x :: l, y :: r, h1, h2, h => by
    obtain ⟨a1, a2⟩ := List.pairwise_cons.mp h1
    obtain ⟨b1, b2⟩ := List.pairwise_cons.mp h2
    have hxy : x = y := by
      have h3 := (h x).mp (by simp)
      have h4 := (h y).mpr (by simp)
      rcases List.mem_cons.mp h3 with h3 | h3
      · exact h3
      · rcases List.mem_cons.mp h4 with h4 | h4
        · exact h4.symm
        · have := b1 x h3
          have := a1 y h4
          omega
    subst hxy
    rw [pw_ext l r a2 b2 fun z => ?_]
    constructor
    · intro hz
      rcases List.mem_cons.mp ((h z).mp (by simp [hz])) with h3 | h3
      · have := a1 z hz
        omega
      · exact h3
    · intro hz
      rcases List.mem_cons.mp ((h z).mpr (by simp [hz])) with h3 | h3
      · have := b1 z hz
        omega
      · exact h3
def rlist (l xs : List Int) : List Int := xs.foldl (fun l x => layL x l) l
theorem rlist_mem (z : Int) : ∀ (xs l : List Int), z ∈ rlist l xs ↔ z ∈ l ∨ z ∈ xs
  | [], l => by simp [rlist]
  | x :: xs, l => by
    have := rlist_mem z xs (layL x l)
    unfold rlist at *
    rw [List.foldl_cons, this, layL_mem, List.mem_cons]
    constructor
    · rintro ((h | h) | h)
      · exact .inr (.inl h)
      · exact .inl h
      · exact .inr (.inr h)
    · rintro (h | h | h)
      · exact .inl (.inr h)
      · exact .inl (.inl h)
      · exact .inr h
theorem rlist_pw : ∀ (xs l : List Int), l.Pairwise (· < ·) → (rlist l xs).Pairwise (· < ·)
  | [], l, h => h
  | x :: xs, l, h => by
    unfold rlist
    exact rlist_pw xs (layL x l) (layL_pw x l h)
theorem rlist_len : ∀ (xs l : List Int), (rlist l xs).length ≤ l.length + xs.length
  | [], l => by simp [rlist]
  | x :: xs, l => by
    have h1 := rlist_len xs (layL x l)
    have h2 := layL_len x l
    unfold rlist at *
    rw [List.foldl_cons]
    simp only [List.length_cons]
    omega
theorem bes_rlist (es : List Ed) (v : Int) : bes es v = rlist [] (cand es v) := by
  refine pw_ext _ _ (dd_pw _ (srt_pw _)) (rlist_pw _ _ List.Pairwise.nil) fun z => ?_
  rw [rlist_mem]
  unfold bes
  rw [dd_mem, (srt_perm _).mem_iff]
  simp
theorem bes_mem (es : List Ed) (v z : Int) : z ∈ bes es v ↔ z ∈ cand es v := by
  unfold bes
  rw [dd_mem, (srt_perm _).mem_iff]

/-- those below x go ahead -/
theorem layL_split (x : Int) : ∀ (i : Nat) (l : List Int), (∀ j y, j < i → l[j]? = some y → y < x) → i ≤ l.length → layL x l = l.take i ++ layL x (l.drop i)
  | 0, l, _, _ => by simp
  | i + 1, [], _, h => by simp at h
  | i + 1, y :: r, h, hl => by
    have h0 : y < x := h 0 y (by omega) rfl
    have ih := layL_split x i r (fun j z hj hz => h (j + 1) z (by omega) (by simpa using hz)) (by simpa using hl)
    rw [layL, if_pos h0, List.take_succ_cons, List.drop_succ_cons, List.cons_append, ih]
theorem layL_stop (x : Int) : ∀ (l : List Int), (∀ y, l[0]? = some y → ¬ y < x) → layL x l = x :: (if l[0]? = some x then l.drop 1 else l)
  | [], _ => rfl
  | y :: r, h => by
    have h0 := h y rfl
    rw [layL, if_neg h0]
    by_cases hy : y = x
    · subst hy
      simp
    · rw [if_neg hy, if_neg (by simpa using hy)]

section
variable {H : Heap} {m : Nat} {p : PlanD} {ev wv nv : Value}

theorem lay_tail {H0 H1 : Heap} {v acc : Value} {xs : List Int} {x : Int} {i : Nat} (hv : Iw H0 v xs) (hl : xs.length ≤ 17592186043000) (he : Ext H0 H1) (ha : Iw H1 acc (xs.take i)) (hnew : New H0 acc) (hi : i ≤ xs.length) (hlt : ∀ j y, j < i → xs[j]? = some y → y < x) (hstop : ∀ y, xs[i]? = some y → ¬ y < x) (x2 x3 x4 x7 x8 x9 x10 x11 x12 x13 x14 x15 x16 x17 x18 x19 x20 x21 x22 x23 x24 x25 x26 x27 x28 x29 x30 x31 x32 x33 x34 x35 x36 x37 x38 x39 x40 x41 x42 x43 x44 x45 x46 x47 x48 x49 x50 x51 : Value) :
    ∃ H' u, f63_e0_0 (lvl Try.prog pk12 m) (loopN m) v (.int .i64 x) x2 x3 x4 acc (.int .i64 (i : Nat)) x7 x8 x9 x10 x11 x12 x13 x14 x15 x16 x17 x18 x19 x20 x21 x22 x23 x24 x25 x26 x27 x28 x29 x30 x31 x32 x33 x34 x35 x36 x37 x38 x39 x40 x41 x42 x43 x44 x45 x46 x47 x48 x49 x50 x51 H1 = some (u, H') ∧ Ext H0 H' ∧ Iw H' u (layL x xs) ∧ New H0 u := by
  have hsp := layL_split x i xs hlt hi
  have hst := layL_stop x (xs.drop i) (fun y hy => hstop y (by rw [List.getElem?_drop, Nat.add_zero] at hy; exact hy))
  rw [List.getElem?_drop, Nat.add_zero] at hst
  have hv1 : Iw H1 v xs := hv.keep fun b hb => he.2 b (hv.lt hb) id
  have hlen := hv1.len
  obtain ⟨a2, H2, t1, t2, t3, t4⟩ := ha.push1 (by' := 8) inC_len inC_all (by decide) x hnew he (roomy_mono (n := 17592186044100) (by decide) (by rw [List.length_take]; omega))
  have hv2 : Iw H2 v xs := hv.keep fun b hb => t4.2 b (hv.lt hb) id
  unfold f63_e0_0
  by_cases hil : i < xs.length
  · have hxi : xs[i]? = some xs[i] := List.getElem?_eq_getElem hil
    have e1 : decide ((i : Int) < xs.length) = true := decide_eq_true (by omega)
    obtain ⟨b, o, g1, g2, g3⟩ := hv1.rr.at_ inC_len hxi .i64
    have l1 : ld1 (.pointer (some ⟨b, o, none⟩)) H1 = some (.int .i64 xs[i], H1) := (g3 H1 rfl).2.1 0 _ rfl
    by_cases hx : xs[i] = x
    · have d : (xs[i] == x) = true := by simpa using hx
      have e3 : IntKind.i64.wrap ((i : Int) + 1) = ((i + 1 : Nat) : Int) := by rw [wrap_i64 (by omega) (by omega)]; omega
      obtain ⟨w, s1, s2, s3⟩ := hv2.rr.sub (P := Try.prog) inC_len szI (hi := none) (bnd_nat 0 .i64 (i + 1)) (r := xs.length) rfl (by omega) (Nat.le_refl _)
      rw [List.take_of_length_le (Nat.le_refl _)] at s2
      obtain ⟨a3, H3, q1, q2, q3, q4⟩ := t2.more inC_len inC_all (by decide) (by' := 8) s2.rs t3 t4 (roomy_mono (n := 17592186044100) (by decide) (by simp only [List.length_append, List.length_take, List.length_drop, List.length_cons, List.length_nil]; omega))
      refine ⟨H3, a3, ?_, q4, ?_, q3⟩
      · simp -implicitDefEqProofs only [r_opt, r_ret, ob_some, ifB_true, iteV_true, iteV_false, r_gdt, r_gdt2, r_gdtf, r_gdtf2, r_gdff, r_gdff2, r_gdft, r_gdft2, r_gdu, r_gdu2, pick_t, pick_f, ext_0, ext_1, x_newB, r_nil, r_fAddr, Nat.zero_add, b_lss, b_leq, b_gtr, b_geq, b_eql, b_neq, u_not, Bool.not_true, Bool.not_false, oneOf_one, oneOf_two, again_normal, again_exit, again_ret, Bool.and_true, hlen, e1, g1, l1, d, b_add, e3, bldI, t1, s1, q1]
      · rw [hsp, hst, if_pos (by rw [hxi, hx]), List.drop_drop]
        simpa using q2
    · have d : (xs[i] == x) = false := by simpa using hx
      obtain ⟨w, s1, s2, s3⟩ := hv2.rr.sub (P := Try.prog) inC_len szI (hi := none) (bnd_nat 0 .i64 i) (r := xs.length) rfl (by omega) (Nat.le_refl _)
      rw [List.take_of_length_le (Nat.le_refl _)] at s2
      obtain ⟨a3, H3, q1, q2, q3, q4⟩ := t2.more inC_len inC_all (by decide) (by' := 8) s2.rs t3 t4 (roomy_mono (n := 17592186044100) (by decide) (by simp only [List.length_append, List.length_take, List.length_drop, List.length_cons, List.length_nil]; omega))
      refine ⟨H3, a3, ?_, q4, ?_, q3⟩
      · simp -implicitDefEqProofs only [r_opt, r_ret, ob_some, ifB_true, iteV_true, iteV_false, r_gdt, r_gdt2, r_gdtf, r_gdtf2, r_gdff, r_gdff2, r_gdft, r_gdft2, r_gdu, r_gdu2, pick_t, pick_f, ext_0, ext_1, x_newB, r_nil, r_fAddr, Nat.zero_add, b_lss, b_leq, b_gtr, b_geq, b_eql, b_neq, u_not, Bool.not_true, Bool.not_false, oneOf_one, oneOf_two, again_normal, again_exit, again_ret, Bool.and_true, hlen, e1, g1, l1, d, bldI, t1, s1, q1]
      · rw [hsp, hst, if_neg (by rw [hxi]; simpa using hx)]
        simpa using q2
  · have e1 : decide ((i : Int) < xs.length) = false := decide_eq_false (by omega)
    obtain ⟨w, s1, s2, s3⟩ := hv2.rr.sub (P := Try.prog) inC_len szI (hi := none) (bnd_nat 0 .i64 i) (r := xs.length) rfl (by omega) (Nat.le_refl _)
    rw [List.take_of_length_le (Nat.le_refl _)] at s2
    obtain ⟨a3, H3, q1, q2, q3, q4⟩ := t2.more inC_len inC_all (by decide) (by' := 8) s2.rs t3 t4 (roomy_mono (n := 17592186044100) (by decide) (by simp only [List.length_append, List.length_take, List.length_drop, List.length_cons, List.length_nil]; omega))
    refine ⟨H3, a3, ?_, q4, ?_, q3⟩
    · simp -implicitDefEqProofs only [r_opt, r_ret, ob_some, ifB_true, iteV_true, iteV_false, r_gdt, r_gdt2, r_gdtf, r_gdtf2, r_gdff, r_gdff2, r_gdft, r_gdft2, r_gdu, r_gdu2, pick_t, pick_f, ext_0, ext_1, x_newB, r_nil, r_fAddr, Nat.zero_add, b_lss, b_leq, b_gtr, b_geq, b_eql, b_neq, u_not, Bool.not_true, Bool.not_false, oneOf_one, oneOf_two, again_normal, again_exit, again_ret, Bool.and_true, hlen, e1, bldI, t1, s1, q1]
    · rw [hsp, hst, if_neg (by rw [List.getElem?_eq_none (by omega)]; simp)]
      simpa using q2

theorem lay_loop {H0 : Heap} {v : Value} {xs : List Int} {x : Int} (hv : Iw H0 v xs) (hl : xs.length ≤ 17592186043000) : ∀ (q i k : Nat) (H1 : Heap) (acc : Value), xs.length - i = q → i ≤ xs.length → q < k → Ext H0 H1 → Iw H1 acc (xs.take i) → New H0 acc → (∀ j y, j < i → xs[j]? = some y → y < x) → ∀ (x2 x3 x4 x7 x8 x9 x10 x11 x12 x13 x14 x15 x16 x17 x18 x19 x20 x21 x22 x23 x24 x25 x26 x27 x28 x29 x30 x31 x32 x33 x34 x35 x36 x37 x38 x39 x40 x41 x42 x43 x44 x45 x46 x47 x48 x49 x50 x51 : Value),
    ∃ H' u, loopN k (runCode Try.prog (lvl Try.prog pk12 m) (loopN m) f63_c0) (f63_k0 (lvl Try.prog pk12 m) (loopN m)) [v, (.int .i64 x), x2, x3, x4, acc, (.int .i64 (i : Nat)), x7, x8, x9, x10, x11, x12, x13, x14, x15, x16, x17, x18, x19, x20, x21, x22, x23, x24, x25, x26, x27, x28, x29, x30, x31, x32, x33, x34, x35, x36, x37, x38, x39, x40, x41, x42, x43, x44, x45, x46, x47, x48, x49, x50, x51] H1 = some (u, H') ∧ Ext H0 H' ∧ Iw H' u (layL x xs) ∧ New H0 u := by
  intro q

  induction q with
  | zero =>
    intro i k H1 acc hr hi hk he ha hnew hlt
    intros
    obtain ⟨k, rfl⟩ : ∃ n, k = n + 1 := ⟨k - 1, by omega⟩
    obtain rfl : xs.length = i := by omega
    have e : decide (((xs.length : Nat) : Int) < (xs.length : Nat)) = false := by simp
    have hlen := hv.len
    rw [loop_succ, f63_b0_eq]
    unfold f63_b0
    simp -implicitDefEqProofs only [r_opt, r_ret, ob_some, ifB_true, iteV_true, iteV_false, r_gdt, r_gdt2, r_gdtf, r_gdtf2, r_gdff, r_gdff2, r_gdft, r_gdft2, r_gdu, r_gdu2, pick_t, pick_f, ext_0, ext_1, x_newB, r_nil, r_fAddr, Nat.zero_add, b_lss, b_leq, b_gtr, b_geq, b_eql, b_neq, u_not, Bool.not_true, Bool.not_false, oneOf_one, oneOf_two, again_normal, again_exit, again_ret, Bool.and_true, hlen, e]
    rw [f63_e0_0_eq]
    exact lay_tail hv hl he ha hnew (Nat.le_refl _) hlt (fun y hy => by rw [List.getElem?_eq_none (Nat.le_refl _)] at hy; cases hy) ..
  | succ q ih =>
    intro i k H1 acc hr hi hk he ha hnew hlt
    intros
    obtain ⟨k, rfl⟩ : ∃ n, k = n + 1 := ⟨k - 1, by omega⟩
    have e : decide ((i : Int) < (xs.length : Nat)) = true := decide_eq_true (by omega)
    have e3 : IntKind.i64.wrap ((i : Int) + 1) = ((i + 1 : Nat) : Int) := by rw [wrap_i64 (by omega) (by omega)]; omega
    have hlen := hv.len
    have hv1 : Iw H1 v xs := hv.keep fun b hb => he.2 b (hv.lt hb) id
    have hxi : xs[i]? = some xs[i] := List.getElem?_eq_getElem (by omega)
    obtain ⟨b, o, g1, g2, g3⟩ := hv1.rr.at_ inC_len hxi .i64
    have l1 : ld1 (.pointer (some ⟨b, o, none⟩)) H1 = some (.int .i64 xs[i], H1) := (g3 H1 rfl).2.1 0 _ rfl
    rw [loop_succ, f63_b0_eq]
    unfold f63_b0
    by_cases c : xs[i] < x
    · obtain ⟨a2, H2, t1, t2, t3, t4⟩ := ha.push1 (by' := 8) inC_len inC_all (by decide) xs[i] hnew he (roomy_mono (n := 17592186044100) (by decide) (by rw [List.length_take]; omega))
      simp -implicitDefEqProofs only [r_opt, r_ret, ob_some, ifB_true, iteV_true, iteV_false, r_gdt, r_gdt2, r_gdtf, r_gdtf2, r_gdff, r_gdff2, r_gdft, r_gdft2, r_gdu, r_gdu2, pick_t, pick_f, ext_0, ext_1, x_newB, r_nil, r_fAddr, Nat.zero_add, b_lss, b_leq, b_gtr, b_geq, b_eql, b_neq, u_not, Bool.not_true, Bool.not_false, oneOf_one, oneOf_two, again_normal, again_exit, again_ret, Bool.and_true, hlen, e, g1, l1, c, decide_true, bldI, t1, b_add, e3]
      refine ih (i + 1) k H2 a2 (by omega) (by omega) (by omega) t4 (by rw [List.take_add_one, hxi]; exact t2) t3 (fun j y hj hy => ?_) ..
      by_cases hji : j = i
      · subst hji
        rw [hxi] at hy
        cases hy
        exact c
      · exact hlt j y (by omega) hy
    · simp -implicitDefEqProofs only [r_opt, r_ret, ob_some, ifB_true, iteV_true, iteV_false, r_gdt, r_gdt2, r_gdtf, r_gdtf2, r_gdff, r_gdff2, r_gdft, r_gdft2, r_gdu, r_gdu2, pick_t, pick_f, ext_0, ext_1, x_newB, r_nil, r_fAddr, Nat.zero_add, b_lss, b_leq, b_gtr, b_geq, b_eql, b_neq, u_not, Bool.not_true, Bool.not_false, oneOf_one, oneOf_two, again_normal, again_exit, again_ret, Bool.and_true, hlen, e, g1, l1, c, decide_false]
      rw [f63_e0_0_eq]
      exact lay_tail hv hl he ha hnew (by omega) hlt (fun y hy => by rw [hxi] at hy; cases hy; exact c) ..

theorem lay_is {v : Value} {xs : List Int} (hv : Iw H v xs) (x : Int) (hl : xs.length ≤ 17592186043000) (hn : xs.length + 10 < m) (hm : m ≤ 72057594037927936) : ∃ H' u, lvl Try.prog pk12 m (.func 63) [v, .int .i64 x] H = some (u, H') ∧ Ext H H' ∧ Iw H' u (layL x xs) ∧ New H u := by
  refine lvl_ex (pk_no rfl rfl) (by omega) ?_
  rw [f63_eq]
  unfold f63
  exact lay_loop hv (by omega) xs.length 0 (m - 1) H _ (by omega) (by omega) (by omega) (Fr.refl _ _) (Rw.nil (el := inC)) (New.nil _) (fun j y h => by omega) ..

theorem rbes_loop {H0 : Heap} {a : Nat} {v : Int} (hp : Es H0 ev p.edges) (hL : p.edges.length ≤ 17592186043000) (hn : p.edges.length + 50 < m) (hm : m ≤ 72057594037927936) : ∀ (q i k : Nat) (H1 : Heap) (acc : Value), p.edges.length - i = q → i ≤ p.edges.length → q < k → Ext H0 H1 → H0[a]? = some (plB p ev wv nv) → Iw H1 acc (rlist [] (cand (p.edges.take i) v)) → New H0 acc → ∀ (x0 x3 x4 x7 x8 x9 x10 x11 x12 x13 x14 x15 x16 x17 x18 x19 x20 x21 x22 x23 x24 x25 x26 x27 x28 x29 x30 x31 x32 x33 x34 x35 x36 x37 x38 x39 x40 x41 x42 x43 x44 x45 x46 x47 x48 : Value),
    ∃ H' u, loopN k (runCode Try.prog (lvl Try.prog pk12 m) (loopN m) f42_c0) (f42_k0 (lvl Try.prog pk12 m) (loopN m)) [x0, (.int .i64 v), (.pointer (some ⟨a, 0, none⟩)), x3, x4, acc, (.int .i64 (i : Nat)), x7, x8, x9, x10, x11, x12, x13, x14, x15, x16, x17, x18, x19, x20, x21, x22, x23, x24, x25, x26, x27, x28, x29, x30, x31, x32, x33, x34, x35, x36, x37, x38, x39, x40, x41, x42, x43, x44, x45, x46, x47, x48] H1 = some (u, H') ∧ Ext H0 H' ∧ Iw H' u (bes p.edges v) ∧ New H0 u := by
  intro q

  induction q with
  | zero =>
    intro i k H1 acc hr hi hk he hb0 ha hnew
    intros
    obtain ⟨k, rfl⟩ : ∃ n, k = n + 1 := ⟨k - 1, by omega⟩
    obtain rfl : p.edges.length = i := by omega
    have e : decide (((p.edges.length : Nat) : Int) < (p.edges.length : Nat)) = false := by simp
    have hb := ld_of hb0 he
    have l1 := ld_pl hb 1 _ rfl
    have hlen := (hp.ext he).len
    rw [List.take_of_length_le (Nat.le_refl _), ← bes_rlist] at ha
    refine ⟨H1, acc, ?_, he, ha, hnew⟩
    rw [loop_succ, f42_b0_eq]
    unfold f42_b0
    simp -implicitDefEqProofs only [r_opt, r_ret, ob_some, ifB_true, iteV_true, iteV_false, r_gdt, r_gdt2, r_gdtf, r_gdtf2, r_gdff, r_gdff2, r_gdft, r_gdft2, r_gdu, r_gdu2, pick_t, pick_f, ext_0, ext_1, x_newB, r_nil, r_fAddr, Nat.zero_add, b_lss, b_leq, b_gtr, b_geq, b_eql, b_neq, u_not, Bool.not_true, Bool.not_false, oneOf_one, oneOf_two, again_normal, again_exit, again_ret, Bool.and_true, l1, hlen, e]
    rw [f42_e0_0_eq]
    rfl
  | succ q ih =>
    intro i k H1 acc hr hi hk he hb0 ha hnew
    intros
    obtain ⟨k, rfl⟩ : ∃ n, k = n + 1 := ⟨k - 1, by omega⟩
    have e : decide ((i : Int) < (p.edges.length : Nat)) = true := decide_eq_true (by omega)
    have e3 : IntKind.i64.wrap ((i : Int) + 1) = ((i + 1 : Nat) : Int) := by rw [wrap_i64 (by omega) (by omega)]; omega
    have hb := ld_of hb0 he
    have l1 := ld_pl hb 1 _ rfl
    have hlen := (hp.ext he).len
    have hxi : p.edges[i]? = some p.edges[i] := List.getElem?_eq_getElem (by omega)
    obtain ⟨b, o, g1, g2, g3⟩ := (hp.ext he).at_ edC_len hxi .i64
    obtain ⟨y, hy⟩ : ∃ y, y = p.edges[i] := ⟨_, rfl⟩
    have le : ldN 2 (.pointer (some ⟨b, o, none⟩)) H1 = some (edV y, H1) := by rw [hy]; exact (g3 H1 rfl).1
    rw [← hy] at hxi
    have hct := cand_take v hxi
    have hcl := cand_le v (p.edges.take i)
    rw [List.length_take] at hcl
    have hrl := rlist_len (cand (p.edges.take i) v) []
    simp only [List.length_nil] at hrl
    have st := st_ed y H1
    obtain ⟨H2, hH2⟩ : ∃ H2, H2 = H1 ++ [edB y] := ⟨_, rfl⟩
    rw [← hH2] at st
    have x1 : Ext H1 H2 := by rw [hH2]; exact Fr.app _ _ _
    have hb2 : H2[H1.length]? = some (edB y) := by rw [hH2]; exact at_last _ _
    have la := ld_ed0 hb2
    have lb := ld_ed1 hb2
    have ha2 : Iw H2 acc (rlist [] (cand (p.edges.take i) v)) := by rw [hH2]; exact ha.on _
    have rapp : ∀ z, rlist [] (cand (p.edges.take i) v ++ [z]) = layL z (rlist [] (cand (p.edges.take i) v)) := fun z => by unfold rlist; rw [List.foldl_append]; rfl
    rw [loop_succ, f42_b0_eq]
    unfold f42_b0
    by_cases c1 : y.1 = v
    · have d1 : (y.1 == v) = true := by simpa using c1
      by_cases c2 : y.2 = v
      · have d2 : (y.2 != v) = false := by simpa using c2
        have d3 : (y.2 == v) = true := by simpa using c2
        have d4 : (y.1 != v) = false := by simpa using c1
        have hc0 : candE v y = [] := by unfold candE; rw [if_pos (by rw [c1, c2])]
        rw [hc0, List.append_nil] at hct
        simp -implicitDefEqProofs only [r_opt, r_ret, ob_some, ifB_true, iteV_true, iteV_false, r_gdt, r_gdt2, r_gdtf, r_gdtf2, r_gdff, r_gdff2, r_gdft, r_gdft2, r_gdu, r_gdu2, pick_t, pick_f, ext_0, ext_1, x_newB, r_nil, r_fAddr, Nat.zero_add, b_lss, b_leq, b_gtr, b_geq, b_eql, b_neq, u_not, Bool.not_true, Bool.not_false, oneOf_one, oneOf_two, again_normal, again_exit, again_ret, Bool.and_true, l1, hlen, e, g1, le, zEd, st, la, lb, d1, d2, d3, d4, b_add, e3]
        exact ih (i + 1) k H2 acc (by omega) (by omega) (by omega) (he.tr x1) hb0 (by rw [hct]; exact ha2) hnew ..
      · have d2 : (y.2 != v) = true := by simpa using c2
        have d3 : (y.2 == v) = false := by simpa using c2
        have hc0 : candE v y = [y.2] := by unfold candE; rw [if_neg (by rw [c1]; exact fun h => c2 h.symm), if_pos c1]
        rw [hc0] at hct
        obtain ⟨H3, u, q1, q2, q3, q4⟩ := lay_is ha2 y.2 (m := m) (by omega) (by omega) hm
        have hb3 := ld_of hb2 q2
        have la3 := ld_ed0 hb3
        have lb3 := ld_ed1 hb3
        simp -implicitDefEqProofs only [r_opt, r_ret, ob_some, ifB_true, iteV_true, iteV_false, r_gdt, r_gdt2, r_gdtf, r_gdtf2, r_gdff, r_gdff2, r_gdft, r_gdft2, r_gdu, r_gdu2, pick_t, pick_f, ext_0, ext_1, x_newB, r_nil, r_fAddr, Nat.zero_add, b_lss, b_leq, b_gtr, b_geq, b_eql, b_neq, u_not, Bool.not_true, Bool.not_false, oneOf_one, oneOf_two, again_normal, again_exit, again_ret, Bool.and_true, l1, hlen, e, g1, le, zEd, st, la, lb, d1, d2, q1, la3, lb3, d3, b_add, e3]
        exact ih (i + 1) k H3 u (by omega) (by omega) (by omega) ((he.tr x1).tr q2) hb0 (by rw [hct, rapp]; exact q3) (fun b' hb' => Nat.le_trans (he.tr x1).1 (q4 b' hb')) ..
    · have d1 : (y.1 == v) = false := by simpa using c1
      have d4 : (y.1 != v) = true := by simpa using c1
      by_cases c2 : y.2 = v
      · have d3 : (y.2 == v) = true := by simpa using c2
        have hc0 : candE v y = [y.1] := by unfold candE; rw [if_neg (by rw [c2]; exact c1), if_neg c1, if_pos c2]
        rw [hc0] at hct
        obtain ⟨H3, u, q1, q2, q3, q4⟩ := lay_is ha2 y.1 (m := m) (by omega) (by omega) hm
        simp -implicitDefEqProofs only [r_opt, r_ret, ob_some, ifB_true, iteV_true, iteV_false, r_gdt, r_gdt2, r_gdtf, r_gdtf2, r_gdff, r_gdff2, r_gdft, r_gdft2, r_gdu, r_gdu2, pick_t, pick_f, ext_0, ext_1, x_newB, r_nil, r_fAddr, Nat.zero_add, b_lss, b_leq, b_gtr, b_geq, b_eql, b_neq, u_not, Bool.not_true, Bool.not_false, oneOf_one, oneOf_two, again_normal, again_exit, again_ret, Bool.and_true, l1, hlen, e, g1, le, zEd, st, la, lb, d1, d3, d4, q1, b_add, e3]
        exact ih (i + 1) k H3 u (by omega) (by omega) (by omega) ((he.tr x1).tr q2) hb0 (by rw [hct, rapp]; exact q3) (fun b' hb' => Nat.le_trans (he.tr x1).1 (q4 b' hb')) ..
      · have d3 : (y.2 == v) = false := by simpa using c2
        have hc0 : candE v y = [] := by
          unfold candE
          rw [if_neg c1, if_neg c2]
          split <;> rfl
        rw [hc0, List.append_nil] at hct
        simp -implicitDefEqProofs only [r_opt, r_ret, ob_some, ifB_true, iteV_true, iteV_false, r_gdt, r_gdt2, r_gdtf, r_gdtf2, r_gdff, r_gdff2, r_gdft, r_gdft2, r_gdu, r_gdu2, pick_t, pick_f, ext_0, ext_1, x_newB, r_nil, r_fAddr, Nat.zero_add, b_lss, b_leq, b_gtr, b_geq, b_eql, b_neq, u_not, Bool.not_true, Bool.not_false, oneOf_one, oneOf_two, again_normal, again_exit, again_ret, Bool.and_true, l1, hlen, e, g1, le, zEd, st, la, lb, d1, d3, b_add, e3]
        exact ih (i + 1) k H2 acc (by omega) (by omega) (by omega) (he.tr x1) hb0 (by rw [hct]; exact ha2) hnew ..

theorem rbes_is (hp : PV H p ev wv nv) (hn : p.edges.length + 60 < m) (hm : m ≤ 72057594037927936) (v : Int) : ∃ H' u, lvl Try.prog pk12 m (.func 42) [plV p ev wv nv, .int .i64 v] H = some (u, H') ∧ Ext H H' ∧ Iw H' u (bes p.edges v) ∧ New H u := by
  have hL := hp.be
  obtain ⟨H0, hH0⟩ : ∃ H0, H0 = H ++ [plB p ev wv nv] := ⟨_, rfl⟩
  have x0 : Ext H H0 := by rw [hH0]; exact Fr.app _ _ _
  have b0 : H0[H.length]? = some (plB p ev wv nv) := by rw [hH0]; exact at_last _ _
  obtain ⟨H', u, g1, g2, g3, g4⟩ : ∃ H' u, lvl Try.prog pk12 m (.func 42) [plV p ev wv nv, .int .i64 v] H = some (u, H') ∧ Ext H0 H' ∧ Iw H' u (bes p.edges v) ∧ New H0 u := by
    refine lvl_ex (pk_no rfl rfl) (by omega) ?_
    rw [f42_eq]
    unfold f42
    simp -implicitDefEqProofs only [r_opt, r_ret, ob_some, ifB_true, iteV_true, iteV_false, r_gdt, r_gdt2, r_gdtf, r_gdtf2, r_gdff, r_gdff2, r_gdft, r_gdft2, r_gdu, r_gdu2, pick_t, pick_f, ext_0, ext_1, x_newB, r_nil, r_fAddr, Nat.zero_add, b_lss, b_leq, b_gtr, b_geq, b_eql, b_neq, u_not, Bool.not_true, Bool.not_false, oneOf_one, oneOf_two, again_normal, again_exit, again_ret, Bool.and_true, plV_cells, ← hH0]
    exact rbes_loop (hp.e.ext x0) hp.be (m := m - 1) (by omega) (by omega) p.edges.length 0 (m - 1) H0 _ (by omega) (by omega) (by omega) (Fr.refl _ _) b0 (Rw.nil (el := inC)) (New.nil _) ..
  exact ⟨H', u, g1, x0.tr g2, g3, fun b hb => Nat.le_trans x0.1 (g4 b hb)⟩

theorem rport_loop {u : Value} {xs : List Int} {w : Int} (hx : Is H u xs) (hl : xs.length ≤ 17592186043000) : ∀ (q i k : Nat), xs.length - i = q → i ≤ xs.length → q < k → ∀ (x0 x1 x3 x4 x5 x6 x9 x10 x11 x12 x13 x14 x15 x16 x17 x18 x19 x20 x21 x22 x23 x24 x25 : Value),
    loopN k (runCode Try.prog (lvl Try.prog pk12 m) (loopN m) f43_c0) (f43_k0 (lvl Try.prog pk12 m) (loopN m)) [x0, x1, (.int .i64 w), x3, x4, x5, x6, u, (.int .i64 (i : Nat)), x9, x10, x11, x12, x13, x14, x15, x16, x17, x18, x19, x20, x21, x22, x23, x24, x25] H = some (.int .i64 (if fst (fun j => xs[j]? == some w) q i < 0 then fst (fun j => xs[j]? == some w) q i else fst (fun j => xs[j]? == some w) q i + 1), H) := by
  intro q

  induction q with
  | zero =>
    intro i k  hr hi hk 
    intros
    obtain ⟨k, rfl⟩ : ∃ n, k = n + 1 := ⟨k - 1, by omega⟩
    obtain rfl : xs.length = i := by omega
    have e : decide (((xs.length : Nat) : Int) < (xs.length : Nat)) = false := by simp
    have hlen := hx.len
    rw [loop_succ, f43_b0_eq]
    unfold f43_b0
    simp -implicitDefEqProofs only [r_opt, r_ret, ob_some, ifB_true, iteV_true, iteV_false, r_gdt, r_gdt2, r_gdtf, r_gdtf2, r_gdff, r_gdff2, r_gdft, r_gdft2, r_gdu, r_gdu2, pick_t, pick_f, ext_0, ext_1, x_newB, r_nil, r_fAddr, Nat.zero_add, b_lss, b_leq, b_gtr, b_geq, b_eql, b_neq, u_not, Bool.not_true, Bool.not_false, oneOf_one, oneOf_two, again_normal, again_exit, again_ret, Bool.and_true, hlen, e]
    rw [f43_e0_0_eq]
    rfl
  | succ q ih =>
    intro i k  hr hi hk 
    intros
    obtain ⟨k, rfl⟩ : ∃ n, k = n + 1 := ⟨k - 1, by omega⟩
    have e : decide ((i : Int) < (xs.length : Nat)) = true := decide_eq_true (by omega)
    have e3 : IntKind.i64.wrap ((i : Int) + 1) = ((i + 1 : Nat) : Int) := by rw [wrap_i64 (by omega) (by omega)]; omega
    have hlen := hx.len
    have hxi : xs[i]? = some xs[i] := List.getElem?_eq_getElem (by omega)
    obtain ⟨b, o, g1, g2, g3⟩ := hx.at_ inC_len hxi .i64
    have l1 : ld1 (.pointer (some ⟨b, o, none⟩)) H = some (.int .i64 xs[i], H) := (g3 H rfl).2.1 0 _ rfl
    rw [loop_succ, f43_b0_eq]
    unfold f43_b0
    unfold fst
    by_cases h : xs[i] = w
    · have d : (xs[i] == w) = true := by rw [h]; simp
      have d2 : (xs[i]? == some w) = true := by rw [hxi, h]; simp
      have d3 : ¬ ((i : Nat) : Int) < 0 := by omega
      simp -implicitDefEqProofs only [r_opt, r_ret, ob_some, ifB_true, iteV_true, iteV_false, r_gdt, r_gdt2, r_gdtf, r_gdtf2, r_gdff, r_gdff2, r_gdft, r_gdft2, r_gdu, r_gdu2, pick_t, pick_f, ext_0, ext_1, x_newB, r_nil, r_fAddr, Nat.zero_add, b_lss, b_leq, b_gtr, b_geq, b_eql, b_neq, u_not, Bool.not_true, Bool.not_false, oneOf_one, oneOf_two, again_normal, again_exit, again_ret, Bool.and_true, hlen, e, g1, l1, d, b_add, e3]
      rw [f43_r0_eq]
      unfold f43_r0
      rw [if_pos d2, if_neg d3, oneOf_one]
      rfl
    · have d : (xs[i] == w) = false := by simpa using h
      have d2 : ¬ (xs[i]? == some w) = true := by rw [hxi]; simpa using h
      simp -implicitDefEqProofs only [r_opt, r_ret, ob_some, ifB_true, iteV_true, iteV_false, r_gdt, r_gdt2, r_gdtf, r_gdtf2, r_gdff, r_gdff2, r_gdft, r_gdft2, r_gdu, r_gdu2, pick_t, pick_f, ext_0, ext_1, x_newB, r_nil, r_fAddr, Nat.zero_add, b_lss, b_leq, b_gtr, b_geq, b_eql, b_neq, u_not, Bool.not_true, Bool.not_false, oneOf_one, oneOf_two, again_normal, again_exit, again_ret, Bool.and_true, hlen, e, g1, l1, d, b_add, e3]
      rw [if_neg d2]
      exact ih (i + 1) k (by omega) (by omega) (by omega) ..

theorem rport_is (hp : PV H p ev wv nv) (hn : p.edges.length + 70 < m) (hm : m ≤ 72057594037927936) (v w : Int) : ∃ H', lvl Try.prog pk12 m (.func 43) [plV p ev wv nv, .int .i64 v, .int .i64 w] H = some (.int .i64 (portOf p.edges v w), H') ∧ Ext H H' := by
  have hL := hp.be
  obtain ⟨H0, hH0⟩ : ∃ H0, H0 = H ++ [plB p ev wv nv] := ⟨_, rfl⟩
  have x0 : Ext H H0 := by rw [hH0]; exact Fr.app _ _ _
  have b0 : H0[H.length]? = some (plB p ev wv nv) := by rw [hH0]; exact at_last _ _
  have l11 := ld_pl11 b0
  obtain ⟨H1, u, g1, g2, g3, g4⟩ := rbes_is (hp.ext x0) (m := m - 1) (by omega) (by omega) v
  have hb := bes_le p.edges v
  refine lvl_ex1 (pk_no rfl rfl) (by omega) ⟨H1, ?_, x0.tr g2⟩
  rw [f43_eq]
  unfold f43 portOf
  simp -implicitDefEqProofs only [r_opt, r_ret, ob_some, ifB_true, iteV_true, iteV_false, r_gdt, r_gdt2, r_gdtf, r_gdtf2, r_gdff, r_gdff2, r_gdft, r_gdft2, r_gdu, r_gdu2, pick_t, pick_f, ext_0, ext_1, x_newB, r_nil, r_fAddr, Nat.zero_add, b_lss, b_leq, b_gtr, b_geq, b_eql, b_neq, u_not, Bool.not_true, Bool.not_false, oneOf_one, oneOf_two, again_normal, again_exit, again_ret, Bool.and_true, plV_cells, ← hH0, l11, g1]
  exact rport_loop g3.rs (by omega) (bes p.edges v).length 0 (m - 1) (by omega) (by omega) (by omega) ..

theorem same12_loop {u v : Value} {xs ys : List Int} (hu : Is H u xs) (hv : Is H v ys) (hl : xs.length = ys.length) (hx : xs.length ≤ 72057594037927936) : ∀ (q i k : Nat), xs.length - i = q → i ≤ xs.length → q < k → ∀ (x2 x3 x4 x6 x7 x8 x9 x10 x11 x12 x13 x14 x15 x16 x17 x18 x19 x20 x21 x22 x23 x24 x25 : Value),
    loopN k (runCode Try.prog (lvl Try.prog pk12 m) (loopN m) f41_c0) (f41_k0 (lvl Try.prog pk12 m) (loopN m)) [u, v, x2, x3, x4, (.int .i64 (i : Nat)), x6, x7, x8, x9, x10, x11, x12, x13, x14, x15, x16, x17, x18, x19, x20, x21, x22, x23, x24, x25] H = some (.bool (decide (xs.drop i = ys.drop i)), H) := by
  intro q

  induction q with
  | zero =>
    intro i k  hr hi hk 
    intros
    obtain ⟨k, rfl⟩ : ∃ n, k = n + 1 := ⟨k - 1, by omega⟩
    obtain rfl : xs.length = i := by omega
    have e : decide (((xs.length : Nat) : Int) < (xs.length : Nat)) = false := by simp
    have hlen := hu.len
    rw [loop_succ, f41_b0_eq]
    unfold f41_b0
    simp -implicitDefEqProofs only [r_opt, r_ret, ob_some, ifB_true, iteV_true, iteV_false, r_gdt, r_gdt2, r_gdtf, r_gdtf2, r_gdff, r_gdff2, r_gdft, r_gdft2, r_gdu, r_gdu2, pick_t, pick_f, ext_0, ext_1, x_newB, r_nil, r_fAddr, Nat.zero_add, b_lss, b_leq, b_gtr, b_geq, b_eql, b_neq, u_not, Bool.not_true, Bool.not_false, oneOf_one, oneOf_two, again_normal, again_exit, again_ret, Bool.and_true, hlen, e]
    rw [f41_e0_0_eq, List.drop_length, hl, List.drop_length]
    rfl
  | succ q ih =>
    intro i k  hr hi hk 
    intros
    obtain ⟨k, rfl⟩ : ∃ n, k = n + 1 := ⟨k - 1, by omega⟩
    have e : decide ((i : Int) < (xs.length : Nat)) = true := decide_eq_true (by omega)
    have e3 : IntKind.i64.wrap ((i : Int) + 1) = ((i + 1 : Nat) : Int) := by rw [wrap_i64 (by omega) (by omega)]; omega
    have hlen := hu.len
    obtain ⟨b, o, g1, g2, g3⟩ := hu.at_ inC_len (List.getElem?_eq_getElem (show i < xs.length by omega)) .i64
    obtain ⟨b', o', g1', g2', g3'⟩ := hv.at_ inC_len (List.getElem?_eq_getElem (show i < ys.length by omega)) .i64
    have a1 : ld1 (.pointer (some ⟨b, o, none⟩)) H = some (.int .i64 (xs[i]'(by omega)), H) := (g3 H rfl).2.1 0 _ rfl
    have a2 : ld1 (.pointer (some ⟨b', o', none⟩)) H = some (.int .i64 (ys[i]'(by omega)), H) := (g3' H rfl).2.1 0 _ rfl
    have hD : (xs.drop i = ys.drop i) ↔ (xs[i]'(by omega) = ys[i]'(by omega) ∧ xs.drop (i + 1) = ys.drop (i + 1)) := by
      rw [List.drop_eq_getElem_cons (show i < xs.length by omega), List.drop_eq_getElem_cons (show i < ys.length by omega), List.cons.injEq]
    rw [loop_succ, f41_b0_eq]
    unfold f41_b0
    by_cases c : xs[i]'(by omega) = ys[i]'(by omega)
    · have d : (xs[i]'(by omega) != ys[i]'(by omega)) = false := by rw [c]; simp
      simp -implicitDefEqProofs only [r_opt, r_ret, ob_some, ifB_true, iteV_true, iteV_false, r_gdt, r_gdt2, r_gdtf, r_gdtf2, r_gdff, r_gdff2, r_gdft, r_gdft2, r_gdu, r_gdu2, pick_t, pick_f, ext_0, ext_1, x_newB, r_nil, r_fAddr, Nat.zero_add, b_lss, b_leq, b_gtr, b_geq, b_eql, b_neq, u_not, Bool.not_true, Bool.not_false, oneOf_one, oneOf_two, again_normal, again_exit, again_ret, Bool.and_true, hlen, e, g1, g1', a1, a2, d, b_add, e3]
      have hd : decide (xs.drop i = ys.drop i) = decide (xs.drop (i + 1) = ys.drop (i + 1)) := decide_eq_decide.mpr (hD.trans ⟨fun h => h.2, fun h => ⟨c, h⟩⟩)
      rw [hd]
      exact ih (i + 1) k (by omega) (by omega) (by omega) ..
    · have d : (xs[i]'(by omega) != ys[i]'(by omega)) = true := by simpa using c
      simp -implicitDefEqProofs only [r_opt, r_ret, ob_some, ifB_true, iteV_true, iteV_false, r_gdt, r_gdt2, r_gdtf, r_gdtf2, r_gdff, r_gdff2, r_gdft, r_gdft2, r_gdu, r_gdu2, pick_t, pick_f, ext_0, ext_1, x_newB, r_nil, r_fAddr, Nat.zero_add, b_lss, b_leq, b_gtr, b_geq, b_eql, b_neq, u_not, Bool.not_true, Bool.not_false, oneOf_one, oneOf_two, again_normal, again_exit, again_ret, Bool.and_true, hlen, e, g1, g1', a1, a2, d]
      rw [f41_r0_eq]
      have hd : decide (xs.drop i = ys.drop i) = false := decide_eq_false fun h => c (hD.mp h).1
      rw [hd]
      rfl

theorem same12_is {u v : Value} {xs ys : List Int} (hu : Is H u xs) (hv : Is H v ys) (hx : xs.length + 10 < m) (hm : m ≤ 72057594037927936) : lvl Try.prog pk12 m (.func 41) [u, v] H = some (.bool (decide (xs = ys)), H) := by
  have l1 := hu.len
  have l2 := hv.len
  refine lvl_at (pk_no rfl rfl) (by omega) ?_
  rw [f41_eq]
  unfold f41
  by_cases h : xs.length = ys.length
  · have e : ((xs.length : Int) != ys.length) = false := by simp [h]
    simp -implicitDefEqProofs only [r_opt, r_ret, ob_some, ifB_true, iteV_true, iteV_false, r_gdt, r_gdt2, r_gdtf, r_gdtf2, r_gdff, r_gdff2, r_gdft, r_gdft2, r_gdu, r_gdu2, pick_t, pick_f, ext_0, ext_1, x_newB, r_nil, r_fAddr, Nat.zero_add, b_lss, b_leq, b_gtr, b_geq, b_eql, b_neq, u_not, Bool.not_true, Bool.not_false, oneOf_one, oneOf_two, again_normal, again_exit, again_ret, Bool.and_true, l1, l2, e]
    exact same12_loop hu hv h (by omega) xs.length 0 (m - 1) (by omega) (by omega) (by omega) ..
  · have e : ((xs.length : Int) != ys.length) = true := by simp; omega
    have e2 : decide (xs = ys) = false := decide_eq_false fun hh => h (by rw [hh])
    simp -implicitDefEqProofs only [r_opt, r_ret, ob_some, ifB_true, iteV_true, iteV_false, r_gdt, r_gdt2, r_gdtf, r_gdtf2, r_gdff, r_gdff2, r_gdft, r_gdft2, r_gdu, r_gdu2, pick_t, pick_f, ext_0, ext_1, x_newB, r_nil, r_fAddr, Nat.zero_add, b_lss, b_leq, b_gtr, b_geq, b_eql, b_neq, u_not, Bool.not_true, Bool.not_false, oneOf_one, oneOf_two, again_normal, again_exit, again_ret, Bool.and_true, l1, l2, e, e2]

end

end Go.Proofs.Ytdobnaldfmpimaa
