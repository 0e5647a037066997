/-
  PARTS OF THIS CLAIM'S PROOF, laid together by a program of mine out of texts written from templates.
-/
import Derived.Test.YtdobnaldfmpimaaAbsM2
import Derived.Test.YtdobnaldfmpimaaAbsGraph
set_option linter.unusedSectionVars false
set_option linter.unusedSimpArgs false
set_option linter.unusedVariables false
set_option maxRecDepth 100000
namespace Go.Proofs.Ytdobnaldfmpimaa
open Go.Abs
def wtAt (p : PlanD) (a b : Ed) (w : Nat) : Bool := a.2 == b.1 && ((w : Int) != a.2 && ((w : Int) != a.1 && (nx p a.1 w == a.2 && nx p a.2 w == b.2)))
def wt (p : PlanD) (n : Nat) (a b : Ed) : Bool := (List.range n).any (wtAt p a b)
def wrow (p : PlanD) (n : Nat) (hs : List Ed) (a : Ed) : List Int := ((List.range hs.length).filter fun k => wt p n a (hs.getD k (0, 0))).map (fun k : Nat => (k : Int))
def waitsL (p : PlanD) : List (List Int) := if checkOk p = true then (hopsOf p).map (wrow p p.nodes.toNat (hopsOf p)) else []
def idxH (hs : List Ed) (y : Ed) : Int := fst (fun j => hs[j]? == some y) hs.length 0
def aft1 (p : PlanD) (hs : List Ed) (h : Ed) (w : Nat) : List Int :=
  if (w : Int) = h.1 ∨ (w : Int) = h.2 ∨ nx p h.1 w ≠ h.2 then [] else if 0 ≤ idxH hs (h.2, nx p h.2 w) then [idxH hs (h.2, nx p h.2 w)] else []
def aftL (p : PlanD) (n : Nat) (hs : List Ed) (h : Ed) : List Int := (List.range n).flatMap (aft1 p hs h)
theorem fst_sat (p : Nat → Bool) : ∀ q i, 0 ≤ fst p q i → p (fst p q i).toNat = true
  | 0, i => by simp [fst]
  | q + 1, i => by
    unfold fst
    split
    · rename_i h
      intro _
      simpa using h
    · exact fst_sat p q (i + 1)
theorem idxH_some {hs : List Ed} (hn : hs.Nodup) (y : Ed) (k : Nat) : idxH hs y = k ↔ hs[k]? = some y := by
  have key : 0 ≤ idxH hs y → hs[(idxH hs y).toNat]? = some y := fun h => by
    unfold idxH at h ⊢
    have := fst_sat _ _ _ h
    simpa using this
  constructor
  · intro h
    have := key (by omega)
    rw [h] at this
    simpa using this
  · intro h
    have hk := (List.getElem?_eq_some_iff.mp h).1
    have h0 : 0 ≤ idxH hs y := (fst_pos _ _ _).mpr ⟨k, by omega, by omega, by rw [h]; simp⟩
    have h1 := key h0
    have hk1 := (List.getElem?_eq_some_iff.mp h1).1
    have := (List.getElem_inj (h₀ := hk1) (h₁ := hk) hn).mp (by
      rw [(List.getElem?_eq_some_iff.mp h1).2, (List.getElem?_eq_some_iff.mp h).2])
    omega
theorem aft1_le (p : PlanD) (hs : List Ed) (h : Ed) (w : Nat) : (aft1 p hs h w).length ≤ 1 := by
  unfold aft1
  split
  · simp
  · split <;> simp
theorem aft_le (p : PlanD) (hs : List Ed) (h : Ed) : ∀ i, ((List.range i).flatMap (aft1 p hs h)).length ≤ i
  | 0 => by simp
  | i + 1 => by
    have := aft_le p hs h i
    have := aft1_le p hs h i
    rw [List.range_succ, List.flatMap_append]
    simp only [List.length_append, List.flatMap_cons, List.flatMap_nil, List.append_nil]
    omega
theorem wrow_mem {p : PlanD} {n : Nat} {hs : List Ed} {a : Ed} {z : Int} : z ∈ wrow p n hs a ↔ ∃ k b, z = (k : Nat) ∧ hs[k]? = some b ∧ wt p n a b = true := by
  unfold wrow
  simp only [List.mem_map, List.mem_filter, List.mem_range]
  constructor
  · rintro ⟨k, ⟨h1, h2⟩, rfl⟩
    exact ⟨k, hs[k], rfl, List.getElem?_eq_getElem h1, by rwa [List.getD_eq_getElem?_getD, List.getElem?_eq_getElem h1, Option.getD_some] at h2⟩
  · rintro ⟨k, b, rfl, h1, h2⟩
    refine ⟨k, ⟨(List.getElem?_eq_some_iff.mp h1).1, ?_⟩, rfl⟩
    rwa [List.getD_eq_getElem?_getD, h1, Option.getD_some]
theorem wrow_pw (p : PlanD) (n : Nat) (hs : List Ed) (a : Ed) : (wrow p n hs a).Pairwise (· < ·) := by
  unfold wrow
  rw [List.pairwise_map]
  exact (List.Pairwise.filter _ List.pairwise_lt_range).imp fun h => by omega
theorem srt_mem (z : Int) (l : List Int) : z ∈ srt l ↔ z ∈ l := (srt_perm l).mem_iff
theorem aft_wrow {p : PlanD} {n : Nat} {hs : List Ed} (hn : hs.Nodup) (a : Ed) : dd (srt (aftL p n hs a)) = wrow p n hs a := by
  refine pw_ext _ _ (dd_pw _ (srt_pw _)) (wrow_pw p n hs a) fun z => ?_
  rw [dd_mem, srt_mem, wrow_mem]
  unfold aftL wt
  simp only [List.mem_flatMap, List.mem_range, List.any_eq_true]
  constructor
  · rintro ⟨w, hw, hz⟩
    unfold aft1 at hz
    split at hz
    · simp at hz
    · rename_i hc
      split at hz
      · rename_i h0
        simp only [List.mem_singleton] at hz
        have e : idxH hs (a.2, nx p a.2 w) = ((idxH hs (a.2, nx p a.2 w)).toNat : Nat) := by omega
        refine ⟨_, _, by rw [hz]; exact e, (idxH_some hn _ _).mp e, w, hw, ?_⟩
        unfold wtAt
        simp only [Bool.and_eq_true, bne_iff_ne, beq_iff_eq]
        refine ⟨trivial, ?_, ?_, ?_, trivial⟩ <;> omega
      · simp at hz
  · rintro ⟨k, b, rfl, hk, w, hw, hz⟩
    unfold wtAt at hz
    simp only [Bool.and_eq_true, bne_iff_ne, beq_iff_eq] at hz
    obtain ⟨h1, h2, h3, h4, h5⟩ := hz
    refine ⟨w, hw, ?_⟩
    unfold aft1
    rw [if_neg (by omega)]
    have : (a.2, nx p a.2 w) = b := by rw [h5, h1]
    rw [this, (idxH_some hn b k).mpr hk, if_pos (by omega)]
    simp
theorem hops_nd {p : PlanD} {n : Nat} (hk : OkP p n) : (hopsOf p).Nodup ∧ hopsOf p = (List.range n).flatMap (hopAt p.edges) := by
  have hN : hopN p = n := by have := hk.h6; unfold hopN; rw [hk.hn]; omega
  have hho : hopsOf p = (List.range n).flatMap (hopAt p.edges) := by unfold hopsOf; rw [hN]
  refine ⟨?_, hho⟩
  rw [hho]
  exact (hops_pw hk.ve hk.h6).imp fun h hh => by subst hh; omega
theorem hops_in {p : PlanD} {n : Nat} (hk : OkP p n) {h : Ed} (hh : h ∈ hopsOf p) : 0 ≤ h.1 ∧ h.1 < n ∧ 0 ≤ h.2 ∧ h.2 < n := by
  rw [(hops_nd hk).2] at hh
  have := beside_in hk.ve ((hops_mem hk.ve hk.h6).mp hh)
  omega
section
variable {H : Heap} {m : Nat} {p : PlanD} {ev wv nv : Value}
def hpB (h : Ed) : Blk := .cells (edC h) 38 .fix
theorem hp_cells (h : Ed) : Blk.cells (edV h).cells.toList 38 .fix = hpB h := rfl
theorem ld_hp0 {b : Nat} {h : Ed} (hb : H[b]? = some (hpB h)) : ld1 (.pointer (some ⟨b, 0, none⟩)) H = some (.int .i64 h.1, H) := r_ld1 hb rfl
theorem ld_hp1 {b : Nat} {h : Ed} (hb : H[b]? = some (hpB h)) : ld1 (.pointer (some ⟨b, 1, none⟩)) H = some (.int .i64 h.2, H) := r_ld1 hb rfl
theorem ld_hp2 {b : Nat} {h : Ed} (hb : H[b]? = some (hpB h)) : ldN 2 (.pointer (some ⟨b, 0, none⟩)) H = some (edV h, H) := by
  rw [x_ldN, hb]
  unfold hpB
  rw [x_ldNC _ _ _ _ _ (by simp [edC])]
  rfl
theorem eHop (a b : Ed) : bin Try.prog .eql 38 (edV a) (edV b) = some (.bool (a == b)) := by
  have k : kindsOf Try.prog 38 = some [true, true] := by kernel_rfl
  obtain ⟨a1, a2⟩ := a
  obtain ⟨b1, b2⟩ := b
  simp [bin, edV, flat, eqAny, k, eqT, edC]
  rfl
theorem ixH_loop {v : Value} {xs : List Ed} {a : Nat} {y : Ed} (hx : Hs H v xs) (ha : H[a]? = some (hpB y)) (hn : xs.length ≤ 72057594037927936) : ∀ (q i k : Nat), xs.length - i = q → i ≤ xs.length → q < k → ∀ (x1 x2 x4 x5 x6 x9 x10 x11 x12 x13 x14 x15 x16 x17 x18 : Value),
    loopN k (runCode Try.prog (lvl Try.prog pk12 m) (loopN m) f67_c0) (f67_k0 (lvl Try.prog pk12 m) (loopN m)) [v, x1, x2, (.pointer (some ⟨a, 0, none⟩)), x4, x5, x6, (.int .i64 xs.length), (.int .i64 (i : Nat)), x9, x10, x11, x12, x13, x14, x15, x16, x17, x18] H = some (.int .i64 (fst (fun j => xs[j]? == some y) q i), H) := by
  intro q
  have la := ld_hp2 ha
  induction q with
  | zero =>
    intro i k hr hi hk
    intros
    obtain ⟨k, rfl⟩ : ∃ n, k = n + 1 := ⟨k - 1, by omega⟩
    obtain rfl : i = xs.length := by omega
    have e : decide ((xs.length : Int) < xs.length) = false := by simp
    rw [loop_succ, f67_b0_eq]
    unfold f67_b0
    simp -implicitDefEqProofs only [r_opt, r_ret, ob_some, ifB_true, iteV_true, iteV_false, r_gdt, r_gdt2, r_gdtf, r_gdtf2, r_gdff, r_gdff2, r_gdft, r_gdft2, r_gdu, r_gdu2, pick_t, pick_f, ext_0, ext_1, x_newB, r_nil, r_fAddr, Nat.zero_add, b_lss, b_leq, b_gtr, b_geq, b_eql, b_neq, u_not, Bool.not_true, Bool.not_false, oneOf_one, oneOf_two, again_normal, again_exit, again_ret, Bool.and_true, e]
    rw [f67_e0_0_eq]
    rfl
  | succ q ih =>
    intro i k hr hi hk
    intros
    obtain ⟨k, rfl⟩ : ∃ n, k = n + 1 := ⟨k - 1, by omega⟩
    have e : decide ((i : Int) < xs.length) = true := by simp; omega
    have e3 : IntKind.i64.wrap ((i : Int) + 1) = ((i + 1 : Nat) : Int) := by rw [wrap_i64 (by omega) (by omega)]; omega
    have hxi : xs[i]? = some xs[i] := List.getElem?_eq_getElem (by omega)
    obtain ⟨b, o, g1, g2, g3⟩ := hx.at_ edC_len hxi .i64
    have l1 : ldN 2 (.pointer (some ⟨b, o, none⟩)) H = some (edV xs[i], H) := (g3 H rfl).1
    rw [loop_succ, f67_b0_eq]
    unfold f67_b0 fst
    by_cases h : y = xs[i]
    · have d : (y == xs[i]) = true := by rw [h]; simp
      have d2 : (xs[i]? == some y) = true := by rw [hxi, h]; simp
      simp -implicitDefEqProofs only [r_opt, r_ret, ob_some, ifB_true, iteV_true, iteV_false, r_gdt, r_gdt2, r_gdtf, r_gdtf2, r_gdff, r_gdff2, r_gdft, r_gdft2, r_gdu, r_gdu2, pick_t, pick_f, ext_0, ext_1, x_newB, r_nil, r_fAddr, Nat.zero_add, b_lss, b_leq, b_gtr, b_geq, b_eql, b_neq, u_not, Bool.not_true, Bool.not_false, oneOf_one, oneOf_two, again_normal, again_exit, again_ret, Bool.and_true, e, la, g1, l1, eHop, d]
      rw [f67_r0_eq, if_pos d2]
      rfl
    · have d : (y == xs[i]) = false := by simpa using h
      have d2 : ¬ (xs[i]? == some y) = true := by rw [hxi]; simpa using fun hh => h hh.symm
      simp -implicitDefEqProofs only [r_opt, r_ret, ob_some, ifB_true, iteV_true, iteV_false, r_gdt, r_gdt2, r_gdtf, r_gdtf2, r_gdff, r_gdff2, r_gdft, r_gdft2, r_gdu, r_gdu2, pick_t, pick_f, ext_0, ext_1, x_newB, r_nil, r_fAddr, Nat.zero_add, b_lss, b_leq, b_gtr, b_geq, b_eql, b_neq, u_not, Bool.not_true, Bool.not_false, oneOf_one, oneOf_two, again_normal, again_exit, again_ret, Bool.and_true, e, la, g1, l1, eHop, d, b_add, e3]
      rw [if_neg d2]
      exact ih (i + 1) k (by omega) (by omega) (by omega) ..
theorem ixH_is {v : Value} {xs : List Ed} (hx : Hs H v xs) (y : Ed) (hn : xs.length + 10 < m) (hm : m ≤ 72057594037927936) : ∃ H', lvl Try.prog pk12 m (.func 67) [v, edV y] H = some (.int .i64 (idxH xs y), H') ∧ Ext H H' := by
  have x2 : Ext H (H ++ [hpB y]) := Fr.app _ _ _
  have hlen := hx.len
  refine ⟨H ++ [hpB y], lvl_at (pk_no rfl rfl) (by omega) ?_, x2⟩
  rw [f67_eq]
  unfold f67
  simp -implicitDefEqProofs only [r_opt, r_ret, ob_some, ifB_true, iteV_true, iteV_false, r_gdt, r_gdt2, r_gdtf, r_gdtf2, r_gdff, r_gdff2, r_gdft, r_gdft2, r_gdu, r_gdu2, pick_t, pick_f, ext_0, ext_1, x_newB, r_nil, r_fAddr, Nat.zero_add, b_lss, b_leq, b_gtr, b_geq, b_eql, b_neq, u_not, Bool.not_true, Bool.not_false, oneOf_one, oneOf_two, again_normal, again_exit, again_ret, Bool.and_true, hp_cells, hlen]
  exact ixH_loop (hx.ext x2) (at_last H _) (by omega) xs.length 0 (m - 1) (by omega) (by omega) (by omega) ..
theorem after_loop {n : Nat} (hk : OkP p n) {H0 : Heap} {a hb : Nat} {h : Ed} {u : Value} {hs : List Ed} (hh : 0 ≤ h.1 ∧ h.1 < n ∧ 0 ≤ h.2 ∧ h.2 < n) (hp : PV H0 p ev wv nv) (hb0 : H0[a]? = some (plB p ev wv nv)) (hhb : H0[hb]? = some (hpB h)) (hu : Hs H0 u hs) (hsl : hs.length ≤ 100) (hm : 300 < m) (hm2 : m ≤ 72057594037927936) :
    ∀ (q i k : Nat) (H1 : Heap) (acc : Value), n - i = q → i ≤ n → q < k → Ext H0 H1 → Iw H1 acc ((List.range i).flatMap (aft1 p hs h)) → New H0 acc → ∀ (x0 x1 x5 x6 x8 x9 x10 x13 x14 x15 x16 x17 x18 x19 x20 x21 x22 x23 x24 x25 x26 x27 x28 x29 x30 x31 x32 x33 x34 x35 x36 x37 x38 x39 x40 x41 x42 x43 x44 x45 x46 x47 x48 x49 x50 x51 x52 x53 x54 x55 x56 x57 x58 x59 x60 x61 x62 x63 : Value),
    ∃ H' r, loopN k (runCode Try.prog (lvl Try.prog pk12 m) (loopN m) f49_c0) (f49_k0 (lvl Try.prog pk12 m) (loopN m)) [x0, x1, u, (.pointer (some ⟨a, 0, none⟩)), (.pointer (some ⟨hb, 0, none⟩)), x5, x6, acc, x8, x9, x10, (.int .i64 n), (.int .i64 (i : Nat)), x13, x14, x15, x16, x17, x18, x19, x20, x21, x22, x23, x24, x25, x26, x27, x28, x29, x30, x31, x32, x33, x34, x35, x36, x37, x38, x39, x40, x41, x42, x43, x44, x45, x46, x47, x48, x49, x50, x51, x52, x53, x54, x55, x56, x57, x58, x59, x60, x61, x62, x63] H1 = some (r, H') ∧ Ext H0 H' ∧ Iw H' r (dd (srt (aftL p n hs h))) ∧ New H0 r := by
  intro q
  have h6 := hk.h6
  induction q with
  | zero =>
    intro i k H1 acc hr hi hk2 he ha hnew
    intros
    obtain ⟨k, rfl⟩ : ∃ n, k = n + 1 := ⟨k - 1, by omega⟩
    obtain rfl : i = n := by omega
    have e : decide ((i : Int) < (i : Int)) = false := by simp
    have hal := aft_le p hs h i
    obtain ⟨H2, g1, g2, g3⟩ := sort_rw ha (by omega) hnew he
    have g1' := sort_is m (by omega) [acc] H1
    rw [g1] at g1'
    have hsl := srt_len ((List.range i).flatMap (aft1 p hs h))
    obtain ⟨H3, r, q1, q2, q3, q4⟩ := compact_is (m := m) g2 hnew g3 (by omega) (by omega)
    refine ⟨H3, r, ?_, q2, q3, q4⟩
    rw [loop_succ, f49_b0_eq]
    unfold f49_b0
    simp -implicitDefEqProofs only [r_opt, r_ret, ob_some, ifB_true, iteV_true, iteV_false, r_gdt, r_gdt2, r_gdtf, r_gdtf2, r_gdff, r_gdff2, r_gdft, r_gdft2, r_gdu, r_gdu2, pick_t, pick_f, ext_0, ext_1, x_newB, r_nil, r_fAddr, Nat.zero_add, b_lss, b_leq, b_gtr, b_geq, b_eql, b_neq, u_not, Bool.not_true, Bool.not_false, oneOf_one, oneOf_two, again_normal, again_exit, again_ret, Bool.and_true, e]
    rw [f49_e0_0_eq]
    unfold f49_e0_0
    simp -implicitDefEqProofs only [r_opt, r_ret, ob_some, ifB_true, iteV_true, iteV_false, r_gdt, r_gdt2, r_gdtf, r_gdtf2, r_gdff, r_gdff2, r_gdft, r_gdft2, r_gdu, r_gdu2, pick_t, pick_f, ext_0, ext_1, x_newB, r_nil, r_fAddr, Nat.zero_add, b_lss, b_leq, b_gtr, b_geq, b_eql, b_neq, u_not, Bool.not_true, Bool.not_false, oneOf_one, oneOf_two, again_normal, again_exit, again_ret, Bool.and_true, g1', q1]
  | succ q ih =>
    intro i k H1 acc hr hi hk2 he ha hnew
    intros
    obtain ⟨k, rfl⟩ : ∃ n, k = n + 1 := ⟨k - 1, by omega⟩
    have e : decide ((i : Int) < (n : Int)) = true := decide_eq_true (by omega)
    have e3 : IntKind.i64.wrap ((i : Int) + 1) = ((i + 1 : Nat) : Int) := by rw [wrap_i64 (by omega) (by omega)]; omega
    have hb1 := ld_of hhb he
    have h0 := ld_hp0 hb1
    have h1 := ld_hp1 hb1
    have bp := ld_of hb0 he
    have l10 := ld_pl bp 10 _ rfl
    have p1 := hp.ext he
    have hran : (List.range (i + 1)).flatMap (aft1 p hs h) = (List.range i).flatMap (aft1 p hs h) ++ aft1 p hs h i := by
      rw [List.range_succ, List.flatMap_append]
      simp
    have hal := aft_le p hs h i
    have skip : aft1 p hs h i = [] → ∀ (x0 x1 x5 x6 x8 x9 x10 x13 x14 x15 x16 x17 x18 x19 x20 x21 x22 x23 x24 x25 x26 x27 x28 x29 x30 x31 x32 x33 x34 x35 x36 x37 x38 x39 x40 x41 x42 x43 x44 x45 x46 x47 x48 x49 x50 x51 x52 x53 x54 x55 x56 x57 x58 x59 x60 x61 x62 x63 : Value), ∃ H' r, loopN k (runCode Try.prog (lvl Try.prog pk12 m) (loopN m) f49_c0) (f49_k0 (lvl Try.prog pk12 m) (loopN m)) [x0, x1, u, (.pointer (some ⟨a, 0, none⟩)), (.pointer (some ⟨hb, 0, none⟩)), x5, x6, acc, x8, x9, x10, (.int .i64 n), (.int .i64 (i + 1 : Nat)), x13, x14, x15, x16, x17, x18, x19, x20, x21, x22, x23, x24, x25, x26, x27, x28, x29, x30, x31, x32, x33, x34, x35, x36, x37, x38, x39, x40, x41, x42, x43, x44, x45, x46, x47, x48, x49, x50, x51, x52, x53, x54, x55, x56, x57, x58, x59, x60, x61, x62, x63] H1 = some (r, H') ∧ Ext H0 H' ∧ Iw H' r (dd (srt (aftL p n hs h))) ∧ New H0 r := by
      intro h0
      exact ih (i + 1) k H1 acc (by omega) (by omega) (by omega) he (by rw [hran, h0, List.append_nil]; exact ha) hnew
    rw [loop_succ, f49_b0_eq]
    unfold f49_b0
    cases c1 : ((i : Int) == h.1) with
    | true =>
      simp -implicitDefEqProofs only [r_opt, r_ret, ob_some, ifB_true, iteV_true, iteV_false, r_gdt, r_gdt2, r_gdtf, r_gdtf2, r_gdff, r_gdff2, r_gdft, r_gdft2, r_gdu, r_gdu2, pick_t, pick_f, ext_0, ext_1, x_newB, r_nil, r_fAddr, Nat.zero_add, b_lss, b_leq, b_gtr, b_geq, b_eql, b_neq, u_not, Bool.not_true, Bool.not_false, oneOf_one, oneOf_two, again_normal, again_exit, again_ret, Bool.and_true, e, h0, c1, b_add, e3]
      exact skip (by unfold aft1; rw [if_pos (.inl (by simpa using c1))]) ..
    | false =>
      cases c2 : ((i : Int) == h.2) with
      | true =>
        simp -implicitDefEqProofs only [r_opt, r_ret, ob_some, ifB_true, iteV_true, iteV_false, r_gdt, r_gdt2, r_gdtf, r_gdtf2, r_gdff, r_gdff2, r_gdft, r_gdft2, r_gdu, r_gdu2, pick_t, pick_f, ext_0, ext_1, x_newB, r_nil, r_fAddr, Nat.zero_add, b_lss, b_leq, b_gtr, b_geq, b_eql, b_neq, u_not, Bool.not_true, Bool.not_false, oneOf_one, oneOf_two, again_normal, again_exit, again_ret, Bool.and_true, e, h0, h1, c1, c2, b_add, e3]
        exact skip (by unfold aft1; rw [if_pos (.inr (.inl (by simpa using c2)))]) ..
      | false =>
        obtain ⟨a1, u1, a2, g1, g2, g3, g4⟩ := nx_at hk p1 (v := h.1) (w := i) (by omega) (by omega)
        cases c3 : (nx p h.1 i != h.2) with
        | true =>
          simp -implicitDefEqProofs only [r_opt, r_ret, ob_some, ifB_true, iteV_true, iteV_false, r_gdt, r_gdt2, r_gdtf, r_gdtf2, r_gdff, r_gdff2, r_gdft, r_gdft2, r_gdu, r_gdu2, pick_t, pick_f, ext_0, ext_1, x_newB, r_nil, r_fAddr, Nat.zero_add, b_lss, b_leq, b_gtr, b_geq, b_eql, b_neq, u_not, Bool.not_true, Bool.not_false, oneOf_one, oneOf_two, again_normal, again_exit, again_ret, Bool.and_true, e, h0, h1, c1, c2, l10, g1, g2, g3, g4, c3, b_add, e3]
          exact skip (by unfold aft1; rw [if_pos (.inr (.inr (by simpa using c3)))]) ..
        | false =>
          obtain ⟨a3, u3, a4, k1, k2, k3, k4⟩ := nx_at hk p1 (v := h.2) (w := i) (by omega) (by omega)
          have bh : bld Try.prog 38 [(0, .int .i64 h.2), (1, .int .i64 (nx p h.2 i))] = some (edV (h.2, nx p h.2 i)) := bHop _ _
          obtain ⟨H2, x1, x2⟩ := ixH_is (hu.ext he) (h.2, nx p h.2 i) (m := m) (by omega) (by omega)
          have hnot : ¬ ((i : Int) = h.1 ∨ (i : Int) = h.2 ∨ nx p h.1 i ≠ h.2) := by
            have c1' : ¬ (i : Int) = h.1 := by simpa using c1
            have c2' : ¬ (i : Int) = h.2 := by simpa using c2
            have c3' : nx p h.1 i = h.2 := by simpa using c3
            rintro (hx | hx | hx)
            · exact c1' hx
            · exact c2' hx
            · exact hx c3'
          have ha2 : Iw H2 acc ((List.range i).flatMap (aft1 p hs h)) := ha.keep fun b hb => x2.2 b (ha.lt hb) id
          cases c4 : decide (0 ≤ idxH hs (h.2, nx p h.2 i)) with
          | true =>
            obtain ⟨acc2, H3, t1, t2, t3, t4⟩ := ha2.push1 (by' := 8) inC_len inC_all (by decide) (idxH hs (h.2, nx p h.2 i)) hnew (he.tr x2) (roomy_mono (n := 1000000) (by decide) (by omega))
            simp -implicitDefEqProofs only [r_opt, r_ret, ob_some, ifB_true, iteV_true, iteV_false, r_gdt, r_gdt2, r_gdtf, r_gdtf2, r_gdff, r_gdff2, r_gdft, r_gdft2, r_gdu, r_gdu2, pick_t, pick_f, ext_0, ext_1, x_newB, r_nil, r_fAddr, Nat.zero_add, b_lss, b_leq, b_gtr, b_geq, b_eql, b_neq, u_not, Bool.not_true, Bool.not_false, oneOf_one, oneOf_two, again_normal, again_exit, again_ret, Bool.and_true, e, h0, h1, c1, c2, l10, g1, g2, g3, g4, c3, k1, k2, k3, k4, bh, x1, c4, bldI, t1, b_add, e3]
            refine ih (i + 1) k H3 acc2 (by omega) (by omega) (by omega) t4 ?_ t3 ..
            have : aft1 p hs h i = [idxH hs (h.2, nx p h.2 i)] := by unfold aft1; rw [if_neg hnot, if_pos (of_decide_eq_true c4)]
            rw [hran, this]
            exact t2
          | false =>
            simp -implicitDefEqProofs only [r_opt, r_ret, ob_some, ifB_true, iteV_true, iteV_false, r_gdt, r_gdt2, r_gdtf, r_gdtf2, r_gdff, r_gdff2, r_gdft, r_gdft2, r_gdu, r_gdu2, pick_t, pick_f, ext_0, ext_1, x_newB, r_nil, r_fAddr, Nat.zero_add, b_lss, b_leq, b_gtr, b_geq, b_eql, b_neq, u_not, Bool.not_true, Bool.not_false, oneOf_one, oneOf_two, again_normal, again_exit, again_ret, Bool.and_true, e, h0, h1, c1, c2, l10, g1, g2, g3, g4, c3, k1, k2, k3, k4, bh, x1, c4, b_add, e3]
            refine ih (i + 1) k H2 acc (by omega) (by omega) (by omega) (he.tr x2) ?_ hnew ..
            have : aft1 p hs h i = [] := by unfold aft1; rw [if_neg hnot, if_neg (of_decide_eq_false c4)]
            rw [hran, this, List.append_nil]
            exact ha2
theorem after_is {n : Nat} (hk : OkP p n) {h : Ed} {u : Value} {hs : List Ed} (hh : 0 ≤ h.1 ∧ h.1 < n ∧ 0 ≤ h.2 ∧ h.2 < n) (hp : PV H p ev wv nv) (hu : Hs H u hs) (hsl : hs.length ≤ 100) (hnd : hs.Nodup) (hm : 400 < m) (hm2 : m ≤ 72057594037927936) :
    ∃ H' r, lvl Try.prog pk12 m (.func 49) [plV p ev wv nv, edV h, u] H = some (r, H') ∧ Ext H H' ∧ Iw H' r (wrow p n hs h) ∧ New H r := by
  obtain ⟨H0, hH0⟩ : ∃ H0, H0 = H ++ [plB p ev wv nv] := ⟨_, rfl⟩
  have x0 : Ext H H0 := by rw [hH0]; exact Fr.app _ _ _
  have b0 : H0[H.length]? = some (plB p ev wv nv) := by rw [hH0]; exact at_last _ _
  obtain ⟨H1, hH1⟩ : ∃ H1, H1 = H0 ++ [hpB h] := ⟨_, rfl⟩
  have x1 : Ext H0 H1 := by rw [hH1]; exact Fr.app _ _ _
  have b1 : H1[H0.length]? = some (hpB h) := by rw [hH1]; exact at_last _ _
  have l0 := ld_pl (ld_of b0 x1) 0 _ rfl
  rw [hk.hn] at l0
  have x01 := x0.tr x1
  have h6 := hk.h6
  refine lvl_ex (pk_no rfl rfl) (by omega) ?_
  rw [f49_eq]
  unfold f49
  simp -implicitDefEqProofs only [r_opt, r_ret, ob_some, ifB_true, iteV_true, iteV_false, r_gdt, r_gdt2, r_gdtf, r_gdtf2, r_gdff, r_gdff2, r_gdft, r_gdft2, r_gdu, r_gdu2, pick_t, pick_f, ext_0, ext_1, x_newB, r_nil, r_fAddr, Nat.zero_add, b_lss, b_leq, b_gtr, b_geq, b_eql, b_neq, u_not, Bool.not_true, Bool.not_false, oneOf_one, oneOf_two, again_normal, again_exit, again_ret, Bool.and_true, plV_cells, ← hH0, hp_cells, ← hH1, l0]
  rw [← aft_wrow hnd]
  exact Exists.imp (fun H' h => Exists.imp (fun r h => ⟨h.1, x01.tr h.2.1, h.2.2.1, fun b hb => Nat.le_trans x01.1 (h.2.2.2 b hb)⟩) h) (after_loop hk hh (hp.ext x01) (ld_of b0 x1) b1 (hu.ext x01) hsl (m := m - 1) (by omega) (by omega) n 0 (m - 1) H1 (.slice none 0 0) (by omega) (by omega) (by omega) (Fr.refl _ _) Rw.nil (New.nil _) ..)
structure WR (H : Heap) (us : List SV) (xss : List (List Int)) : Prop where
  len : us.length = xss.length
  row : ∀ (j : Nat) (s : SV) (xs : List Int), us[j]? = some s → xss[j]? = some xs → Iw H s.1 xs
theorem WR.keep {us : List SV} {xss : List (List Int)} {H' : Heap} (h : WR H us xss) (hk : ∀ (b : Nat) (cs : List Value), H[b]? = some (.cells cs 3 .row) → H'[b]? = H[b]?) : WR H' us xss :=
  ⟨h.len, fun j s xs h1 h2 => (h.row j s xs h1 h2).keep fun b hb => by
    obtain ⟨cs, hc⟩ := (h.row j s xs h1 h2).blk hb
    exact hk b cs hc⟩
theorem WR.push {us : List SV} {xss : List (List Int)} {s : SV} {xs : List Int} (h : WR H us xss) (hs : Iw H s.1 xs) : WR H (us ++ [s]) (xss ++ [xs]) := by
  refine ⟨by simp [h.len], fun j s' xs' h1 h2 => ?_⟩
  by_cases hj : j < us.length
  · rw [List.getElem?_append_left hj] at h1
    rw [List.getElem?_append_left (by have := h.len; omega)] at h2
    exact h.row j s' xs' h1 h2
  · have hj2 : j = us.length := by
      have := (List.getElem?_eq_some_iff.mp h1).1
      simp at this
      omega
    subst hj2
    simp at h1
    rw [h.len] at h2
    simp at h2
    subst h1 h2
    exact hs
theorem WR.rows {us : List SV} {xss : List (List Int)} {v : Value} (h : WR H us xss) (hv : Rs sC 24 H v us) : Rows H v xss := by
  refine ⟨us.map (·.1), ?_, by simp [h.len], fun j u xs h1 h2 => ?_⟩
  · rcases hv with ⟨h1, h2⟩ | ⟨b, o, cap, h1, h2, h3⟩
    · exact .inl ⟨h1, by rw [h2]; rfl⟩
    · refine .inr ⟨b, o, cap, by rw [List.length_map]; exact h1, by rw [List.length_map]; exact h2, fun hne => ?_⟩
      rw [← sC_map]
      exact h3 fun hh => hne (by rw [hh]; rfl)
  · rw [List.getElem?_map] at h1
    obtain ⟨s, hs, rfl⟩ := Option.map_eq_some_iff.mp h1
    exact (h.row j s xs hs h2).rs
def svOf {u : Value} {xs : List Int} (h : Iw H u xs) : SV := ⟨u, Rs.sv h.rs⟩
def nilSV : SV := ⟨.slice none 0 0, rfl, rfl⟩
theorem Waits_loop {n : Nat} (hk : OkP p n) {H0 : Heap} {a ob : Nat} {u : Value} {hs : List Ed} (hin : ∀ h ∈ hs, 0 ≤ h.1 ∧ h.1 < n ∧ 0 ≤ h.2 ∧ h.2 < n) (hsl : hs.length ≤ 100) (hnd : hs.Nodup) (hm : 500 < m) (hm2 : m ≤ 72057594037927936) (hp : PV H0 p ev wv nv) (hb0 : H0[a]? = some (plB p ev wv nv)) (hu : Hs H0 u hs) (hob : H0.length = ob) :
    ∀ (q i k : Nat) (H1 : Heap) (us : List SV), hs.length - i = q → i ≤ hs.length → q < k → Ext H0 H1 → Own sC 24 H1 (.slice (some ⟨ob, 0, none⟩) hs.length hs.length) ob us → us.length = hs.length → WR H1 (us.take i) ((hs.take i).map (wrow p n hs)) → ∀ (x0 x2 x5 x6 x7 x8 x9 x10 x11 x12 x13 x14 x18 x19 x20 x21 x22 x23 x24 x25 x26 x27 x28 x29 x30 : Value),
    ∃ H' r, loopN k (runCode Try.prog (lvl Try.prog pk12 m) (loopN m) f26_c0) (f26_k0 (lvl Try.prog pk12 m) (loopN m)) [x0, (.pointer (some ⟨a, 0, none⟩)), x2, u, (.slice (some ⟨ob, 0, none⟩) hs.length hs.length), x5, x6, x7, x8, x9, x10, x11, x12, x13, x14, u, (.int .i64 hs.length), (.int .i64 (i : Nat)), x18, x19, x20, x21, x22, x23, x24, x25, x26, x27, x28, x29, x30] H1 = some (r, H') ∧ Ext H0 H' ∧ Rows H' r (hs.map (wrow p n hs)) := by
  intro q
  induction q with
  | zero =>
    intro i k H1 us hr hi hk2 he ho hul hwr
    intros
    obtain ⟨k, rfl⟩ : ∃ n, k = n + 1 := ⟨k - 1, by omega⟩
    obtain rfl : i = hs.length := by omega
    have e : decide ((hs.length : Int) < (hs.length : Int)) = false := by simp
    rw [loop_succ, f26_b0_eq]
    unfold f26_b0
    simp -implicitDefEqProofs only [r_opt, r_ret, ob_some, ifB_true, iteV_true, iteV_false, r_gdt, r_gdt2, r_gdtf, r_gdtf2, r_gdff, r_gdff2, r_gdft, r_gdft2, r_gdu, r_gdu2, pick_t, pick_f, ext_0, ext_1, x_newB, r_nil, r_fAddr, Nat.zero_add, b_lss, b_leq, b_gtr, b_geq, b_eql, b_neq, u_not, Bool.not_true, Bool.not_false, oneOf_one, oneOf_two, again_normal, again_exit, again_ret, Bool.and_true, e]
    rw [f26_e0_0_eq]
    unfold f26_e0_0
    rw [List.take_of_length_le (Nat.le_refl _), List.take_of_length_le (by omega)] at hwr
    refine ⟨H1, .slice (some ⟨ob, 0, none⟩) hs.length hs.length, rfl, he, hwr.rows (.inr ⟨ob, 0, hs.length, by rw [hul], by omega, fun _ => ⟨24, .row, [], [], rfl, fun _ => rfl, ?_⟩⟩)⟩
    rw [ho.blk]; simp
  | succ q ih =>
    intro i k H1 us hr hi hk2 he ho hul hwr
    intros
    obtain ⟨k, rfl⟩ : ∃ n, k = n + 1 := ⟨k - 1, by omega⟩
    have e : decide ((i : Int) < (hs.length : Int)) = true := decide_eq_true (by omega)
    have e3 : IntKind.i64.wrap ((i : Int) + 1) = ((i + 1 : Nat) : Int) := by rw [wrap_i64 (by omega) (by omega)]; omega
    obtain ⟨h, hh⟩ : ∃ h, hs[i]? = some h := ⟨_, List.getElem?_eq_getElem (by omega)⟩
    obtain ⟨b, o, g1, _, g3⟩ := (hu.ext he).at_ edC_len hh .i64
    have g4 : ldN 2 (.pointer (some ⟨b, o, none⟩)) H1 = some (edV h, H1) := (g3 H1 rfl).1
    obtain ⟨H2, hH2⟩ : ∃ H2, H2 = H1 ++ [hpB h] := ⟨_, rfl⟩
    have x2 : Ext H1 H2 := by rw [hH2]; exact Fr.app _ _ _
    have b2 : H2[H1.length]? = some (hpB h) := by rw [hH2]; exact at_last _ _
    have st : stN 2 (.pointer (some ⟨H1.length, 0, none⟩)) (edV h) (H1 ++ [.cells [.int .i64 0, .int .i64 0] 38 .fix]) = some (undef, H2) := by
      rw [x_stN 2 _ _ _ rfl, at_last, x_stC _ _ _ _ _ _ (by decide) (by show 0 + 2 ≤ 2; omega) rfl, hH2]
      simp [setCells, edV, edC, Value.cells, hpB]
    have l11 := ld_pl11 (ld_of hb0 (he.tr x2))
    have l2 := ld_hp2 b2
    obtain ⟨H3, r, g5, x3, g6, g7⟩ := after_is hk (hin h (List.mem_of_getElem? hh)) (hp.ext (he.tr x2)) (hu.ext (he.tr x2)) hsl hnd (m := m) (by omega) (by omega)
    have x13 : Ext H1 H3 := x2.tr x3
    have ho3 : Own sC 24 H3 (.slice (some ⟨ob, 0, none⟩) hs.length hs.length) ob us := ⟨ho.val, by rw [x13.2 ob (List.getElem?_eq_some_iff.mp ho.blk).1 id]; exact ho.blk⟩
    have ga := ho3.at_ 1 i .i64 (by omega)
    obtain ⟨s1, s2⟩ := ho3.st (sz := 1) sC_len sC_all (i := i) (by omega) (svOf g6)
    have st2 : stN 1 (.pointer (some ⟨ob, i * 1, none⟩)) r H3 = some (undef, H3.set ob (.cells ((us.set i (svOf g6)).map sC).flatten 24 .row)) := by
      have hcl : r.cells.toList = sC (svOf g6) := by
        have := (svOf g6).2.2
        show r.cells.toList = [r]
        rw [show r.cells = #[r] from this]
      rw [x_stN 1 _ _ _ (by rw [hcl]; rfl), hcl]
      exact s1
    rw [loop_succ, f26_b0_eq]
    unfold f26_b0
    simp -implicitDefEqProofs only [r_opt, r_ret, ob_some, ifB_true, iteV_true, iteV_false, r_gdt, r_gdt2, r_gdtf, r_gdtf2, r_gdff, r_gdff2, r_gdft, r_gdft2, r_gdu, r_gdu2, pick_t, pick_f, ext_0, ext_1, x_newB, r_nil, r_fAddr, Nat.zero_add, b_lss, b_leq, b_gtr, b_geq, b_eql, b_neq, u_not, Bool.not_true, Bool.not_false, oneOf_one, oneOf_two, again_normal, again_exit, again_ret, Bool.and_true, e, g1, g4, st, l11, l2, g5, ga, st2, b_add, e3]
    obtain ⟨H4, hH4⟩ : ∃ H4, H4 = H3.set ob (.cells ((us.set i (svOf g6)).map sC).flatten 24 .row) := ⟨_, rfl⟩
    rw [← hH4] at s2 ⊢
    have x04 : Ext H0 H4 := by rw [hH4]; exact set_ext (he.tr x13) (by omega)
    have kp : ∀ (b : Nat) (cs : List Value), H3[b]? = some (.cells cs 3 .row) → H4[b]? = H3[b]? := fun b cs hb => by
      rw [hH4]
      refine List.getElem?_set_ne fun hh => ?_
      subst hh
      rw [ho3.blk] at hb
      simp at hb
    have w3 : WR H3 (us.take i) ((hs.take i).map (wrow p n hs)) := hwr.keep fun b cs hb => by rw [x13.2 b (List.getElem?_eq_some_iff.mp hb).1 id]
    have w4 := (w3.push (s := svOf g6) g6).keep kp
    refine ih (i + 1) k H4 (us.set i (svOf g6)) (by omega) (by omega) (by omega) x04 s2 (by simp [hul]) ?_ ..
    have e1 : (us.set i (svOf g6)).take (i + 1) = us.take i ++ [svOf g6] := by
      rw [List.take_add_one, List.getElem?_set_self (by omega), List.take_set_of_le (Nat.le_refl _)]
      rfl
    have e2 : (hs.take (i + 1)).map (wrow p n hs) = (hs.take i).map (wrow p n hs) ++ [wrow p n hs h] := by
      rw [List.take_add_one, hh, List.map_append]
      rfl
    rw [e1, e2]
    exact w4
theorem Waits_is (hp : PV H p ev wv nv) (hm : 17592186045200 < m) (hm2 : m ≤ 72057594037927936) :
    ∃ H' r, lvl Try.prog pk12 m (.func 26) [plV p ev wv nv] H = some (r, H') ∧ Ext H H' ∧ Rows H' r (waitsL p) := by
  obtain ⟨H0, hH0⟩ : ∃ H0, H0 = H ++ [plB p ev wv nv] := ⟨_, rfl⟩
  have x0 : Ext H H0 := by rw [hH0]; exact Fr.app _ _ _
  have b0 : H0[H.length]? = some (plB p ev wv nv) := by rw [hH0]; exact at_last _ _
  have p0 := hp.ext x0
  have l11 := ld_pl11 b0
  obtain ⟨H1, g1, x1⟩ := check_is p0 (m := m - 1) (by omega) (by omega)
  have b1 := ld_of b0 x1
  have p1 := p0.ext x1
  have l12 := ld_pl11 b1
  refine lvl_ex (pk_no rfl rfl) (by omega) ?_
  rw [f26_eq]
  unfold f26
  cases hc : checkOk p with
  | false =>
    rw [hc] at g1
    have en : (errno false != 0) = true := rfl
    have e : waitsL p = [] := by unfold waitsL; rw [if_neg (by simp [hc])]
    simp -implicitDefEqProofs only [r_opt, r_ret, ob_some, ifB_true, iteV_true, iteV_false, r_gdt, r_gdt2, r_gdtf, r_gdtf2, r_gdff, r_gdff2, r_gdft, r_gdft2, r_gdu, r_gdu2, pick_t, pick_f, ext_0, ext_1, x_newB, r_nil, r_fAddr, Nat.zero_add, b_lss, b_leq, b_gtr, b_geq, b_eql, b_neq, u_not, Bool.not_true, Bool.not_false, oneOf_one, oneOf_two, again_normal, again_exit, again_ret, Bool.and_true, plV_cells, ← hH0, l11, g1, en]
    exact ⟨H1, _, rfl, x0.tr x1, by rw [e]; exact ⟨[], .inl ⟨rfl, rfl⟩, rfl, fun i u xs h => by simp at h⟩⟩
  | true =>
    rw [hc] at g1
    have en : (errno true != 0) = false := rfl
    obtain ⟨n, hk⟩ := ok_of hc
    have h15 := hk.e15
    obtain ⟨H2, u, g2, x2, q2, _⟩ := hops_is p1 (m := m - 1) (by omega) (by omega)
    have hlen := q2.len
    have hhl := hops_len p
    have mk := x_mkSlice (H := H2) 24 1 24 [.slice none 0 0] .i64 .i64 ((hopsOf p).length : Int) (by omega) (by omega) (by omega) rfl
    simp only [Int.toNat_natCast] at mk
    have e : waitsL p = (hopsOf p).map (wrow p n (hopsOf p)) := by unfold waitsL; rw [if_pos hc, hk.hn]; rfl
    have hfl : (List.replicate (hopsOf p).length [Value.slice none 0 0]).flatten = ((List.replicate (hopsOf p).length nilSV).map sC).flatten := by rw [List.map_replicate]; rfl
    simp -implicitDefEqProofs only [r_opt, r_ret, ob_some, ifB_true, iteV_true, iteV_false, r_gdt, r_gdt2, r_gdtf, r_gdtf2, r_gdff, r_gdff2, r_gdft, r_gdft2, r_gdu, r_gdu2, pick_t, pick_f, ext_0, ext_1, x_newB, r_nil, r_fAddr, Nat.zero_add, b_lss, b_leq, b_gtr, b_geq, b_eql, b_neq, u_not, Bool.not_true, Bool.not_false, oneOf_one, oneOf_two, again_normal, again_exit, again_ret, Bool.and_true, plV_cells, ← hH0, l11, g1, en, l12, g2, hlen, mk]
    rw [e, hfl]
    have hx : Ext H2 (H2 ++ [Blk.cells ((List.replicate (hopsOf p).length nilSV).map sC).flatten 24 .row]) := Fr.app _ _ _
    exact Exists.imp (fun H' h => Exists.imp (fun r h => ⟨h.1, ((x0.tr x1).tr x2).tr h.2.1, h.2.2⟩) h) (Waits_loop hk (fun h hh => hops_in hk hh) (by omega) (hops_nd hk).1 (m := m - 1) (by omega) (by omega) (p1.ext x2) (ld_of b1 x2) q2.rs rfl (hopsOf p).length 0 (m - 1) _ (List.replicate (hopsOf p).length nilSV) (by omega) (by omega) (by omega) hx ⟨by simp, at_last _ _⟩ (by simp) ⟨by simp, fun j s xs h => by simp at h⟩ ..)
end
end Go.Proofs.Ytdobnaldfmpimaa

set_option linter.unusedSectionVars false
set_option linter.unusedSimpArgs false
set_option linter.unusedVariables false
set_option maxRecDepth 100000
namespace Go.Proofs.Ytdobnaldfmpimaa
open Go.Abs
section
variable {H : Heap} {m : Nat} {p : PlanD} {ev wv nv : Value}
theorem waits_inn (p : PlanD) : Inn (waitsL p) := by
  unfold waitsL
  split
  · intro r hr z hz
    obtain ⟨h, hh, rfl⟩ := List.mem_map.mp hr
    rw [List.length_map]
    obtain ⟨k, b, rfl, h1, _⟩ := wrow_mem.mp hz
    have := (List.getElem?_eq_some_iff.mp h1).1
    omega
  · intro r hr; cases hr
theorem waits_len (p : PlanD) : (waitsL p).length ≤ 36 := by
  unfold waitsL
  split
  · rw [List.length_map]; exact hops_len p
  · simp
theorem waits_row (p : PlanD) : ∀ r ∈ waitsL p, r.length ≤ 36 := by
  unfold waitsL
  split
  · intro r hr
    obtain ⟨h, hh, rfl⟩ := List.mem_map.mp hr
    unfold wrow
    rw [List.length_map]
    have := hops_len p
    exact Nat.le_trans (List.length_filter_le _ _) (by rw [List.length_range]; exact this)
  · intro r hr; cases hr
end
end Go.Proofs.Ytdobnaldfmpimaa

set_option linter.unusedSectionVars false
set_option linter.unusedSimpArgs false
set_option linter.unusedVariables false
set_option maxRecDepth 100000
namespace Go.Proofs.Ytdobnaldfmpimaa
open Go.Abs
section
variable {H : Heap} {m : Nat} {p : PlanD} {ev wv nv : Value}
def atV (ab n : Nat) : Value := .slice (some ⟨ab, 0, none⟩) n n
def mkB (ab n : Nat) (wv : Value) : Blk := .cells [atV ab n, wv] 72 .fix
theorem ld_mk0 {mb ab n : Nat} (h : H[mb]? = some (mkB ab n wv)) : ld1 (.pointer (some ⟨mb, 0, none⟩)) H = some (atV ab n, H) := r_ld1 h rfl
theorem ld_mk1 {mb ab n : Nat} (h : H[mb]? = some (mkB ab n wv)) : ld1 (.pointer (some ⟨mb, 1, none⟩)) H = some (wv, H) := r_ld1 h rfl
theorem at_at {ab n k : Nat} (h : k < n) : iAddr 1 (atV ab n) (.int .i64 (k : Nat)) = some (.pointer (some ⟨ab, k, none⟩)) := by
  have := ia (c := ab) (o := 0) (cap := n) h
  rw [Nat.zero_add] at this
  exact this
def Col (C : List Int) : Prop := ∀ x ∈ C, x = 0 ∨ x = 1 ∨ x = 2
theorem Col.set {C : List Int} (h : Col C) (i : Nat) {y : Int} (hy : y = 0 ∨ y = 1 ∨ y = 2) : Col (C.set i y) := fun x hx => by
  rcases List.mem_or_eq_of_mem_set hx with h1 | h1
  · exact h x h1
  · rw [h1]; exact hy
structure Srch (g : List (List Int)) (Hw : Heap) (mb ab : Nat) (wv : Value) (H : Heap) (C : List Int) : Prop where
  ext : Ext Hw H
  mrk : H[mb]? = some (mkB ab g.length wv)
  row : H[ab]? = some (rowB C [])
  len : C.length = g.length
  col : Col C
theorem Srch.st {g : List (List Int)} {Hw : Heap} {mb ab : Nat} {C : List Int} (h : Srch g Hw mb ab wv H C) (hne : mb ≠ ab) (hab : Hw.length ≤ ab) {i : Nat} (hi : i < g.length) (y : Int) (hy : y = 0 ∨ y = 1 ∨ y = 2) :
    ∃ H', stN 1 (.pointer (some ⟨ab, i, none⟩)) (.int .i64 y) H = some (undef, H') ∧ Srch g Hw mb ab wv H' (C.set i y) :=
  ⟨_, st_row y h.row (by have := h.len; omega), set_ext h.ext hab, by rw [List.getElem?_set_ne (Ne.symm hne)]; exact h.mrk, List.getElem?_set_self (List.getElem?_eq_some_iff.mp h.row).1, by simp [h.len], h.col.set i hy⟩
structure Dne (g : List (List Int)) (C C' : List Int) (i : Nat) : Prop where
  i2 : C'[i]? = some 2
  dn : Dn g C'
  gr : ∀ u : Nat, C'[u]? = some 1 ↔ C[u]? = some 1
  bl : ∀ u : Nat, C[u]? = some 2 → C'[u]? = some 2
def RdOk (g : List (List Int)) (Hw : Heap) (mb ab : Nat) (wv : Value) (m q : Nat) : Prop :=
  ∀ (H : Heap) (C : List Int) (i : Nat), Srch g Hw mb ab wv H C → C[i]? = some 0 → Dn g C → (∀ u : Nat, C[u]? = some 1 → Rch g u i) → (∃ L : List Nat, L.length = q ∧ ∀ u : Nat, C[u]? = some 0 → u ∈ L) →
    ∃ H' b C', lvl Try.prog pk12 m (.func 48) [.pointer (some ⟨mb, 0, none⟩), .int .i64 (i : Nat)] H = some (.bool b, H') ∧ Srch g Hw mb ab wv H' C' ∧ (b = true → Cyc g) ∧ (b = false → Dne g C C' i)
theorem round_loop {g : List (List Int)} {Hw : Heap} {mb ab : Nat} {q' : Nat} (hrd : RdOk g Hw mb ab wv m q') (hinn : Inn g) (hne : mb ≠ ab) (hab : Hw.length ≤ ab) {C : List Int} {i : Nat} {r : List Int} {rv : Value} (hr : g[i]? = some r) (hrl : r.length ≤ 100) (hrv : Is Hw rv r) (hgr : ∀ u : Nat, C[u]? = some 1 → Rch g u i) (hci : C[i]? = some 0) {L : List Nat} (hL : L.length = q') :
    ∀ (q j k : Nat) (H : Heap) (D : List Int), r.length - j = q → j ≤ r.length → q < k → Srch g Hw mb ab wv H D → D[i]? = some 1 → Dn g D → (∀ u : Nat, D[u]? = some 1 ↔ (u = i ∨ C[u]? = some 1)) → (∀ u : Nat, C[u]? = some 2 → D[u]? = some 2) → (∀ z ∈ r.take j, D[z.toNat]? = some 2) → (∀ u : Nat, D[u]? = some 0 → u ∈ L) → ∀ (x2 x3 x4 x5 x6 x7 x8 x9 x10 x11 x12 x13 x14 x15 x16 x17 x18 x22 x23 x24 x25 x26 x27 x28 x29 x30 x31 x32 x33 x34 x35 x36 x37 x38 x39 x40 x41 x42 x43 x44 x45 x46 x47 x48 x49 x50 x51 x52 x53 : Value),
    ∃ H' b C', loopN k (runCode Try.prog (lvl Try.prog pk12 m) (loopN m) f48_c0) (f48_k0 (lvl Try.prog pk12 m) (loopN m)) [(.pointer (some ⟨mb, 0, none⟩)), (.int .i64 (i : Nat)), x2, x3, x4, x5, x6, x7, x8, x9, x10, x11, x12, x13, x14, x15, x16, x17, x18, rv, (.int .i64 r.length), (.int .i64 (j : Nat)), x22, x23, x24, x25, x26, x27, x28, x29, x30, x31, x32, x33, x34, x35, x36, x37, x38, x39, x40, x41, x42, x43, x44, x45, x46, x47, x48, x49, x50, x51, x52, x53] H = some (.bool b, H') ∧ Srch g Hw mb ab wv H' C' ∧ (b = true → Cyc g) ∧ (b = false → Dne g C C' i) := by
  intro q
  have hil := (List.getElem?_eq_some_iff.mp hr).1
  induction q with
  | zero =>
    intro j k H D hq hj hk hs hi1 hdn hgray hbl htake hwh
    intros
    obtain ⟨k, rfl⟩ : ∃ n, k = n + 1 := ⟨k - 1, by omega⟩
    obtain rfl : r.length = j := by omega
    have e : decide ((r.length : Int) < (r.length : Int)) = false := by simp
    rw [List.take_of_length_le (Nat.le_refl _)] at htake
    have l0 := ld_mk0 hs.mrk
    have a0 := at_at (ab := ab) hil
    obtain ⟨H', st, hs'⟩ := hs.st hne hab hil 2 (.inr (.inr rfl))
    have fin := hdn.finish hi1 hr (fun k hk => by have := htake k hk; simpa using this)
    refine ⟨H', false, D.set i 2, ?_, hs', fun h => (by cases h), fun _ => ⟨?_, fin, fun u => ?_, fun u hu => ?_⟩⟩
    · rw [loop_succ, f48_b0_eq]
      unfold f48_b0
      simp -implicitDefEqProofs only [r_opt, r_ret, ob_some, ifB_true, iteV_true, iteV_false, r_gdt, r_gdt2, r_gdtf, r_gdtf2, r_gdff, r_gdff2, r_gdft, r_gdft2, r_gdu, r_gdu2, pick_t, pick_f, ext_0, ext_1, x_newB, r_nil, r_fAddr, Nat.zero_add, b_lss, b_leq, b_gtr, b_geq, b_eql, b_neq, u_not, Bool.not_true, Bool.not_false, oneOf_one, oneOf_two, again_normal, again_exit, again_ret, Bool.and_true, e]
      rw [f48_e0_0_eq]
      unfold f48_e0_0
      simp -implicitDefEqProofs only [r_opt, r_ret, ob_some, ifB_true, iteV_true, iteV_false, r_gdt, r_gdt2, r_gdtf, r_gdtf2, r_gdff, r_gdff2, r_gdft, r_gdft2, r_gdu, r_gdu2, pick_t, pick_f, ext_0, ext_1, x_newB, r_nil, r_fAddr, Nat.zero_add, b_lss, b_leq, b_gtr, b_geq, b_eql, b_neq, u_not, Bool.not_true, Bool.not_false, oneOf_one, oneOf_two, again_normal, again_exit, again_ret, Bool.and_true, l0, a0, st]
    · exact List.getElem?_set_self (by have := hs.len; omega)
    · by_cases hui : u = i
      · subst hui
        rw [List.getElem?_set_self (by have := hs.len; omega), hci]
        simp
      · rw [List.getElem?_set_ne (Ne.symm hui), hgray u]
        simp [hui]
    · have := hbl u hu
      by_cases hui : u = i
      · subst hui
        rw [hi1] at this
        cases this
      · rw [List.getElem?_set_ne (Ne.symm hui)]
        exact this
  | succ q ih =>
    intro j k H D hq hj hk hs hi1 hdn hgray hbl htake hwh
    intros
    obtain ⟨k, rfl⟩ : ∃ n, k = n + 1 := ⟨k - 1, by omega⟩
    have e : decide ((j : Int) < (r.length : Int)) = true := decide_eq_true (by omega)
    have e3 : IntKind.i64.wrap ((j : Int) + 1) = ((j + 1 : Nat) : Int) := by rw [wrap_i64 (by omega) (by omega)]; omega
    obtain ⟨z, hz⟩ : ∃ z, r[j]? = some z := ⟨_, List.getElem?_eq_getElem (by omega)⟩
    have hzin := hinn r (List.mem_of_getElem? hr) z (List.mem_of_getElem? hz)
    obtain ⟨b, o, g1, _, g3⟩ := (hrv.ext hs.ext).at_ inC_len hz .i64
    have g4 : ld1 (.pointer (some ⟨b, o, none⟩)) H = some (.int .i64 z, H) := (g3 H rfl).2.1 0 _ rfl
    obtain ⟨t, rfl⟩ : ∃ t : Nat, z = t := ⟨z.toNat, by omega⟩
    have htl : t < g.length := by omega
    have edge : Eg g i t := ⟨r, hr, List.mem_of_getElem? hz⟩
    have l0 := ld_mk0 hs.mrk
    have a0 := at_at (ab := ab) htl
    obtain ⟨x, hx⟩ : ∃ x, D[t]? = some x := ⟨_, List.getElem?_eq_getElem (by have := hs.len; omega)⟩
    have lx := rd_row hs.row hx
    have grs : ∀ u : Nat, D[u]? = some 1 → Rch g u t := fun u hu => by
      rcases (hgray u).mp hu with h | h
      · rw [h]; exact .one edge
      · exact .step (hgr u h) edge
    have htk : r.take (j + 1) = r.take j ++ [(t : Int)] := by rw [List.take_add_one, hz]; rfl
    have next : ∀ (H2 : Heap) (D2 : List Int), Srch g Hw mb ab wv H2 D2 → D2[i]? = some 1 → Dn g D2 → (∀ u : Nat, D2[u]? = some 1 ↔ (u = i ∨ C[u]? = some 1)) → (∀ u : Nat, C[u]? = some 2 → D2[u]? = some 2) → (∀ z ∈ r.take j, D2[z.toNat]? = some 2) → D2[t]? = some 2 → (∀ u : Nat, D2[u]? = some 0 → u ∈ L) → ∀ (x2 x3 x4 x5 x6 x7 x8 x9 x10 x11 x12 x13 x14 x15 x16 x17 x18 x22 x23 x24 x25 x26 x27 x28 x29 x30 x31 x32 x33 x34 x35 x36 x37 x38 x39 x40 x41 x42 x43 x44 x45 x46 x47 x48 x49 x50 x51 x52 x53 : Value),
        ∃ H' b C', loopN k (runCode Try.prog (lvl Try.prog pk12 m) (loopN m) f48_c0) (f48_k0 (lvl Try.prog pk12 m) (loopN m)) [(.pointer (some ⟨mb, 0, none⟩)), (.int .i64 (i : Nat)), x2, x3, x4, x5, x6, x7, x8, x9, x10, x11, x12, x13, x14, x15, x16, x17, x18, rv, (.int .i64 r.length), (.int .i64 (j + 1 : Nat)), x22, x23, x24, x25, x26, x27, x28, x29, x30, x31, x32, x33, x34, x35, x36, x37, x38, x39, x40, x41, x42, x43, x44, x45, x46, x47, x48, x49, x50, x51, x52, x53] H2 = some (.bool b, H') ∧ Srch g Hw mb ab wv H' C' ∧ (b = true → Cyc g) ∧ (b = false → Dne g C C' i) := by
      intro H2 D2 h1 h2 h3 h4 h5 h6 h7 h8
      refine ih (j + 1) k H2 D2 (by omega) (by omega) (by omega) h1 h2 h3 h4 h5 (fun z hz => ?_) h8
      rw [htk, List.mem_append] at hz
      rcases hz with hz | hz
      · exact h6 z hz
      · have : z = (t : Int) := by simpa using hz
        rw [this]
        simpa using h7
    rw [loop_succ, f48_b0_eq]
    unfold f48_b0
    rcases hs.col x (List.mem_of_getElem? hx) with rfl | rfl | rfl
    · have d1 : ((0 : Int) == 1) = false := rfl
      have d2 : ((0 : Int) == 2) = false := rfl
      obtain ⟨H2, bb, D2, c1, hs2, hcyc, hdne⟩ := hrd H D t hs hx hdn grs ⟨L, hL, hwh⟩
      cases bb with
      | true =>
        refine ⟨H2, true, D2, ?_, hs2, fun _ => hcyc rfl, fun h => (by cases h)⟩
        simp -implicitDefEqProofs only [r_opt, r_ret, ob_some, ifB_true, iteV_true, iteV_false, r_gdt, r_gdt2, r_gdtf, r_gdtf2, r_gdff, r_gdff2, r_gdft, r_gdft2, r_gdu, r_gdu2, pick_t, pick_f, ext_0, ext_1, x_newB, r_nil, r_fAddr, Nat.zero_add, b_lss, b_leq, b_gtr, b_geq, b_eql, b_neq, u_not, Bool.not_true, Bool.not_false, oneOf_one, oneOf_two, again_normal, again_exit, again_ret, Bool.and_true, e, g1, g4, l0, a0, lx, d1, d2, c1]
        rw [f48_r0_eq]
        rfl
      | false =>
        have hd := hdne rfl
        simp -implicitDefEqProofs only [r_opt, r_ret, ob_some, ifB_true, iteV_true, iteV_false, r_gdt, r_gdt2, r_gdtf, r_gdtf2, r_gdff, r_gdff2, r_gdft, r_gdft2, r_gdu, r_gdu2, pick_t, pick_f, ext_0, ext_1, x_newB, r_nil, r_fAddr, Nat.zero_add, b_lss, b_leq, b_gtr, b_geq, b_eql, b_neq, u_not, Bool.not_true, Bool.not_false, oneOf_one, oneOf_two, again_normal, again_exit, again_ret, Bool.and_true, e, g1, g4, l0, a0, lx, d1, d2, c1, b_add, e3]
        refine next H2 D2 hs2 ((hd.gr i).mpr hi1) hd.dn (fun u => by rw [hd.gr u]; exact hgray u) (fun u hu => hd.bl u (hbl u hu)) (fun z hz => hd.bl _ (htake z hz)) hd.i2 (fun u hu => hwh u ?_) ..
        have hul : u < g.length := by have := (List.getElem?_eq_some_iff.mp hu).1; have := hs2.len; omega
        obtain ⟨y, hy⟩ : ∃ y, D[u]? = some y := ⟨_, List.getElem?_eq_getElem (by have := hs.len; omega)⟩
        rcases hs.col y (List.mem_of_getElem? hy) with rfl | rfl | rfl
        · exact hy
        · have := (hd.gr u).mpr hy
          rw [hu] at this; cases this
        · have := hd.bl u hy
          rw [hu] at this; cases this
    · have d1 : ((1 : Int) == 1) = true := rfl
      refine ⟨H, true, D, ?_, hs, fun _ => ⟨t, grs t hx⟩, fun h => (by cases h)⟩
      simp -implicitDefEqProofs only [r_opt, r_ret, ob_some, ifB_true, iteV_true, iteV_false, r_gdt, r_gdt2, r_gdtf, r_gdtf2, r_gdff, r_gdff2, r_gdft, r_gdft2, r_gdu, r_gdu2, pick_t, pick_f, ext_0, ext_1, x_newB, r_nil, r_fAddr, Nat.zero_add, b_lss, b_leq, b_gtr, b_geq, b_eql, b_neq, u_not, Bool.not_true, Bool.not_false, oneOf_one, oneOf_two, again_normal, again_exit, again_ret, Bool.and_true, e, g1, g4, l0, a0, lx, d1]
      rw [f48_r0_eq]
      rfl
    · have d1 : ((2 : Int) == 1) = false := rfl
      have d2 : ((2 : Int) == 2) = true := rfl
      simp -implicitDefEqProofs only [r_opt, r_ret, ob_some, ifB_true, iteV_true, iteV_false, r_gdt, r_gdt2, r_gdtf, r_gdtf2, r_gdff, r_gdff2, r_gdft, r_gdft2, r_gdu, r_gdu2, pick_t, pick_f, ext_0, ext_1, x_newB, r_nil, r_fAddr, Nat.zero_add, b_lss, b_leq, b_gtr, b_geq, b_eql, b_neq, u_not, Bool.not_true, Bool.not_false, oneOf_one, oneOf_two, again_normal, again_exit, again_ret, Bool.and_true, e, g1, g4, l0, a0, lx, d1, d2, b_add, e3]
      exact next H D hs hi1 hdn hgray hbl htake hx hwh ..
theorem round_is {g : List (List Int)} {Hw : Heap} {mb ab : Nat} (hg : Rows Hw wv g) (hinn : Inn g) (hrl : ∀ r ∈ g, r.length ≤ 100) (hne : mb ≠ ab) (hab : Hw.length ≤ ab) : ∀ (q m : Nat), 200 + q < m → RdOk g Hw mb ab wv m q := by
  intro q
  induction q with
  | zero =>
    intro m hm H C i hs hi hdn hgr ⟨L, hL, hw⟩
    have := hw i hi
    rw [List.length_eq_zero_iff.mp hL] at this
    cases this
  | succ q ih =>
    intro m hm H C i hs hi hdn hgr ⟨L, hL, hw⟩
    have hil : i < g.length := by have := (List.getElem?_eq_some_iff.mp hi).1; have := hs.len; omega
    have l0 := ld_mk0 hs.mrk
    have a0 := at_at (ab := ab) hil
    obtain ⟨H1, st, hs1⟩ := hs.st hne hab hil 1 (.inr (.inl rfl))
    have l1 := ld_mk1 hs1.mrk
    obtain ⟨r, hr⟩ : ∃ r, g[i]? = some r := ⟨_, List.getElem?_eq_getElem hil⟩
    obtain ⟨a1, rv, g1, g2, g3⟩ := hg.at_ hr .i64
    have g2' := ld1_ext hs1.ext g2
    have hlen := g3.len
    have hr100 := hrl r (List.mem_of_getElem? hr)
    have hcl : C.length = g.length := hs.len
    have other : ∀ u : Nat, u ≠ i → (C.set i 1)[u]? = C[u]? := fun u hu => List.getElem?_set_ne (Ne.symm hu)
    have self : (C.set i 1)[i]? = some 1 := List.getElem?_set_self (by omega)
    obtain ⟨m, rfl⟩ : ∃ n, m = n + 1 := ⟨m - 1, by omega⟩
    rw [lvl_body (pk_no rfl rfl), f48_eq]
    unfold f48
    simp -implicitDefEqProofs only [r_opt, r_ret, ob_some, ifB_true, iteV_true, iteV_false, r_gdt, r_gdt2, r_gdtf, r_gdtf2, r_gdff, r_gdff2, r_gdft, r_gdft2, r_gdu, r_gdu2, pick_t, pick_f, ext_0, ext_1, x_newB, r_nil, r_fAddr, Nat.zero_add, b_lss, b_leq, b_gtr, b_geq, b_eql, b_neq, u_not, Bool.not_true, Bool.not_false, oneOf_one, oneOf_two, again_normal, again_exit, again_ret, Bool.and_true, l0, a0, st, l1, g1, g2', hlen]
    have hiL := hw i hi
    refine round_loop (ih m (by omega)) hinn hne hab hr hr100 g3 hgr hi (L := L.erase i) (by rw [List.length_erase_of_mem hiL]; omega) r.length 0 m H1 (C.set i 1) (by omega) (by omega) (by omega) hs1 self ?_ (fun u => ?_) (fun u hu => ?_) (fun z hz => by simp at hz) (fun u hu => ?_) ..
    · intro u hu
      have hui : u ≠ i := fun hh => by rw [hh, self] at hu; cases hu
      rw [other u hui] at hu
      refine ⟨fun k hk => ?_, (hdn u hu).2⟩
      have := (hdn u hu).1 k hk
      have hki : k ≠ i := fun hh => by rw [hh, hi] at this; cases this
      rw [other k hki]
      exact this
    · by_cases hui : u = i
      · rw [hui, self]; simp
      · rw [other u hui]; simp [hui]
    · have hui : u ≠ i := fun hh => by rw [hh, hi] at hu; cases hu
      rw [other u hui]
      exact hu
    · have hui : u ≠ i := fun hh => by rw [hh, self] at hu; cases hu
      rw [other u hui] at hu
      exact (List.mem_erase_of_ne hui).mpr (hw u hu)
def pathsOk (p : PlanD) (n : Nat) : Bool := (List.range n).all fun v => (List.range n).all fun w => (pathL p v w).isSome
def routeOk (p : PlanD) : Bool := checkOk p && (pathsOk p p.nodes.toNat && !cycB (waitsL p))
def errR (p : PlanD) : Int := if checkOk p = true then (if routeOk p = true then 0 else 140) else 120
theorem Check_loop2 {g : List (List Int)} {Hw : Heap} {mb ab : Nat} (hrd : RdOk g Hw mb ab wv m g.length) (hgl : g.length ≤ 100) (hinn : Inn g) :
    ∀ (q i k : Nat) (H : Heap) (C : List Int), g.length - i = q → i ≤ g.length → q < k → Srch g Hw mb ab wv H C → Dn g C → (∀ u : Nat, C[u]? ≠ some 1) → (∀ u : Nat, u < i → C[u]? = some 2) → ∀ (x0 x1 x2 x3 x4 x5 x6 x7 x9 x10 x11 x12 x13 x14 x15 x16 x17 x18 x19 x20 x21 x22 x23 x24 x25 x26 x27 x28 x29 x30 x31 x32 x33 x34 x35 x36 x37 x38 x39 x40 x41 x42 x43 x44 x45 x46 x47 x48 x49 x50 x51 x52 x55 x56 x57 x58 x59 x60 x61 x62 x63 x64 x65 x66 x67 x68 x69 x70 : Value),
    ∃ H', loopN k (runCode Try.prog (lvl Try.prog pk12 m) (loopN m) f24_c2) (f24_k2 (lvl Try.prog pk12 m) (loopN m)) [x0, x1, x2, x3, x4, x5, x6, x7, (.pointer (some ⟨mb, 0, none⟩)), x9, x10, x11, x12, x13, x14, x15, x16, x17, x18, x19, x20, x21, x22, x23, x24, x25, x26, x27, x28, x29, x30, x31, x32, x33, x34, x35, x36, x37, x38, x39, x40, x41, x42, x43, x44, x45, x46, x47, x48, x49, x50, x51, x52, (.int .i64 g.length), (.int .i64 (i : Nat)), x55, x56, x57, x58, x59, x60, x61, x62, x63, x64, x65, x66, x67, x68, x69, x70] H = some (.int .u16 (if cycB g = true then 140 else 0), H') ∧ Ext Hw H' := by
  intro q
  induction q with
  | zero =>
    intro i k H C hq hi hk hs hdn hgr hbl
    intros
    obtain ⟨k, rfl⟩ : ∃ n, k = n + 1 := ⟨k - 1, by omega⟩
    obtain rfl : g.length = i := by omega
    have e : decide ((g.length : Int) < (g.length : Int)) = false := by simp
    have hno : ¬ cycB g = true := by
      rw [cycB_iff hinn]
      rintro ⟨i, hc⟩
      have hil : i < g.length := by
        cases hc with
        | one e => obtain ⟨r, h1, _⟩ := e; exact (List.getElem?_eq_some_iff.mp h1).1
        | step h1 e =>
          obtain ⟨r, h2, h3⟩ := e
          have := (hinn r (List.mem_of_getElem? h2) i h3).2
          omega
      exact (hdn i (hbl i hil)).2 hc
    rw [if_neg hno, loop_succ, f24_b2_eq]
    unfold f24_b2
    simp -implicitDefEqProofs only [r_opt, r_ret, ob_some, ifB_true, iteV_true, iteV_false, r_gdt, r_gdt2, r_gdtf, r_gdtf2, r_gdff, r_gdff2, r_gdft, r_gdft2, r_gdu, r_gdu2, pick_t, pick_f, ext_0, ext_1, x_newB, r_nil, r_fAddr, Nat.zero_add, b_lss, b_leq, b_gtr, b_geq, b_eql, b_neq, u_not, Bool.not_true, Bool.not_false, oneOf_one, oneOf_two, again_normal, again_exit, again_ret, Bool.and_true, e]
    rw [f24_e2_4_eq]
    exact ⟨H, rfl, hs.ext⟩
  | succ q ih =>
    intro i k H C hq hi hk hs hdn hgr hbl
    intros
    obtain ⟨k, rfl⟩ : ∃ n, k = n + 1 := ⟨k - 1, by omega⟩
    have hil : i < g.length := by omega
    have e : decide ((i : Int) < (g.length : Int)) = true := decide_eq_true (by omega)
    have e3 : IntKind.i64.wrap ((i : Int) + 1) = ((i + 1 : Nat) : Int) := by rw [wrap_i64 (by omega) (by omega)]; omega
    have l0 := ld_mk0 hs.mrk
    have a0 := at_at (ab := ab) hil
    obtain ⟨x, hx⟩ : ∃ x, C[i]? = some x := ⟨_, List.getElem?_eq_getElem (by have := hs.len; omega)⟩
    have lx := rd_row hs.row hx
    rw [loop_succ, f24_b2_eq]
    unfold f24_b2
    rcases hs.col x (List.mem_of_getElem? hx) with rfl | rfl | rfl
    · have d1 : ((0 : Int) == 0) = true := rfl
      obtain ⟨H2, bb, D2, c1, hs2, hcyc, hdne⟩ := hrd H C i hs hx hdn (fun u hu => absurd hu (hgr u)) ⟨List.range g.length, by simp, fun u hu => List.mem_range.mpr (by have := (List.getElem?_eq_some_iff.mp hu).1; have := hs.len; omega)⟩
      cases bb with
      | true =>
        have hyes : cycB g = true := (cycB_iff hinn).mpr (hcyc rfl)
        rw [if_pos hyes]
        simp -implicitDefEqProofs only [r_opt, r_ret, ob_some, ifB_true, iteV_true, iteV_false, r_gdt, r_gdt2, r_gdtf, r_gdtf2, r_gdff, r_gdff2, r_gdft, r_gdft2, r_gdu, r_gdu2, pick_t, pick_f, ext_0, ext_1, x_newB, r_nil, r_fAddr, Nat.zero_add, b_lss, b_leq, b_gtr, b_geq, b_eql, b_neq, u_not, Bool.not_true, Bool.not_false, oneOf_one, oneOf_two, again_normal, again_exit, again_ret, Bool.and_true, e, l0, a0, lx, d1, c1]
        rw [f24_r2_eq]
        exact ⟨H2, rfl, hs2.ext⟩
      | false =>
        have hd := hdne rfl
        simp -implicitDefEqProofs only [r_opt, r_ret, ob_some, ifB_true, iteV_true, iteV_false, r_gdt, r_gdt2, r_gdtf, r_gdtf2, r_gdff, r_gdff2, r_gdft, r_gdft2, r_gdu, r_gdu2, pick_t, pick_f, ext_0, ext_1, x_newB, r_nil, r_fAddr, Nat.zero_add, b_lss, b_leq, b_gtr, b_geq, b_eql, b_neq, u_not, Bool.not_true, Bool.not_false, oneOf_one, oneOf_two, again_normal, again_exit, again_ret, Bool.and_true, e, l0, a0, lx, d1, c1, b_add, e3]
        refine ih (i + 1) k H2 D2 (by omega) (by omega) (by omega) hs2 hd.dn (fun u hu => hgr u ((hd.gr u).mp hu)) (fun u hu => ?_) ..
        by_cases hui : u = i
        · rw [hui]; exact hd.i2
        · exact hd.bl u (hbl u (by omega))
    · exact absurd hx (hgr i)
    · have d1 : ((2 : Int) == 0) = false := rfl
      simp -implicitDefEqProofs only [r_opt, r_ret, ob_some, ifB_true, iteV_true, iteV_false, r_gdt, r_gdt2, r_gdtf, r_gdtf2, r_gdff, r_gdff2, r_gdft, r_gdft2, r_gdu, r_gdu2, pick_t, pick_f, ext_0, ext_1, x_newB, r_nil, r_fAddr, Nat.zero_add, b_lss, b_leq, b_gtr, b_geq, b_eql, b_neq, u_not, Bool.not_true, Bool.not_false, oneOf_one, oneOf_two, again_normal, again_exit, again_ret, Bool.and_true, e, l0, a0, lx, d1, b_add, e3]
      refine ih (i + 1) k H C (by omega) (by omega) (by omega) hs hdn hgr (fun u hu => ?_) ..
      by_cases hui : u = i
      · rw [hui]; exact hx
      · exact hbl u (by omega)
theorem Check_loop1 {n : Nat} (hk : OkP p n) {H0 : Heap} {a v : Nat} (hv : v < n) {K : Ex → K (Value × Heap)} {Q : Heap → Value → Prop} (hp : PV H0 p ev wv nv) (hb : H0[a]? = some (plB p ev wv nv)) (hm : 400 < m) (hm2 : m ≤ 72057594037927936) :
    ∀ (q i k : Nat) (H1 : Heap), n - i = q → i ≤ n → q < k → Ext H0 H1 →
    (∀ H', Ext H0 H' → ((List.range' i q).all fun w => (pathL p v w).isSome) = true → ∀ (x0 x2 x3 x4 x5 x6 x7 x8 x9 x10 x11 x12 x13 x14 x15 x18 x19 x20 x21 x22 x23 x24 x25 x26 x27 x28 x29 x30 x31 x32 x33 x34 x35 x36 x37 x38 x39 x40 x41 x42 x43 x44 x45 x46 x47 x48 x49 x50 x51 x52 x53 x54 x55 x56 x57 x58 x59 x60 x61 x62 x63 x64 x65 x66 x67 x68 x69 x70 : Value), ∃ H2 r, K .normal [x0, (.pointer (some ⟨a, 0, none⟩)), x2, x3, x4, x5, x6, x7, x8, x9, x10, x11, x12, x13, x14, x15, (.int .i64 n), (.int .i64 (v + 1 : Nat)), x18, x19, x20, x21, x22, x23, x24, x25, x26, x27, x28, x29, x30, x31, x32, x33, x34, x35, x36, x37, x38, x39, x40, x41, x42, x43, x44, x45, x46, x47, x48, x49, x50, x51, x52, x53, x54, x55, x56, x57, x58, x59, x60, x61, x62, x63, x64, x65, x66, x67, x68, x69, x70] H' = some (r, H2) ∧ Q H2 r) →
    (∀ H', Ext H0 H' → ((List.range' i q).all fun w => (pathL p v w).isSome) = false → ∀ (x0 x1 x3 x4 x5 x6 x7 x8 x9 x10 x11 x12 x13 x14 x15 x16 x17 x18 x19 x20 x21 x22 x23 x24 x25 x26 x27 x28 x29 x30 x31 x32 x33 x34 x35 x36 x37 x38 x39 x40 x41 x42 x43 x44 x45 x46 x47 x48 x49 x50 x51 x52 x53 x54 x55 x56 x57 x58 x59 x60 x61 x62 x63 x64 x65 x66 x67 x68 x69 x70 : Value), ∃ H2 r, K .ret [x0, x1, (.int .u16 140), x3, x4, x5, x6, x7, x8, x9, x10, x11, x12, x13, x14, x15, x16, x17, x18, x19, x20, x21, x22, x23, x24, x25, x26, x27, x28, x29, x30, x31, x32, x33, x34, x35, x36, x37, x38, x39, x40, x41, x42, x43, x44, x45, x46, x47, x48, x49, x50, x51, x52, x53, x54, x55, x56, x57, x58, x59, x60, x61, x62, x63, x64, x65, x66, x67, x68, x69, x70] H' = some (r, H2) ∧ Q H2 r) → ∀ (x0 x2 x3 x5 x6 x7 x8 x9 x10 x11 x12 x13 x14 x15 x18 x19 x20 x23 x24 x25 x26 x27 x28 x29 x30 x31 x32 x33 x34 x35 x36 x37 x38 x39 x40 x41 x42 x43 x44 x45 x46 x47 x48 x49 x50 x51 x52 x53 x54 x55 x56 x57 x58 x59 x60 x61 x62 x63 x64 x65 x66 x67 x68 x69 x70 : Value),
    ∃ H' r, loopN k (runCode Try.prog (lvl Try.prog pk12 m) (loopN m) f24_c1) (f24_k1 (lvl Try.prog pk12 m) (loopN m) K) [x0, (.pointer (some ⟨a, 0, none⟩)), x2, x3, (.int .i64 (v : Nat)), x5, x6, x7, x8, x9, x10, x11, x12, x13, x14, x15, (.int .i64 n), (.int .i64 (v : Nat)), x18, x19, x20, (.int .i64 n), (.int .i64 (i : Nat)), x23, x24, x25, x26, x27, x28, x29, x30, x31, x32, x33, x34, x35, x36, x37, x38, x39, x40, x41, x42, x43, x44, x45, x46, x47, x48, x49, x50, x51, x52, x53, x54, x55, x56, x57, x58, x59, x60, x61, x62, x63, x64, x65, x66, x67, x68, x69, x70] H1 = some (r, H') ∧ Q H' r := by
  intro q
  have h6 := hk.h6
  induction q with
  | zero =>
    intro i k H1 hr hi hk2 he hK hR
    intros
    obtain ⟨k, rfl⟩ : ∃ n, k = n + 1 := ⟨k - 1, by omega⟩
    have e : decide ((i : Int) < (n : Int)) = false := decide_eq_false (by omega)
    have e3 : IntKind.i64.wrap ((v : Int) + 1) = ((v + 1 : Nat) : Int) := by rw [wrap_i64 (by omega) (by omega)]; omega
    rw [loop_succ, f24_b1_eq]
    unfold f24_b1
    simp -implicitDefEqProofs only [r_opt, r_ret, ob_some, ifB_true, iteV_true, iteV_false, r_gdt, r_gdt2, r_gdtf, r_gdtf2, r_gdff, r_gdff2, r_gdft, r_gdft2, r_gdu, r_gdu2, pick_t, pick_f, ext_0, ext_1, x_newB, r_nil, r_fAddr, Nat.zero_add, b_lss, b_leq, b_gtr, b_geq, b_eql, b_neq, u_not, Bool.not_true, Bool.not_false, oneOf_one, oneOf_two, again_normal, again_exit, again_ret, Bool.and_true, e]
    rw [f24_e1_2_eq]
    unfold f24_e1_2
    simp -implicitDefEqProofs only [r_opt, r_ret, ob_some, ifB_true, iteV_true, iteV_false, r_gdt, r_gdt2, r_gdtf, r_gdtf2, r_gdff, r_gdff2, r_gdft, r_gdft2, r_gdu, r_gdu2, pick_t, pick_f, ext_0, ext_1, x_newB, r_nil, r_fAddr, Nat.zero_add, b_lss, b_leq, b_gtr, b_geq, b_eql, b_neq, u_not, Bool.not_true, Bool.not_false, oneOf_one, oneOf_two, again_normal, again_exit, again_ret, Bool.and_true, b_add, e3]
    exact hK H1 he rfl ..
  | succ q ih =>
    intro i k H1 hr hi hk2 he hK hR
    intros
    obtain ⟨k, rfl⟩ : ∃ n, k = n + 1 := ⟨k - 1, by omega⟩
    have e : decide ((i : Int) < (n : Int)) = true := decide_eq_true (by omega)
    have e3 : IntKind.i64.wrap ((i : Int) + 1) = ((i + 1 : Nat) : Int) := by rw [wrap_i64 (by omega) (by omega)]; omega
    have l11 := ld_pl11 (ld_of hb he)
    obtain ⟨H2, r, g1, x2, lv, rfl, _, _⟩ := path_is hk (hp.ext he) (v := v) (w := i) (by omega) (by omega) (m := m) (by omega) (by omega)
    rw [loop_succ, f24_b1_eq]
    unfold f24_b1
    rw [List.range'_succ, List.all_cons] at hK hR
    cases c : (pathL p v i).isSome with
    | true =>
      rw [c] at g1 hK hR
      simp -implicitDefEqProofs only [r_opt, r_ret, ob_some, ifB_true, iteV_true, iteV_false, r_gdt, r_gdt2, r_gdtf, r_gdtf2, r_gdff, r_gdff2, r_gdft, r_gdft2, r_gdu, r_gdu2, pick_t, pick_f, ext_0, ext_1, x_newB, r_nil, r_fAddr, Nat.zero_add, b_lss, b_leq, b_gtr, b_geq, b_eql, b_neq, u_not, Bool.not_true, Bool.not_false, oneOf_one, oneOf_two, again_normal, again_exit, again_ret, Bool.and_true, e, l11, g1, b_add, e3]
      exact ih (i + 1) k H2 (by omega) (by omega) (by omega) (he.tr x2) (fun H' h1 h2 => hK H' h1 (by simpa using h2)) (fun H' h1 h2 => hR H' h1 (by simpa using h2)) ..
    | false =>
      rw [c] at g1 hR
      simp -implicitDefEqProofs only [r_opt, r_ret, ob_some, ifB_true, iteV_true, iteV_false, r_gdt, r_gdt2, r_gdtf, r_gdtf2, r_gdff, r_gdff2, r_gdft, r_gdft2, r_gdu, r_gdu2, pick_t, pick_f, ext_0, ext_1, x_newB, r_nil, r_fAddr, Nat.zero_add, b_lss, b_leq, b_gtr, b_geq, b_eql, b_neq, u_not, Bool.not_true, Bool.not_false, oneOf_one, oneOf_two, again_normal, again_exit, again_ret, Bool.and_true, e, l11, g1]
      rw [f24_r1_eq]
      unfold f24_r1
      exact hR H2 (he.tr x2) rfl ..
theorem zeros (n : Nat) : Blk.cells (List.replicate n [Value.int .i64 0]).flatten 3 .row = rowB (List.replicate n 0) [] := by
  unfold rowB
  congr 1
  rw [List.append_nil, List.map_replicate]
  induction n with
  | zero => rfl
  | succ n ih => rw [List.replicate_succ, List.replicate_succ, List.flatten_cons, ih]; rfl
theorem bMarks {v : Value} {us : List Value} (h : Rs vC 24 H v us) : bld Try.prog 72 [(1, v)] = some (.agg #[.slice none 0 0, v]) ∧ Blk.cells (Value.agg #[.slice none 0 0, v]).cells.toList 72 .fix = .cells [.slice none 0 0, v] 72 .fix := by
  rcases h with ⟨rfl, _⟩ | ⟨b, o, cap, rfl, _⟩
  · exact ⟨by kernel_rfl, rfl⟩
  · have : ∀ b o n c : Nat, bld Try.prog 72 [(1, .slice (some ⟨b, o, none⟩) n c)] = some (.agg #[.slice none 0 0, .slice (some ⟨b, o, none⟩) n c]) := fun b o n c => by kernel_rfl
    exact ⟨this _ _ _ _, rfl⟩
theorem Check_end {n : Nat} (hk : OkP p n) {H0 : Heap} {a : Nat} (hp : PV H0 p ev wv nv) (hb : H0[a]? = some (plB p ev wv nv)) (hm : 17592186045300 < m) (hm2 : m ≤ 72057594037927936) (x0 x2 x3 x4 x5 x6 x7 x8 x9 x10 x11 x12 x13 x14 x15 x16 x17 x18 x19 x20 x21 x22 x23 x24 x25 x26 x27 x28 x29 x30 x31 x32 x33 x34 x35 x36 x37 x38 x39 x40 x41 x42 x43 x44 x45 x46 x47 x48 x49 x50 x51 x52 x53 x54 x55 x56 x57 x58 x59 x60 x61 x62 x63 x64 x65 x66 x67 x68 x69 x70 : Value) :
    ∃ H', f24_e0_0 (lvl Try.prog pk12 m) (loopN m) x0 (.pointer (some ⟨a, 0, none⟩)) x2 x3 x4 x5 x6 x7 x8 x9 x10 x11 x12 x13 x14 x15 x16 x17 x18 x19 x20 x21 x22 x23 x24 x25 x26 x27 x28 x29 x30 x31 x32 x33 x34 x35 x36 x37 x38 x39 x40 x41 x42 x43 x44 x45 x46 x47 x48 x49 x50 x51 x52 x53 x54 x55 x56 x57 x58 x59 x60 x61 x62 x63 x64 x65 x66 x67 x68 x69 x70 H0 = some (.int .u16 (if cycB (waitsL p) = true then 140 else 0), H') ∧ Ext H0 H' := by
  have l11 := ld_pl11 hb
  obtain ⟨H1, wvv, g1, x1, hg⟩ := Waits_is hp (m := m) (by omega) (by omega)
  have hgl := waits_len p
  obtain ⟨us, hus, hul, _⟩ := id hg
  obtain ⟨bm, bc⟩ := bMarks hus
  obtain ⟨g, hgg⟩ : ∃ g, g = waitsL p := ⟨_, rfl⟩
  have hinn := waits_inn p
  have hrow := waits_row p
  rw [← hgg] at hg hgl hinn hrow ⊢
  obtain ⟨H2, hH2⟩ : ∃ H2, H2 = H1 ++ [Blk.cells [.slice none 0 0, wvv] 72 .fix] := ⟨_, rfl⟩
  have x2 : Ext H1 H2 := by rw [hH2]; exact Fr.app _ _ _
  have b2 : H2[H1.length]? = some (.cells [.slice none 0 0, wvv] 72 .fix) := by rw [hH2]; exact at_last _ _
  have l2 : ld1 (.pointer (some ⟨H1.length, 1, none⟩)) H2 = some (wvv, H2) := r_ld1 b2 rfl
  have hlen := hg.len
  have mk := x_mkSlice (H := H2) 3 1 8 [.int .i64 0] .i64 .i64 (g.length : Int) (by omega) (by omega) (by omega) rfl
  simp only [Int.toNat_natCast] at mk
  rw [zeros] at mk
  obtain ⟨H3, hH3⟩ : ∃ H3, H3 = H2 ++ [rowB (List.replicate g.length 0) []] := ⟨_, rfl⟩
  rw [← hH3] at mk
  have x3 : Ext H2 H3 := by rw [hH3]; exact Fr.app _ _ _
  have b3 := ld_of b2 x3
  have st : stN 1 (.pointer (some ⟨H1.length, 0, none⟩)) (.slice (some ⟨H2.length, 0, none⟩) g.length g.length) H3 = some (undef, H3.set H1.length (mkB H2.length g.length wvv)) := by
    rw [x_stN 1 _ _ _ rfl, b3, x_stC _ _ _ _ _ _ (by decide) (by show 0 + 1 ≤ 2; omega) rfl]
    rfl
  obtain ⟨H4, hH4⟩ : ∃ H4, H4 = H3.set H1.length (mkB H2.length g.length wvv) := ⟨_, rfl⟩
  rw [← hH4] at st
  have h12 : H2.length = H1.length + 1 := by rw [hH2]; simp
  have hs : Srch g H1 H1.length H2.length wvv H4 (List.replicate g.length 0) := by
    refine ⟨?_, ?_, ?_, by simp, fun x hx => .inl (by simp at hx; exact hx.2)⟩
    · rw [hH4]; exact set_ext (x2.tr x3) (Nat.le_refl _)
    · rw [hH4]; exact List.getElem?_set_self (List.getElem?_eq_some_iff.mp b3).1
    · rw [hH4, List.getElem?_set_ne (by omega), hH3]; exact at_last _ _
  have l4 := ld_mk0 hs.mrk
  have hlen4 : lenSl (atV H2.length g.length) = some (.int .i64 g.length) := rfl
  have hrd := round_is hg hinn (fun r hr => by have := hrow r hr; omega) (show H1.length ≠ H2.length by omega) (show H1.length ≤ H2.length by omega) g.length m (by omega)
  unfold f24_e0_0
  simp -implicitDefEqProofs only [r_opt, r_ret, ob_some, ifB_true, iteV_true, iteV_false, r_gdt, r_gdt2, r_gdtf, r_gdtf2, r_gdff, r_gdff2, r_gdft, r_gdft2, r_gdu, r_gdu2, pick_t, pick_f, ext_0, ext_1, x_newB, r_nil, r_fAddr, Nat.zero_add, b_lss, b_leq, b_gtr, b_geq, b_eql, b_neq, u_not, Bool.not_true, Bool.not_false, oneOf_one, oneOf_two, again_normal, again_exit, again_ret, Bool.and_true, l11, g1, bm, bc, ← hH2, l2, hlen, mk, st, l4, hlen4]
  exact Exists.imp (fun H' h => ⟨h.1, x1.tr h.2⟩) (Check_loop2 hrd (by omega) hinn g.length 0 m H4 (List.replicate g.length 0) (by omega) (by omega) (by omega) hs (fun u hu => by simp [List.getElem?_replicate] at hu) (fun u hu => by simp [List.getElem?_replicate] at hu) (fun u hu => absurd hu (by omega)) ..)
theorem Check_loop0 {n : Nat} (hk : OkP p n) {H0 : Heap} {a : Nat} {Q : Heap → Value → Prop} (hp : PV H0 p ev wv nv) (hb : H0[a]? = some (plB p ev wv nv)) (hm : 17592186045300 < m) (hm2 : m ≤ 72057594037927936) (hQ : ∀ H', Ext H0 H' → Q H' (.int .u16 (if pathsOk p n = true ∧ cycB (waitsL p) = false then 0 else 140))) :
    ∀ (q i k : Nat) (H1 : Heap), n - i = q → i ≤ n → q < k → Ext H0 H1 → (∀ v, v < i → ((List.range n).all fun w => (pathL p v w).isSome) = true) → ∀ (x0 x2 x3 x4 x5 x6 x7 x8 x9 x10 x11 x12 x13 x14 x15 x18 x19 x20 x21 x22 x23 x24 x25 x26 x27 x28 x29 x30 x31 x32 x33 x34 x35 x36 x37 x38 x39 x40 x41 x42 x43 x44 x45 x46 x47 x48 x49 x50 x51 x52 x53 x54 x55 x56 x57 x58 x59 x60 x61 x62 x63 x64 x65 x66 x67 x68 x69 x70 : Value),
    ∃ H' r, loopN k (runCode Try.prog (lvl Try.prog pk12 m) (loopN m) f24_c0) (f24_k0 (lvl Try.prog pk12 m) (loopN m)) [x0, (.pointer (some ⟨a, 0, none⟩)), x2, x3, x4, x5, x6, x7, x8, x9, x10, x11, x12, x13, x14, x15, (.int .i64 n), (.int .i64 (i : Nat)), x18, x19, x20, x21, x22, x23, x24, x25, x26, x27, x28, x29, x30, x31, x32, x33, x34, x35, x36, x37, x38, x39, x40, x41, x42, x43, x44, x45, x46, x47, x48, x49, x50, x51, x52, x53, x54, x55, x56, x57, x58, x59, x60, x61, x62, x63, x64, x65, x66, x67, x68, x69, x70] H1 = some (r, H') ∧ Q H' r := by
  intro q
  have h6 := hk.h6
  induction q with
  | zero =>
    intro i k H1 hr hi hk2 he hpre
    intros
    obtain ⟨k, rfl⟩ : ∃ n, k = n + 1 := ⟨k - 1, by omega⟩
    have e : decide ((i : Int) < (n : Int)) = false := decide_eq_false (by omega)
    have hall : pathsOk p n = true := by
      unfold pathsOk
      rw [List.all_eq_true]
      intro v hv
      exact hpre v (by have := List.mem_range.mp hv; omega)
    rw [loop_succ, f24_b0_eq]
    unfold f24_b0
    simp -implicitDefEqProofs only [r_opt, r_ret, ob_some, ifB_true, iteV_true, iteV_false, r_gdt, r_gdt2, r_gdtf, r_gdtf2, r_gdff, r_gdff2, r_gdft, r_gdft2, r_gdu, r_gdu2, pick_t, pick_f, ext_0, ext_1, x_newB, r_nil, r_fAddr, Nat.zero_add, b_lss, b_leq, b_gtr, b_geq, b_eql, b_neq, u_not, Bool.not_true, Bool.not_false, oneOf_one, oneOf_two, again_normal, again_exit, again_ret, Bool.and_true, e]
    rw [f24_e0_0_eq]
    refine Exists.imp (fun H' h => ⟨_, h.1, ?_⟩) (Check_end hk (hp.ext he) (ld_of hb he) hm hm2 ..)
    have := hQ H' (he.tr h.2)
    rw [hall] at this
    cases hc : cycB (waitsL p) with
    | true => rw [hc] at this; simpa using this
    | false => rw [hc] at this; simpa using this
  | succ q ih =>
    intro i k H1 hr hi hk2 he hpre
    intros
    obtain ⟨k, rfl⟩ : ∃ n, k = n + 1 := ⟨k - 1, by omega⟩
    have e : decide ((i : Int) < (n : Int)) = true := decide_eq_true (by omega)
    have b1 := ld_of hb he
    have l0 := ld_pl b1 0 _ rfl
    rw [hk.hn] at l0
    have hrr : ∀ v : Nat, ((List.range' 0 n).all fun w => (pathL p v w).isSome) = ((List.range n).all fun w => (pathL p v w).isSome) := fun v => by rw [List.range_eq_range']
    rw [loop_succ, f24_b0_eq]
    unfold f24_b0
    simp -implicitDefEqProofs only [r_opt, r_ret, ob_some, ifB_true, iteV_true, iteV_false, r_gdt, r_gdt2, r_gdtf, r_gdtf2, r_gdff, r_gdff2, r_gdft, r_gdft2, r_gdu, r_gdu2, pick_t, pick_f, ext_0, ext_1, x_newB, r_nil, r_fAddr, Nat.zero_add, b_lss, b_leq, b_gtr, b_geq, b_eql, b_neq, u_not, Bool.not_true, Bool.not_false, oneOf_one, oneOf_two, again_normal, again_exit, again_ret, Bool.and_true, e, l0]
    refine Check_loop1 hk (v := i) (by omega) (hp.ext he) b1 (Q := Q) (by omega) hm2 n 0 m H1 (by omega) (by omega) (by omega) (Fr.refl _ _) (fun H' hx hall => ?_) (fun H' hx hall => ?_) ..
    · rw [hrr] at hall
      intros
      simp -implicitDefEqProofs only [r_opt, r_ret, ob_some, ifB_true, iteV_true, iteV_false, r_gdt, r_gdt2, r_gdtf, r_gdtf2, r_gdff, r_gdff2, r_gdft, r_gdft2, r_gdu, r_gdu2, pick_t, pick_f, ext_0, ext_1, x_newB, r_nil, r_fAddr, Nat.zero_add, b_lss, b_leq, b_gtr, b_geq, b_eql, b_neq, u_not, Bool.not_true, Bool.not_false, oneOf_one, oneOf_two, again_normal, again_exit, again_ret, Bool.and_true]
      refine ih (i + 1) k H' (by omega) (by omega) (by omega) (he.tr hx) (fun v hv => ?_) ..
      by_cases hvi : v = i
      · rw [hvi]; exact hall
      · exact hpre v (by omega)
    · rw [hrr] at hall
      intros
      simp -implicitDefEqProofs only [r_opt, r_ret, ob_some, ifB_true, iteV_true, iteV_false, r_gdt, r_gdt2, r_gdtf, r_gdtf2, r_gdff, r_gdff2, r_gdft, r_gdft2, r_gdu, r_gdu2, pick_t, pick_f, ext_0, ext_1, x_newB, r_nil, r_fAddr, Nat.zero_add, b_lss, b_leq, b_gtr, b_geq, b_eql, b_neq, u_not, Bool.not_true, Bool.not_false, oneOf_one, oneOf_two, again_normal, again_exit, again_ret, Bool.and_true]
      rw [f24_r0_eq]
      unfold f24_r0
      refine ⟨H', _, rfl, ?_⟩
      have hno : pathsOk p n = false := by
        rw [← Bool.not_eq_true]
        unfold pathsOk
        rw [List.all_eq_true]
        intro hh
        rw [hh i (List.mem_range.mpr (by omega))] at hall
        cases hall
      have := hQ H' (he.tr hx)
      rw [hno] at this
      simpa using this
theorem Check_is (hp : PV H p ev wv nv) (hm : 17592186045400 < m) (hm2 : m ≤ 72057594037927936) :
    ∃ H', lvl Try.prog pk12 m (.func 24) [plV p ev wv nv] H = some (.int .u16 (errR p), H') ∧ Ext H H' := by
  obtain ⟨H0, hH0⟩ : ∃ H0, H0 = H ++ [plB p ev wv nv] := ⟨_, rfl⟩
  have x0 : Ext H H0 := by rw [hH0]; exact Fr.app _ _ _
  have b0 : H0[H.length]? = some (plB p ev wv nv) := by rw [hH0]; exact at_last _ _
  have p0 := hp.ext x0
  have l11 := ld_pl11 b0
  obtain ⟨H1, g1, x1⟩ := check_is p0 (m := m - 1) (by omega) (by omega)
  have b1 := ld_of b0 x1
  have p1 := p0.ext x1
  have main : ∃ H' r, lvl Try.prog pk12 m (.func 24) [plV p ev wv nv] H = some (r, H') ∧ (r = .int .u16 (errR p) ∧ Ext H H') := by
    refine lvl_ex (Q := fun H' r => r = .int .u16 (errR p) ∧ Ext H H') (pk_no rfl rfl) (by omega) ?_
    rw [f24_eq]
    unfold f24
    cases hc : checkOk p with
    | false =>
      rw [hc] at g1
      have en : (errno false != 0) = true := rfl
      have e : errR p = errno false := by unfold errR; rw [if_neg (by simp [hc])]; rfl
      simp -implicitDefEqProofs only [r_opt, r_ret, ob_some, ifB_true, iteV_true, iteV_false, r_gdt, r_gdt2, r_gdtf, r_gdtf2, r_gdff, r_gdff2, r_gdft, r_gdft2, r_gdu, r_gdu2, pick_t, pick_f, ext_0, ext_1, x_newB, r_nil, r_fAddr, Nat.zero_add, b_lss, b_leq, b_gtr, b_geq, b_eql, b_neq, u_not, Bool.not_true, Bool.not_false, oneOf_one, oneOf_two, again_normal, again_exit, again_ret, Bool.and_true, plV_cells, ← hH0, l11, g1, en]
      exact ⟨H1, _, rfl, by rw [e], x0.tr x1⟩
    | true =>
      rw [hc] at g1
      have en : (errno true != 0) = false := rfl
      obtain ⟨n, hk⟩ := ok_of hc
      have h6 := hk.h6
      have l0 := ld_pl b1 0 _ rfl
      rw [hk.hn] at l0
      simp -implicitDefEqProofs only [r_opt, r_ret, ob_some, ifB_true, iteV_true, iteV_false, r_gdt, r_gdt2, r_gdtf, r_gdtf2, r_gdff, r_gdff2, r_gdft, r_gdft2, r_gdu, r_gdu2, pick_t, pick_f, ext_0, ext_1, x_newB, r_nil, r_fAddr, Nat.zero_add, b_lss, b_leq, b_gtr, b_geq, b_eql, b_neq, u_not, Bool.not_true, Bool.not_false, oneOf_one, oneOf_two, again_normal, again_exit, again_ret, Bool.and_true, plV_cells, ← hH0, l11, g1, en, l0]
      refine Check_loop0 hk (Q := fun H' r => r = .int .u16 (errR p) ∧ Ext H H') p1 b1 (m := m - 1) (by omega) (by omega) (fun H' hx => ⟨?_, (x0.tr x1).tr hx⟩) n 0 (m - 1) H1 (by omega) (by omega) (by omega) (Fr.refl _ _) (fun v hv => absurd hv (by omega)) ..
      congr 1
      unfold errR routeOk
      have hq : p.nodes.toNat = n := by rw [hk.hn]; rfl
      rw [if_pos hc, hc, hq]
      cases cycB (waitsL p) <;> cases pathsOk p n <;> simp
  obtain ⟨H', r, h1, rfl, h2⟩ := main
  exact ⟨H', h1, h2⟩
end
end Go.Proofs.Ytdobnaldfmpimaa

set_option linter.unusedSectionVars false
set_option linter.unusedSimpArgs false
set_option linter.unusedVariables false
set_option maxRecDepth 100000
namespace Go.Proofs.Ytdobnaldfmpimaa
open Go.Abs
section
variable {H : Heap} {m : Nat} {p : PlanD} {ev wv nv : Value}
structure Sn (g : List (List Int)) (Hw : Heap) (ab : Nat) (H : Heap) (s : List Int) : Prop where
  ext : Ext Hw H
  row : H[ab]? = some (rowB s [])
  len : s.length = g.length
theorem Sn.st {g : List (List Int)} {Hw : Heap} {ab : Nat} {s : List Int} (h : Sn g Hw ab H s) (hab : Hw.length ≤ ab) {i : Nat} (hi : i < g.length) (y : Int) :
    ∃ H', stN 1 (.pointer (some ⟨ab, i, none⟩)) (.int .i64 y) H = some (undef, H') ∧ Sn g Hw ab H' (s.set i y) :=
  ⟨_, st_row y h.row (by have := h.len; omega), set_ext h.ext hab, List.getElem?_set_self (List.getElem?_eq_some_iff.mp h.row).1, by simp [h.len]⟩
end
end Go.Proofs.Ytdobnaldfmpimaa

set_option linter.unusedSectionVars false
set_option linter.unusedSimpArgs false
set_option linter.unusedVariables false
set_option maxRecDepth 100000
namespace Go.Proofs.Ytdobnaldfmpimaa
open Go.Abs
theorem nat_u8 {a : Int} (h : (Lit.int .u8 a).wf = true) : ∃ n : Nat, a = n ∧ n < 256 := by
  have := wf_u8 h
  exact ⟨a.toNat, by omega, by omega⟩
def natOf (r : List Value) : Nat := match r with
  | [.int _ i] => i.toNat
  | _ => 0
theorem Us.of_rp {G : Heap} {n : Nat} {u : Value} (h : Rp Try.prog G n 43 [u]) : ∃ next, Us G u next ∧ (∀ x ∈ next, x < 256) ∧ next.length ≤ 72057594037927936 := by
  obtain ⟨m, u', b, rows, h1, h2, h3, h4, h5⟩ := h.slice' (e := 5) (by kernel_rfl)
  cases h1
  have hc : Try.prog.cellsOf 5 = 1 := by kernel_rfl
  have hb : Try.prog.bytesOf 5 = 1 := by kernel_rfl
  rw [hc] at h2
  rw [hb] at h3
  have hr : ∀ r ∈ rows, u8C (natOf r) = r ∧ natOf r < 256 := fun r hr => by
    obtain ⟨i, hi, hw⟩ := (h5 r hr).2.int (k := .u8) (by kernel_rfl)
    obtain ⟨k, rfl, hk⟩ := nat_u8 hw
    subst hi
    exact ⟨rfl, by simpa [natOf] using hk⟩
  have hm : (rows.map natOf).map u8C = rows := by
    rw [List.map_map]
    conv => rhs; rw [← List.map_id rows]
    exact List.map_congr_left fun r hr' => (hr r hr').1
  refine ⟨rows.map natOf, ?_, fun x hx => ?_, ?_⟩
  · rw [← hm] at h2
    rcases h4 with rfl | ⟨c, rfl⟩
    · have h0 : rows = [] := by
        have := h2.len
        have hl : lenSl (Value.slice none 0 0) = some (.int .i64 0) := rfl
        rw [hl, hm] at this
        simp at this
        exact List.length_eq_zero_iff.mp (by omega)
      subst h0
      exact .inl ⟨rfl, rfl⟩
    · exact h2.rs u8C_len (c := c) (.inr (by rw [List.length_map]))
  · obtain ⟨r, hr1, rfl⟩ := List.mem_map.mp hx
    exact (hr r hr1).2
  · have : reachBytes = 140737488351232 := rfl
    rw [List.length_map]
    omega
end Go.Proofs.Ytdobnaldfmpimaa

set_option linter.unusedSectionVars false
set_option linter.unusedSimpArgs false
set_option linter.unusedVariables false
set_option maxRecDepth 100000
namespace Go.Proofs.Ytdobnaldfmpimaa
open Go.Abs
section
variable {H : Heap} {m : Nat} {p : PlanD} {ev wv nv : Value}
end
theorem Sl.rs' {α : Type} {el : α → List Value} {e : TypeId} {sz b : Nat} {G : Heap} {u : Value} {xs : List α} (hsz : ∀ x, (el x).length = sz) (h2 : Sl G u sz b (xs.map el)) (h4 : u = .slice none 0 0 ∨ ∃ c, u = .slice (some ⟨c, 0, none⟩) xs.length xs.length) : Rs el e G u xs := by
  rcases h4 with rfl | ⟨c, rfl⟩
  · have h0 : xs = [] := by
      have := h2.len
      have hl : lenSl (Value.slice none 0 0) = some (.int .i64 0) := rfl
      rw [hl] at this
      simp at this
      exact List.length_eq_zero_iff.mp (by omega)
    subst h0
    exact .inl ⟨rfl, rfl⟩
  · exact h2.rs hsz (c := c) (.inr rfl)
end Go.Proofs.Ytdobnaldfmpimaa

set_option linter.unusedSectionVars false
set_option linter.unusedSimpArgs false
set_option linter.unusedVariables false
set_option maxRecDepth 100000
namespace Go.Proofs.Ytdobnaldfmpimaa
open Go.Abs
section
variable {H H0 : Heap} {m : Nat} {p : PlanD} {ev wv nv : Value}
def tab (n : Nat) (F : Nat → Nat → Int) : List (List Int) := (List.range n).map fun v => (List.range n).map (F v)
theorem tab_at {n : Nat} {F : Nat → Nat → Int} {v : Nat} (h : v < n) : (tab n F)[v]? = some ((List.range n).map (F v)) := by
  unfold tab
  rw [List.getElem?_map, List.getElem?_range h]
  rfl
theorem tab_len (n : Nat) (F : Nat → Nat → Int) : (tab n F).length = n := by simp [tab]
theorem tab_ext {n : Nat} {F G : Nat → Nat → Int} (h : ∀ v w, v < n → w < n → F v w = G v w) : tab n F = tab n G := by
  unfold tab
  refine List.map_congr_left fun v hv => List.map_congr_left fun w hw => ?_
  exact h v w (List.mem_range.mp hv) (List.mem_range.mp hw)
theorem tab_set {n : Nat} {F : Nat → Nat → Int} {v w : Nat} (hv : v < n) (hw : w < n) (x : Int) : (tab n F).set v (((List.range n).map (F v)).set w x) = tab n fun v' w' => if v' = v ∧ w' = w then x else F v' w' := by
  apply List.ext_getElem?
  intro i
  by_cases hi : i < n
  · rw [tab_at hi, List.getElem?_set]
    by_cases hvi : v = i
    · subst hvi
      rw [if_pos rfl, if_pos (by rw [tab_len]; exact hv)]
      congr 1
      apply List.ext_getElem?
      intro j
      by_cases hj : j < n
      · rw [List.getElem?_map, List.getElem?_range hj, List.getElem?_set]
        by_cases hwj : w = j
        · subst hwj
          rw [if_pos rfl, if_pos (by simp; exact hw)]
          simp
        · rw [if_neg hwj, List.getElem?_map, List.getElem?_range hj]
          simp only [Option.map_some, true_and]
          rw [if_neg (Ne.symm hwj)]
      · rw [List.getElem?_eq_none (by simp; omega), List.getElem?_eq_none (by simp; omega)]
    · rw [if_neg hvi, tab_at hi]
      congr 1
      refine List.map_congr_left fun j _ => ?_
      rw [if_neg (by omega)]
  · rw [List.getElem?_eq_none (by simp [tab]; omega), List.getElem?_eq_none (by simp [tab]; omega)]
theorem RowsA.set {N : List (List Int)} (h : RowsA H0 H nv N wv) {v w : Nat} {r : List Int} (hr : N[v]? = some r) (hw : w < r.length) (x : Int) :
    ∃ a u a2 c rest, iAddr 1 nv (.int .i64 (v : Nat)) = some a ∧ ld1 a H = some (u, H) ∧ lenSl u = some (.int .i64 r.length) ∧ iAddr 1 u (.int .i64 (w : Nat)) = some a2 ∧ stN 1 a2 (.int .i64 x) H = some (undef, H.set c (rowB (r.set w x) rest)) ∧ RowsA H0 (H.set c (rowB (r.set w x) rest)) nv (N.set v (r.set w x)) wv ∧
      H[c]? = some (rowB r rest) ∧ ¬ home wv c ∧ H0.length ≤ c := by
  obtain ⟨us, hi, ha⟩ := h
  have hvl := (List.getElem?_eq_some_iff.mp hr).1
  obtain ⟨s, hs⟩ : ∃ s, us[v]? = some s := ⟨_, List.getElem?_eq_getElem (by rw [hi.len]; exact hvl)⟩
  have hrow := hi.el v s r hs hr
  obtain ⟨b, o, g1, _, g3⟩ := hi.row.rs.at_ sC_len hs .i64
  have g4 : ld1 (.pointer (some ⟨b, o, none⟩)) H = some (s.1, H) := (g3 H rfl).2.1 0 _ rfl
  have hlen := hrow.len
  obtain ⟨hcs, ⟨hv, h0⟩ | ⟨c, cap, rest, hv, h1, h2, h3⟩⟩ := id hrow
  · rw [h0] at hw; exact absurd hw (Nat.not_lt_zero _)
  · have hb : H[c]? = some (rowB r rest) := by rw [h3, inC_flat]; rfl
    have hcl := (List.getElem?_eq_some_iff.mp hb).1
    have hhome : home s.1 c := ⟨0, _, _, hv⟩
    have hac := ha s (List.mem_of_getElem? hs) c hhome
    have new : Iw (H.set c (rowB (r.set w x) rest)) s.1 (r.set w x) := by
      refine ⟨by rw [inC_flat]; simp, .inr ⟨c, cap, rest, by rw [List.length_set]; exact hv, by rw [List.length_set]; exact h1, by rw [List.length_set]; exact h2, ?_⟩⟩
      rw [List.getElem?_set_self hcl, inC_flat]
      rfl
    refine ⟨_, s.1, .pointer (some ⟨c, w, none⟩), c, rest, g1, g4, hlen, ?_, st_row x hb hw, ⟨us, ⟨?_, by rw [List.length_set]; exact hi.len, fun j u xs hu hxs => ?_, hi.ap⟩, ha⟩, hb, hac.1, hac.2⟩
    · rw [hv]
      have := ia (c := c) (o := 0) (cap := cap) hw
      rw [Nat.zero_add] at this
      exact this
    · refine hi.row.keep fun b hb' => List.getElem?_set_ne fun hh => ?_
      subst hh
      obtain ⟨cs, hc⟩ := hi.row.blk hb'
      rw [hb] at hc
      simp [rowB] at hc
    · by_cases hj : j = v
      · subst hj
        rw [hs] at hu
        cases hu
        rw [List.getElem?_set_self hvl] at hxs
        cases hxs
        exact new
      · rw [List.getElem?_set_ne (Ne.symm hj)] at hxs
        refine (hi.el j u xs hu hxs).keep fun b hb' => List.getElem?_set_ne fun hh => ?_
        subst hh
        rcases Nat.lt_or_gt_of_ne hj with h | h
        · exact hi.ap j v u s h hu hs _ hb' hhome
        · exact hi.ap v j s u h hs hu _ hhome hb'
structure PA (H0 H : Heap) (a : Nat) (p : PlanD) (ev wv nv : Value) : Prop where
  ext : Ext H0 H
  blk : H[a]? = some (plB p ev wv nv)
  ha : H0.length ≤ a
  e : Ew H ev p.edges
  w : Iw H wv p.weights
  nx : RowsA H0 H nv p.next wv
  be : p.edges.length ≤ 1000
  bw : p.weights.length ≤ 1000
  bn : p.next.length ≤ 1000
variable {a : Nat}
theorem PA.pv (h : PA H0 H a p ev wv nv) : PV H p ev wv nv := ⟨h.e.rs, h.w.rs, h.nx.rw.rows, by have := h.be; omega, by have := h.bw; omega, by have := h.bn; omega⟩
theorem PA.on {H' : Heap} (h : PA H0 H a p ev wv nv) (he : Ext H H') : PA H0 H' a p ev wv nv :=
  ⟨h.ext.tr he, ld_of h.blk he, h.ha, h.e.keep fun b hb => he.2 b (h.e.lt hb) id, h.w.keep fun b hb => he.2 b (h.w.lt hb) id, h.nx.ext he, h.be, h.bw, h.bn⟩
theorem PA.set (h : PA H0 H a p ev wv nv) {n : Nat} {F : Nat → Nat → Int} (hp : p.next = tab n F) {v w : Nat} (hv : v < n) (hw : w < n) (x : Int) :
    ∃ a1 u a2 H', iAddr 1 nv (.int .i64 (v : Nat)) = some a1 ∧ ld1 a1 H = some (u, H) ∧ lenSl u = some (.int .i64 n) ∧ iAddr 1 u (.int .i64 (w : Nat)) = some a2 ∧ stN 1 a2 (.int .i64 x) H = some (undef, H') ∧ PA H0 H' a { p with next := tab n fun v' w' => if v' = v ∧ w' = w then x else F v' w' } ev wv nv := by
  have hr : p.next[v]? = some ((List.range n).map (F v)) := by rw [hp]; exact tab_at hv
  obtain ⟨a1, u, a2, c, rest, g1, g2, g3, g4, g5, g6, g7, g8, g9⟩ := h.nx.set hr (w := w) (by simp; exact hw) x
  rw [hp, tab_set hv hw] at g6
  have other : ∀ b, b ≠ c → (H.set c (rowB (((List.range n).map (F v)).set w x) rest))[b]? = H[b]? := fun b hb => List.getElem?_set_ne (Ne.symm hb)
  refine ⟨a1, u, a2, _, g1, g2, by rw [g3]; simp, g4, g5, ⟨⟨by rw [List.length_set]; exact h.ext.1, fun b hb _ => ?_⟩, ?_, h.ha, ?_, ?_, g6, h.be, h.bw, by rw [tab_len]; have := h.bn; rw [hp, tab_len] at this; exact this⟩⟩
  · rw [other b (by omega), h.ext.2 b hb id]
  · have hac : a ≠ c := fun hh => by
      subst hh
      have := h.blk
      rw [g7] at this
      simp [rowB, plB] at this
    rw [other a hac]
    exact h.blk
  · refine h.e.keep fun b hb => other b fun hh => ?_
    subst hh
    obtain ⟨cs, hc⟩ := h.e.blk hb
    rw [g7] at hc
    simp [rowB] at hc
  · exact h.w.keep fun b hb => other b fun hh => g8 (hh ▸ hb)
theorem PA.row (h : PA H0 H a p ev wv nv) {n : Nat} {F : Nat → Nat → Int} (hp : p.next = tab n F) {v : Nat} (hv : v < n) : ∃ a1 u, iAddr 1 nv (.int .i64 (v : Nat)) = some a1 ∧ ld1 a1 H = some (u, H) ∧ lenSl u = some (.int .i64 n) := by
  have hr : p.next[v]? = some ((List.range n).map (F v)) := by rw [hp]; exact tab_at hv
  obtain ⟨a1, u, g1, g2, g3⟩ := h.nx.rw.rows.at_ hr .i64
  exact ⟨a1, u, g1, g2, by rw [g3.len]; simp⟩
theorem made_pa {H2 : Heap} {nodes room more joined : Nat} {next : List Nat} (h : RowsA H0 H2 nv (mkP nodes room more joined next).next wv) (hx : Ext H0 H2) (he : Ew H2 ev (mkP nodes room more joined next).edges) (hw : Iw H2 wv (mkP nodes room more joined next).weights) :
    PA H0 (H2 ++ [plB (mkP nodes room more joined next) ev wv nv]) H2.length (mkP nodes room more joined next) ev wv nv := by
  have x2 : Ext H2 (H2 ++ [plB (mkP nodes room more joined next) ev wv nv]) := Fr.app _ _ _
  have := mk_e15 nodes room more joined next
  have hn := mkN_is nodes
  exact ⟨hx.tr x2, at_last _ _, hx.1, he.on _, hw.on _, h.ext x2, by omega, by simp [mkP]; omega, by simp [mkP]; omega⟩
def ringF (F : Nat → Nat → Int) (i j v w : Nat) : Int := if (v < i ∨ (v = i ∧ w < j)) ∧ v ≠ w then (((v + 1) % 3 : Nat) : Int) else F v w
def ringP (on : Bool) : PlanD := if on = true then { mkP 1 0 0 7 [] with next := tab 3 fun v w => if v ≠ w then (((v + 1) % 3 : Nat) : Int) else w } else mkP 1 0 0 7 []
theorem ring_loop1 {i : Nat} (hi : i < 3) {K : Ex → K (Value × Heap)} {q0 : PlanD} {rb : Nat} (hm : 100 < m) {Q : Heap → Value → Prop} :
    ∀ (q j k : Nat) (H : Heap), 3 - j = q → j ≤ 3 → q < k → PA H0 H a { q0 with next := tab 3 (ringF (fun _ w => (w : Int)) i j) } ev wv nv →
    (∀ H', PA H0 H' a { q0 with next := tab 3 (ringF (fun _ w => (w : Int)) i 3) } ev wv nv → ∀ (x1 x5 x6 x7 x8 x9 x10 x11 x12 x13 x14 x15 x16 x17 x18 x19 x20 x21 x22 x23 x24 x25 x26 x27 x28 x29 x30 x31 x32 x33 x34 x35 x36 x37 x38 x39 x40 : Value), ∃ H2 rr, K .normal [(.bool true), x1, (.pointer (some ⟨rb, 0, none⟩)), (.pointer (some ⟨a, 0, none⟩)), (.int .i64 (i + 1 : Nat)), x5, x6, x7, x8, x9, x10, x11, x12, x13, x14, x15, x16, x17, x18, x19, x20, x21, x22, x23, x24, x25, x26, x27, x28, x29, x30, x31, x32, x33, x34, x35, x36, x37, x38, x39, x40] H' = some (rr, H2) ∧ Q H2 rr) → ∀ (x1 x6 x7 x8 x9 x10 x11 x12 x13 x14 x15 x16 x17 x18 x19 x20 x21 x22 x23 x24 x25 x26 x27 x28 x29 x30 x31 x32 x33 x34 x35 x36 x37 x38 x39 x40 : Value),
    ∃ H' rr, loopN k (runCode Try.prog (lvl Try.prog pk12 m) (loopN m) f46_c1) (f46_k1 (lvl Try.prog pk12 m) (loopN m) K) [(.bool true), x1, (.pointer (some ⟨rb, 0, none⟩)), (.pointer (some ⟨a, 0, none⟩)), (.int .i64 (i : Nat)), (.int .i64 (j : Nat)), x6, x7, x8, x9, x10, x11, x12, x13, x14, x15, x16, x17, x18, x19, x20, x21, x22, x23, x24, x25, x26, x27, x28, x29, x30, x31, x32, x33, x34, x35, x36, x37, x38, x39, x40] H = some (rr, H') ∧ Q H' rr := by
  intro q
  induction q with
  | zero =>
    intro j k H hq hj hk hA hK
    intros
    obtain ⟨k, rfl⟩ : ∃ n, k = n + 1 := ⟨k - 1, by omega⟩
    obtain rfl : j = 3 := by omega
    have e : decide (((3 : Nat) : Int) < ((3 : Nat) : Int)) = false := by simp
    have e3 : IntKind.i64.wrap ((i : Int) + 1) = ((i + 1 : Nat) : Int) := by rw [wrap_i64 (by omega) (by omega)]; omega
    have l10 := ld_pl hA.blk 10 _ rfl
    obtain ⟨a1, u, g1, g2, g3⟩ := hA.row rfl hi
    rw [loop_succ, f46_b1_eq]
    unfold f46_b1
    simp -implicitDefEqProofs only [r_opt, r_ret, ob_some, ifB_true, iteV_true, iteV_false, r_gdt, r_gdt2, r_gdtf, r_gdtf2, r_gdff, r_gdff2, r_gdft, r_gdft2, r_gdu, r_gdu2, pick_t, pick_f, ext_0, ext_1, x_newB, r_nil, r_fAddr, Nat.zero_add, b_lss, b_leq, b_gtr, b_geq, b_eql, b_neq, u_not, Bool.not_true, Bool.not_false, oneOf_one, oneOf_two, again_normal, again_exit, again_ret, Bool.and_true, l10, g1, g2, g3, e]
    rw [f46_e1_2_eq]
    unfold f46_e1_2
    simp -implicitDefEqProofs only [r_opt, r_ret, ob_some, ifB_true, iteV_true, iteV_false, r_gdt, r_gdt2, r_gdtf, r_gdtf2, r_gdff, r_gdff2, r_gdft, r_gdft2, r_gdu, r_gdu2, pick_t, pick_f, ext_0, ext_1, x_newB, r_nil, r_fAddr, Nat.zero_add, b_lss, b_leq, b_gtr, b_geq, b_eql, b_neq, u_not, Bool.not_true, Bool.not_false, oneOf_one, oneOf_two, again_normal, again_exit, again_ret, Bool.and_true, b_add, e3]
    exact hK H hA ..
  | succ q ih =>
    intro j k H hq hj hk hA hK
    intros
    obtain ⟨k, rfl⟩ : ∃ n, k = n + 1 := ⟨k - 1, by omega⟩
    have e : decide ((j : Int) < ((3 : Nat) : Int)) = true := decide_eq_true (by omega)
    have e3 : IntKind.i64.wrap ((j : Int) + 1) = ((j + 1 : Nat) : Int) := by rw [wrap_i64 (by omega) (by omega)]; omega
    have e4 : IntKind.i64.wrap ((i : Int) + 1) = ((i + 1 : Nat) : Int) := by rw [wrap_i64 (by omega) (by omega)]; omega
    have e5 := remI (i + 1) 3 3 rfl (by omega)
    have l10 := ld_pl hA.blk 10 _ rfl
    obtain ⟨a0, u0, g1', g2', g3'⟩ := hA.row rfl hi
    obtain ⟨a1, u, a2, H', g1, g2, g3, g4, g5, g6⟩ := hA.set rfl hi (w := j) (by omega) (((i + 1) % 3 : Nat) : Int)
    rw [g1] at g1'
    cases g1'
    rw [g2] at g2'
    cases g2'
    rw [loop_succ, f46_b1_eq]
    unfold f46_b1
    cases c : ((i : Int) != (j : Int)) with
    | true =>
      have hne : i ≠ j := by simp at c; omega
      simp -implicitDefEqProofs only [r_opt, r_ret, ob_some, ifB_true, iteV_true, iteV_false, r_gdt, r_gdt2, r_gdtf, r_gdtf2, r_gdff, r_gdff2, r_gdft, r_gdft2, r_gdu, r_gdu2, pick_t, pick_f, ext_0, ext_1, x_newB, r_nil, r_fAddr, Nat.zero_add, b_lss, b_leq, b_gtr, b_geq, b_eql, b_neq, u_not, Bool.not_true, Bool.not_false, oneOf_one, oneOf_two, again_normal, again_exit, again_ret, Bool.and_true, l10, g1, g2, g3, e, c, b_add, e4, e5, g4, g5, e3]
      refine ih (j + 1) k H' (by omega) (by omega) (by omega) ?_ hK ..
      have : (tab 3 fun v' w' => if v' = i ∧ w' = j then (((i + 1) % 3 : Nat) : Int) else ringF (fun _ w => (w : Int)) i j v' w') = tab 3 (ringF (fun _ w => (w : Int)) i (j + 1)) := tab_ext fun v w hv hw => by
        unfold ringF
        by_cases h1 : v = i ∧ w = j
        · obtain ⟨rfl, rfl⟩ := h1
          rw [if_pos ⟨rfl, rfl⟩, if_pos ⟨.inr ⟨rfl, by omega⟩, hne⟩]
        · rw [if_neg h1]
          by_cases h2 : (v < i ∨ (v = i ∧ w < j)) ∧ v ≠ w
          · rw [if_pos h2, if_pos (by omega)]
          · rw [if_neg h2, if_neg (by omega)]
      rw [← this]
      exact g6
    | false =>
      have hne : i = j := by simp at c; omega
      simp -implicitDefEqProofs only [r_opt, r_ret, ob_some, ifB_true, iteV_true, iteV_false, r_gdt, r_gdt2, r_gdtf, r_gdtf2, r_gdff, r_gdff2, r_gdft, r_gdft2, r_gdu, r_gdu2, pick_t, pick_f, ext_0, ext_1, x_newB, r_nil, r_fAddr, Nat.zero_add, b_lss, b_leq, b_gtr, b_geq, b_eql, b_neq, u_not, Bool.not_true, Bool.not_false, oneOf_one, oneOf_two, again_normal, again_exit, again_ret, Bool.and_true, l10, g1, g2, g3, e, c, b_add, e3]
      refine ih (j + 1) k H (by omega) (by omega) (by omega) ?_ hK ..
      have : tab 3 (ringF (fun _ w => (w : Int)) i j) = tab 3 (ringF (fun _ w => (w : Int)) i (j + 1)) := tab_ext fun v w hv hw => by
        unfold ringF
        by_cases h2 : (v < i ∨ (v = i ∧ w < j)) ∧ v ≠ w
        · rw [if_pos h2, if_pos (by omega)]
        · rw [if_neg h2, if_neg (by omega)]
      rw [← this]
      exact hA
theorem PA.put (h : PA H0 H a p ev wv nv) {rb : Nat} (hrb : H[rb]? = some plZ) {Hb : Heap} (hb : Ext Hb H0) (hl : Hb.length ≤ rb) :
    stN 11 (.pointer (some ⟨rb, 0, none⟩)) (plV p ev wv nv) H = some (undef, H.set rb (plB p ev wv nv)) ∧ ldN 11 (.pointer (some ⟨rb, 0, none⟩)) (H.set rb (plB p ev wv nv)) = some (plV p ev wv nv, H.set rb (plB p ev wv nv)) ∧ PV (H.set rb (plB p ev wv nv)) p ev wv nv ∧ Ext Hb (H.set rb (plB p ev wv nv)) := by
  have hrl := (List.getElem?_eq_some_iff.mp hrb).1
  have hall := h.pv.all
  have st : stN 11 (.pointer (some ⟨rb, 0, none⟩)) (plV p ev wv nv) H = some (undef, H.set rb (plB p ev wv nv)) := by
    have e1 : (plV p ev wv nv).cells.toList = plC p ev wv nv := rfl
    rw [x_stN 11 _ _ _ rfl, hrb, e1]
    unfold plZ
    rw [x_stC _ _ _ _ _ _ (by decide) (by simp [plC]) hall]
    rfl
  have kp : ∀ (b : Nat) (cs : List Value) (e : TypeId), H[b]? = some (.cells cs e .row) → (H.set rb (plB p ev wv nv))[b]? = H[b]? := fun b cs e hb => by
    refine List.getElem?_set_ne fun hh => ?_
    subst hh
    rw [hrb] at hb
    simp [plZ] at hb
  refine ⟨st, ld_pl11 (List.getElem?_set_self hrl), ⟨(h.e.keep fun b hb => ?_).rs, (h.w.keep fun b hb => ?_).rs, ?_, by have := h.be; omega, by have := h.bw; omega, by have := h.bn; omega⟩, set_ext (hb.tr h.ext) hl⟩
  · obtain ⟨cs, hc⟩ := h.e.blk hb
    exact kp b cs _ hc
  · obtain ⟨cs, hc⟩ := h.w.blk hb
    exact kp b cs _ hc
  · obtain ⟨us, hi, _⟩ := h.nx
    refine RowsW.rows ⟨us, hi.keep (fun b hb => ?_) fun u hu b hb => ?_⟩
    · obtain ⟨cs, hc⟩ := hi.row.blk hb
      exact kp b cs _ hc
    · obtain ⟨cs, hc⟩ := hi.blk hu hb
      exact kp b cs _ hc
def Rung (Hb : Heap) (q : PlanD) (H' : Heap) (r : Value) : Prop := ∃ ev wv nv, r = plV q ev wv nv ∧ PV H' q ev wv nv ∧ Ext Hb H'
theorem ring_end {rb : Nat} {q : PlanD} (h : PA H0 H a q ev wv nv) (hrb : H[rb]? = some plZ) {Hb : Heap} (hb : Ext Hb H0) (hl : Hb.length ≤ rb) (x0 x1 x4 x5 x6 x7 x8 x9 x10 x11 x12 x13 x14 x15 x16 x17 x18 x19 x20 x21 x22 x23 x24 x25 x26 x27 x28 x29 x30 x31 x32 x33 x34 x35 x36 x37 x38 x39 x40 : Value) :
    ∃ H' rr, f46_e0_0 (lvl Try.prog pk12 m) (loopN m) x0 x1 (.pointer (some ⟨rb, 0, none⟩)) (.pointer (some ⟨a, 0, none⟩)) x4 x5 x6 x7 x8 x9 x10 x11 x12 x13 x14 x15 x16 x17 x18 x19 x20 x21 x22 x23 x24 x25 x26 x27 x28 x29 x30 x31 x32 x33 x34 x35 x36 x37 x38 x39 x40 H = some (rr, H') ∧ Rung Hb q H' rr := by
  obtain ⟨p1, p2, p3, p4⟩ := h.put hrb hb hl
  have l11 := ld_pl11 h.blk
  unfold f46_e0_0
  simp -implicitDefEqProofs only [r_opt, r_ret, ob_some, ifB_true, iteV_true, iteV_false, r_gdt, r_gdt2, r_gdtf, r_gdtf2, r_gdff, r_gdff2, r_gdft, r_gdft2, r_gdu, r_gdu2, pick_t, pick_f, ext_0, ext_1, x_newB, r_nil, r_fAddr, Nat.zero_add, b_lss, b_leq, b_gtr, b_geq, b_eql, b_neq, u_not, Bool.not_true, Bool.not_false, oneOf_one, oneOf_two, again_normal, again_exit, again_ret, Bool.and_true, l11, p1, p2]
  exact ⟨_, _, rfl, ev, wv, nv, rfl, p3, p4⟩
theorem ring_loop0 {q0 : PlanD} {rb : Nat} (hm : 200 < m) {Hb : Heap} (hb : Ext Hb H0) (hl : Hb.length ≤ rb) (hrb : H0[rb]? = some plZ) :
    ∀ (q i k : Nat) (H : Heap), 3 - i = q → i ≤ 3 → q < k → PA H0 H a { q0 with next := tab 3 (ringF (fun _ w => (w : Int)) i 0) } ev wv nv → ∀ (x1 x5 x6 x7 x8 x9 x10 x11 x12 x13 x14 x15 x16 x17 x18 x19 x20 x21 x22 x23 x24 x25 x26 x27 x28 x29 x30 x31 x32 x33 x34 x35 x36 x37 x38 x39 x40 : Value),
    ∃ H' rr, loopN k (runCode Try.prog (lvl Try.prog pk12 m) (loopN m) f46_c0) (f46_k0 (lvl Try.prog pk12 m) (loopN m)) [(.bool true), x1, (.pointer (some ⟨rb, 0, none⟩)), (.pointer (some ⟨a, 0, none⟩)), (.int .i64 (i : Nat)), x5, x6, x7, x8, x9, x10, x11, x12, x13, x14, x15, x16, x17, x18, x19, x20, x21, x22, x23, x24, x25, x26, x27, x28, x29, x30, x31, x32, x33, x34, x35, x36, x37, x38, x39, x40] H = some (rr, H') ∧ Rung Hb { q0 with next := tab 3 (ringF (fun _ w => (w : Int)) 3 0) } H' rr := by
  intro q
  induction q with
  | zero =>
    intro i k H hq hi hk hA
    intros
    obtain ⟨k, rfl⟩ : ∃ n, k = n + 1 := ⟨k - 1, by omega⟩
    obtain rfl : i = 3 := by omega
    have e : decide (((3 : Nat) : Int) < ((3 : Nat) : Int)) = false := by simp
    have l10 := ld_pl hA.blk 10 _ rfl
    have hlen := hA.pv.n.len
    have h3 : (tab 3 (ringF (fun _ w => (w : Int)) 3 0)).length = 3 := tab_len _ _
    simp only [h3] at hlen
    rw [loop_succ, f46_b0_eq]
    unfold f46_b0
    simp -implicitDefEqProofs only [r_opt, r_ret, ob_some, ifB_true, iteV_true, iteV_false, r_gdt, r_gdt2, r_gdtf, r_gdtf2, r_gdff, r_gdff2, r_gdft, r_gdft2, r_gdu, r_gdu2, pick_t, pick_f, ext_0, ext_1, x_newB, r_nil, r_fAddr, Nat.zero_add, b_lss, b_leq, b_gtr, b_geq, b_eql, b_neq, u_not, Bool.not_true, Bool.not_false, oneOf_one, oneOf_two, again_normal, again_exit, again_ret, Bool.and_true, l10, hlen, e]
    rw [f46_e0_0_eq]
    exact ring_end hA (ld_of hrb hA.ext) hb hl ..
  | succ q ih =>
    intro i k H hq hi hk hA
    intros
    obtain ⟨k, rfl⟩ : ∃ n, k = n + 1 := ⟨k - 1, by omega⟩
    have e : decide ((i : Int) < ((3 : Nat) : Int)) = true := decide_eq_true (by omega)
    have l10 := ld_pl hA.blk 10 _ rfl
    have hlen := hA.pv.n.len
    have h3 : (tab 3 (ringF (fun _ w => (w : Int)) i 0)).length = 3 := tab_len _ _
    simp only [h3] at hlen
    rw [loop_succ, f46_b0_eq]
    unfold f46_b0
    simp -implicitDefEqProofs only [r_opt, r_ret, ob_some, ifB_true, iteV_true, iteV_false, r_gdt, r_gdt2, r_gdtf, r_gdtf2, r_gdff, r_gdff2, r_gdft, r_gdft2, r_gdu, r_gdu2, pick_t, pick_f, ext_0, ext_1, x_newB, r_nil, r_fAddr, Nat.zero_add, b_lss, b_leq, b_gtr, b_geq, b_eql, b_neq, u_not, Bool.not_true, Bool.not_false, oneOf_one, oneOf_two, again_normal, again_exit, again_ret, Bool.and_true, l10, hlen, e]
    refine ring_loop1 (q0 := q0) (rb := rb) (i := i) (by omega) (by omega) (Q := Rung Hb { q0 with next := tab 3 (ringF (fun _ w => (w : Int)) 3 0) }) 3 0 m H (by omega) (by omega) (by omega) hA (fun H' hA' => ?_) ..
    intros
    simp -implicitDefEqProofs only [r_opt, r_ret, ob_some, ifB_true, iteV_true, iteV_false, r_gdt, r_gdt2, r_gdtf, r_gdtf2, r_gdff, r_gdff2, r_gdft, r_gdft2, r_gdu, r_gdu2, pick_t, pick_f, ext_0, ext_1, x_newB, r_nil, r_fAddr, Nat.zero_add, b_lss, b_leq, b_gtr, b_geq, b_eql, b_neq, u_not, Bool.not_true, Bool.not_false, oneOf_one, oneOf_two, again_normal, again_exit, again_ret, Bool.and_true]
    refine ih (i + 1) k H' (by omega) (by omega) (by omega) ?_ ..
    have : tab 3 (ringF (fun _ w => (w : Int)) i 3) = tab 3 (ringF (fun _ w => (w : Int)) (i + 1) 0) := tab_ext fun v w hv hw => by
      unfold ringF
      by_cases h2 : (v < i ∨ (v = i ∧ w < 3)) ∧ v ≠ w
      · rw [if_pos h2, if_pos (by omega)]
      · rw [if_neg h2, if_neg (by omega)]
    rw [← this]
    exact hA'
theorem ring_is (on : Bool) (hm : 300 < m) : ∃ H' rr, lvl Try.prog pk12 m (.func 46) [.bool on] H = some (rr, H') ∧ Rung H (ringP on) H' rr := by
  obtain ⟨H1, hH1⟩ : ∃ H1, H1 = H ++ [plZ] := ⟨_, rfl⟩
  have x1 : Ext H H1 := by rw [hH1]; exact Fr.app _ _ _
  have b1 : H1[H.length]? = some plZ := by rw [hH1]; exact at_last _ _
  obtain ⟨H2, u, g1, hmd⟩ := make_is (H := H1) (m := m - 1) 1 0 0 7 (by omega) (by omega) (by omega) (by omega) (us_nil H1) (by simp) (by simp) (by omega)
  obtain ⟨ev, wv, nv, rfl, x2, hp, he, hw, hra⟩ := hmd.pa
  have cp := pl_copy hp H2
  have hA := made_pa hra x2 he hw
  obtain ⟨H3, hH3⟩ : ∃ H3, H3 = H2 ++ [plB (mkP 1 0 0 7 []) ev wv nv] := ⟨_, rfl⟩
  rw [← hH3] at cp hA
  have z1 : ((1 : Nat) : Int) = 1 := rfl
  have z0 : ((0 : Nat) : Int) = 0 := rfl
  have z7 : ((7 : Nat) : Int) = 7 := rfl
  simp only [z1, z0, z7] at g1
  refine lvl_ex (pk_no rfl rfl) (by omega) ?_
  rw [f46_eq]
  unfold f46
  cases on with
  | true =>
    simp -implicitDefEqProofs only [r_opt, r_ret, ob_some, ifB_true, iteV_true, iteV_false, r_gdt, r_gdt2, r_gdtf, r_gdtf2, r_gdff, r_gdff2, r_gdft, r_gdft2, r_gdu, r_gdu2, pick_t, pick_f, ext_0, ext_1, x_newB, r_nil, r_fAddr, Nat.zero_add, b_lss, b_leq, b_gtr, b_geq, b_eql, b_neq, u_not, Bool.not_true, Bool.not_false, oneOf_one, oneOf_two, again_normal, again_exit, again_ret, Bool.and_true, plZ_is, ← hH1, g1, cp]
    have hst : PA H1 H3 H2.length { mkP 1 0 0 7 [] with next := tab 3 (ringF (fun _ w => (w : Int)) 0 0) } ev wv nv := by
      have : tab 3 (ringF (fun _ w => (w : Int)) 0 0) = (mkP 1 0 0 7 []).next := by decide +kernel
      rw [this]
      exact hA
    have e : ringP true = { mkP 1 0 0 7 [] with next := tab 3 (ringF (fun _ w => (w : Int)) 3 0) } := by
      have : tab 3 (ringF (fun _ w => (w : Int)) 3 0) = tab 3 fun v w => if v ≠ w then (((v + 1) % 3 : Nat) : Int) else w := by decide +kernel
      rw [this]
      rfl
    rw [e]
    exact ring_loop0 (m := m - 1) (by omega) x1 (Nat.le_refl _) b1 3 0 (m - 1) H3 (by omega) (by omega) (by omega) hst ..
  | false =>
    simp -implicitDefEqProofs only [r_opt, r_ret, ob_some, ifB_true, iteV_true, iteV_false, r_gdt, r_gdt2, r_gdtf, r_gdtf2, r_gdff, r_gdff2, r_gdft, r_gdft2, r_gdu, r_gdu2, pick_t, pick_f, ext_0, ext_1, x_newB, r_nil, r_fAddr, Nat.zero_add, b_lss, b_leq, b_gtr, b_geq, b_eql, b_neq, u_not, Bool.not_true, Bool.not_false, oneOf_one, oneOf_two, again_normal, again_exit, again_ret, Bool.and_true, plZ_is, ← hH1, g1, cp]
    obtain ⟨k, hk⟩ : ∃ n, m - 1 = n + 1 := ⟨m - 1 - 1, by omega⟩
    have l10 := ld_pl hA.blk 10 _ rfl
    have hlen := hA.pv.n.len
    have h3 : (mkP 1 0 0 7 []).next.length = 3 := by decide +kernel
    rw [h3] at hlen
    have e : decide (((0 : Nat) : Int) < ((3 : Nat) : Int)) = true := rfl
    have loop : ∀ n m' : Nat, n = m' + 1 → ∀ (x1 x5 x6 x7 x8 x9 x10 x11 x12 x13 x14 x15 x16 x17 x18 x19 x20 x21 x22 x23 x24 x25 x26 x27 x28 x29 x30 x31 x32 x33 x34 x35 x36 x37 x38 x39 x40 : Value), ∃ H' rr, loopN n (runCode Try.prog (lvl Try.prog pk12 (m - 1)) (loopN (m - 1)) f46_c0) (f46_k0 (lvl Try.prog pk12 (m - 1)) (loopN (m - 1))) [(.bool false), x1, (.pointer (some ⟨H.length, 0, none⟩)), (.pointer (some ⟨H2.length, 0, none⟩)), (.int .i64 (0 : Nat)), x5, x6, x7, x8, x9, x10, x11, x12, x13, x14, x15, x16, x17, x18, x19, x20, x21, x22, x23, x24, x25, x26, x27, x28, x29, x30, x31, x32, x33, x34, x35, x36, x37, x38, x39, x40] H3 = some (rr, H') ∧ Rung H (ringP false) H' rr := by
      intro n m' hn
      intros
      subst hn
      rw [loop_succ, f46_b0_eq]
      unfold f46_b0
      simp -implicitDefEqProofs only [r_opt, r_ret, ob_some, ifB_true, iteV_true, iteV_false, r_gdt, r_gdt2, r_gdtf, r_gdtf2, r_gdff, r_gdff2, r_gdft, r_gdft2, r_gdu, r_gdu2, pick_t, pick_f, ext_0, ext_1, x_newB, r_nil, r_fAddr, Nat.zero_add, b_lss, b_leq, b_gtr, b_geq, b_eql, b_neq, u_not, Bool.not_true, Bool.not_false, oneOf_one, oneOf_two, again_normal, again_exit, again_ret, Bool.and_true, l10, hlen, e]
      rw [f46_e0_0_eq]
      exact ring_end hA (ld_of b1 hA.ext) x1 (Nat.le_refl _) ..
    exact loop (m - 1) k hk ..
theorem ring_on : errR (ringP true) = 140 ∧ pathR (ringP true) 0 2 = [0, 1, 2] ∧ (waitsL (ringP true)).length = 6 := by decide +kernel
theorem ring_off : errR (ringP false) = 0 := by decide +kernel
theorem known14_is (hm : 17592186045500 < m) (hm2 : m ≤ 72057594037927936) : ∃ H', lvl Try.prog pk12 m (.func 23) [] H = some (.bool true, H') ∧ Ext H H' := by
  obtain ⟨r1, r2, r3⟩ := ring_on
  obtain ⟨H1, _, g1, ev, wv, nv, rfl, p1, x1⟩ := ring_is (H := H) true (m := m - 1) (by omega)
  obtain ⟨H2, lv, g2, x2, q2, _⟩ := Path_is p1 0 2 (m := m - 1) (by omega) (by omega)
  rw [r2] at q2
  obtain ⟨H3, _, g3, ev3, wv3, nv3, rfl, p3, x3⟩ := ring_is (H := H2) true (m := m - 1) (by omega)
  obtain ⟨H4, g4, x4⟩ := Check_is p3 (m := m - 1) (by omega) (by omega)
  rw [r1] at g4
  obtain ⟨H5, _, g5, ev5, wv5, nv5, rfl, p5, x5⟩ := ring_is (H := H4) false (m := m - 1) (by omega)
  obtain ⟨H6, g6, x6⟩ := Check_is p5 (m := m - 1) (by omega) (by omega)
  rw [ring_off] at g6
  have hx26 := ((x3.tr x4).tr x5).tr x6
  have q6 := q2.rs.ext hx26
  have hlen := q6.len
  obtain ⟨b, o, k1, _, k3⟩ := q6.at_ inC_len (i := 1) (x := 1) rfl .i64
  have k1 : iAddr 1 lv (.int .i64 1) = some (.pointer (some ⟨b, o, none⟩)) := k1
  have k4 : ld1 (.pointer (some ⟨b, o, none⟩)) H6 = some (.int .i64 1, H6) := (k3 H6 rfl).2.1 0 _ rfl
  obtain ⟨H7, _, g7, ev7, wv7, nv7, rfl, p7, x7⟩ := ring_is (H := H6) true (m := m - 1) (by omega)
  obtain ⟨H8, wvv, g8, x8, q8⟩ := Waits_is p7 (m := m - 1) (by omega) (by omega)
  have hl8 := q8.len
  rw [r3] at hl8
  have e1 : ((140 : Int) == 140) = true := rfl
  have e0 : ((0 : Int) == 0) = true := rfl
  have e3 : ((([0, 1, 2] : List Int).length : Int) == 3) = true := rfl
  have e11 : ((1 : Int) == 1) = true := rfl
  have e6 : (((6 : Nat) : Int) == 6) = true := rfl
  have hall := ((x1.tr x2).tr hx26).tr (x7.tr x8)
  refine lvl_ex1 (pk_no rfl rfl) (by omega) ⟨H8, ?_, hall⟩
  rw [f23_eq]
  unfold f23
  simp -implicitDefEqProofs only [r_opt, r_ret, ob_some, ifB_true, iteV_true, iteV_false, r_gdt, r_gdt2, r_gdtf, r_gdtf2, r_gdff, r_gdff2, r_gdft, r_gdft2, r_gdu, r_gdu2, pick_t, pick_f, ext_0, ext_1, x_newB, r_nil, r_fAddr, Nat.zero_add, b_lss, b_leq, b_gtr, b_geq, b_eql, b_neq, u_not, Bool.not_true, Bool.not_false, oneOf_one, oneOf_two, again_normal, again_exit, again_ret, Bool.and_true, g1, g2, g3, g4, e1, g5, g6, e0, hlen, e3, k1, k4, e11, g7, g8, hl8, e6]
end
end Go.Proofs.Ytdobnaldfmpimaa

set_option linter.unusedSectionVars false
set_option linter.unusedSimpArgs false
set_option linter.unusedVariables false
set_option maxRecDepth 100000
namespace Go.Proofs.Ytdobnaldfmpimaa
open Go.Abs
def cpP (n : Nat) (E : List Ed) (N : List (List Int)) : PlanD := ⟨n, E, 1, 1, 1, 1, 1, 1, [1], 0, N⟩
theorem pthW_core {p : PlanD} {n : Nat} {E : List Ed} {N : List (List Int)} (h1 : p.nodes = (n : Int)) (h2 : p.edges = E) (h3 : p.next = N) (w : Int) : ∀ (q : Nat) (l : List Int) (v : Int), pthW p w q l v = pthW (cpP n E N) w q l v
  | 0, _, _ => rfl
  | q + 1, l, v => by
    have e : nx p v w = nx (cpP n E N) v w := by unfold nx cpP; rw [h3]
    unfold pthW
    rw [e, h1, h2, pthW_core h1 h2 h3 w q]
    rfl
theorem core_eq {p : PlanD} {n : Nat} {E : List Ed} {N : List (List Int)} (h : checkOk p = true) (hc : checkOk (cpP n E N) = true) (h1 : p.nodes = (n : Int)) (h2 : p.edges = E) (h3 : p.next = N) :
    (∀ v w, pathL p v w = pathL (cpP n E N) v w) ∧ (∀ v w, pathR p v w = pathR (cpP n E N) v w) ∧ waitsL p = waitsL (cpP n E N) ∧ errR p = errR (cpP n E N) := by
  have a1 : ∀ v w, pathL p v w = pathL (cpP n E N) v w := fun v w => by
    unfold pathL
    rw [pthW_core h1 h2 h3, h1]
    rfl
  have a2 : ∀ v w, pathR p v w = pathR (cpP n E N) v w := fun v w => by
    unfold pathR
    rw [a1, h, hc, h1]
    rfl
  have e : ∀ v w, nx p v w = nx (cpP n E N) v w := fun v w => by unfold nx cpP; rw [h3]
  have e2 : ∀ a b, wt p n a b = wt (cpP n E N) n a b := fun a b => by
    unfold wt
    congr 1
    funext w
    unfold wtAt
    rw [e, e]
  have e3 : hopsOf p = hopsOf (cpP n E N) := by
    unfold hopsOf hopN
    rw [h1, h2]
    rfl
  have a3 : waitsL p = waitsL (cpP n E N) := by
    unfold waitsL
    rw [h, hc, e3, h1]
    simp only [if_true]
    refine List.map_congr_left fun a _ => ?_
    show wrow p n _ a = wrow (cpP n E N) n _ a
    unfold wrow
    simp only [e2]
  refine ⟨a1, a2, a3, ?_⟩
  unfold errR routeOk
  rw [a3, h, hc, h1]
  have : ∀ m, pathsOk p m = pathsOk (cpP n E N) m := fun m => by
    unfold pathsOk
    simp only [a1]
  rw [this]
  rfl
section
variable {H : Heap} {m : Nat} {p : PlanD} {ev wv nv : Value}
end
end Go.Proofs.Ytdobnaldfmpimaa

set_option linter.unusedSectionVars false
set_option linter.unusedSimpArgs false
set_option linter.unusedVariables false
set_option maxRecDepth 100000
namespace Go.Proofs.Ytdobnaldfmpimaa
open Go.Abs
def ofL (c : List Nat) (n : Nat) : List Int := (List.range n).map fun j => ((c.getD j 0 % (j + 1) : Nat) : Int)
def ofT (c : List Nat) : List Int := if min c.length 5 = 0 then [0] else ofL c (min c.length 5)
def rightB (t : List Int) : Bool := (List.range t.length).all (fun i => decide (0 ≤ t.getD i 0) && decide (t.getD i 0 ≤ i)) && decide ((t.length : Int) ≤ 5)
def upL (t : List Int) : Nat → Int → List Int
  | 0, v => [v]
  | q + 1, v => if 0 < v then v :: upL t q (t.getD (v - 1).toNat 0) else [v]
def upT (t : List Int) (v : Int) : List Int := upL t v.toNat v
def strip : Nat → List Int → List Int → List Int × List Int
  | 0, a, b => (a, b)
  | q + 1, a, b => if 1 < a.length ∧ 1 < b.length ∧ a.getD (a.length - 2) 0 = b.getD (b.length - 2) 0 then strip q (a.take (a.length - 1)) (b.take (b.length - 1)) else (a, b)
def join2 (s : List Int × List Int) : List Int := s.1 ++ (s.2.take (s.2.length - 1)).reverse
def tpath (t : List Int) (v w : Int) : List Int := if rightB t = true ∧ 0 ≤ v ∧ v ≤ t.length ∧ 0 ≤ w ∧ w ≤ t.length then join2 (strip (upT t v).length (upT t v) (upT t w)) else []
def layE (t : List Int) : List Ed := (List.range t.length).map fun i => (t.getD i 0, ((i + 1 : Nat) : Int))
def layN (t : List Int) : List (List Int) := tab (t.length + 1) fun v w => if v = w then (v : Int) else (tpath t v w).getD 1 0
def layP (p : PlanD) (t : List Int) : PlanD := { p with nodes := ((t.length + 1 : Nat) : Int), edges := layE t, next := layN t }
theorem rightB_at {t : List Int} (h : rightB t = true) {i : Nat} {x : Int} (hx : t[i]? = some x) : 0 ≤ x ∧ x ≤ i ∧ t.length ≤ 5 := by
  unfold rightB at h
  rw [Bool.and_eq_true, List.all_eq_true] at h
  have := h.1 i (List.mem_range.mpr (List.getElem?_eq_some_iff.mp hx).1)
  rw [List.getD_eq_getElem?_getD, hx] at this
  simp at this
  have h2 := of_decide_eq_true h.2
  omega
theorem upL_len (t : List Int) : ∀ (q : Nat) (v : Int), 0 < (upL t q v).length ∧ (upL t q v).length ≤ q + 1
  | 0, v => by simp [upL]
  | q + 1, v => by
    unfold upL
    split
    · have := upL_len t q (t.getD (v - 1).toNat 0)
      simp only [List.length_cons]
      omega
    · simp
section
variable {H : Heap} {m : Nat} {p : PlanD} {ev wv nv : Value}
theorem getD_of {l : List Int} {i : Nat} {x : Int} (h : l[i]? = some x) : l.getD i 0 = x := by rw [List.getD_eq_getElem?_getD, h]; rfl
theorem of_loop {H0 : Heap} {cv : Value} {c : List Nat} (hc : Us H0 cv c) (hu8 : ∀ x ∈ c, x < 256) (hl : c.length ≤ 72057594037927936) : ∀ (q i k : Nat) (H1 : Heap) (acc : Value), min c.length 5 - i = q → i ≤ min c.length 5 → q < k → Ext H0 H1 → Iw H1 acc (ofL c i) → New H0 acc → ∀ (x1 x2 x5 x6 x7 x8 x9 x10 x11 x12 x13 x14 x15 x16 x17 x18 x19 x20 x21 x22 x23 x24 x25 x26 x27 x28 x29 x30 x31 x32 : Value),
    ∃ H' u, loopN k (runCode Try.prog (lvl Try.prog pk12 m) (loopN m) f28_c0) (f28_k0 (lvl Try.prog pk12 m) (loopN m)) [cv, x1, x2, acc, (.int .i64 (i : Nat)), x5, x6, x7, x8, x9, x10, x11, x12, x13, x14, x15, x16, x17, x18, x19, x20, x21, x22, x23, x24, x25, x26, x27, x28, x29, x30, x31, x32] H1 = some (u, H') ∧ Ext H0 H' ∧ Iw H' u (ofT c) ∧ New H0 u := by
  intro q
  induction q with
  | zero =>
    intro i k H1 acc hq hi hk he ha hnew
    intros
    obtain ⟨k, rfl⟩ : ∃ n, k = n + 1 := ⟨k - 1, by omega⟩
    have hlen := (hc.ext he).len
    have hal := ha.len
    have hal2 : (ofL c i).length = i := by simp [ofL]
    rw [hal2] at hal
    have tail : ∀ (x1 x2 x5 x6 x7 x8 x9 x10 x11 x12 x13 x14 x15 x16 x17 x18 x19 x20 x21 x22 x23 x24 x25 x26 x27 x28 x29 x30 x31 x32 : Value), ∃ H' u, f28_e0_0 (lvl Try.prog pk12 m) (loopN m) cv x1 x2 acc (.int .i64 (i : Nat)) x5 x6 x7 x8 x9 x10 x11 x12 x13 x14 x15 x16 x17 x18 x19 x20 x21 x22 x23 x24 x25 x26 x27 x28 x29 x30 x31 x32 H1 = some (u, H') ∧ Ext H0 H' ∧ Iw H' u (ofT c) ∧ New H0 u := by
      intros
      unfold f28_e0_0
      by_cases h0 : i = 0
      · have e0 : ((i : Int) == 0) = true := by simp [h0]
        subst h0
        have ha' : Iw H1 acc [] := ha
        obtain ⟨acc2, H2, t1, t2, t3, t4⟩ := ha'.push1 (by' := 8) inC_len inC_all (by decide) 0 hnew he (by decide)
        simp -implicitDefEqProofs only [r_opt, r_ret, ob_some, ifB_true, iteV_true, iteV_false, r_gdt, r_gdt2, r_gdtf, r_gdtf2, r_gdff, r_gdff2, r_gdft, r_gdft2, r_gdu, r_gdu2, pick_t, pick_f, ext_0, ext_1, x_newB, r_nil, r_fAddr, Nat.zero_add, b_lss, b_leq, b_gtr, b_geq, b_eql, b_neq, u_not, Bool.not_true, Bool.not_false, oneOf_one, oneOf_two, again_normal, again_exit, again_ret, Bool.and_true, hal, e0, bldI, t1]
        have : ofT c = [0] := by unfold ofT; rw [if_pos (by omega)]
        rw [this]
        exact ⟨_, _, rfl, t4, t2, t3⟩
      · have e0 : ((i : Int) == 0) = false := by simp; omega
        simp -implicitDefEqProofs only [r_opt, r_ret, ob_some, ifB_true, iteV_true, iteV_false, r_gdt, r_gdt2, r_gdtf, r_gdtf2, r_gdff, r_gdff2, r_gdft, r_gdft2, r_gdu, r_gdu2, pick_t, pick_f, ext_0, ext_1, x_newB, r_nil, r_fAddr, Nat.zero_add, b_lss, b_leq, b_gtr, b_geq, b_eql, b_neq, u_not, Bool.not_true, Bool.not_false, oneOf_one, oneOf_two, again_normal, again_exit, again_ret, Bool.and_true, hal, e0]
        have : ofT c = ofL c i := by unfold ofT; rw [if_neg (by omega)]; congr 1; omega
        rw [this]
        exact ⟨_, _, rfl, he, ha, hnew⟩
    rw [loop_succ, f28_b0_eq]
    unfold f28_b0
    by_cases hcl : i < c.length
    · have e1 : decide ((i : Int) < (c.length : Int)) = true := decide_eq_true (by omega)
      have e2 : decide ((i : Int) < 5) = false := decide_eq_false (by omega)
      simp -implicitDefEqProofs only [r_opt, r_ret, ob_some, ifB_true, iteV_true, iteV_false, r_gdt, r_gdt2, r_gdtf, r_gdtf2, r_gdff, r_gdff2, r_gdft, r_gdft2, r_gdu, r_gdu2, pick_t, pick_f, ext_0, ext_1, x_newB, r_nil, r_fAddr, Nat.zero_add, b_lss, b_leq, b_gtr, b_geq, b_eql, b_neq, u_not, Bool.not_true, Bool.not_false, oneOf_one, oneOf_two, again_normal, again_exit, again_ret, Bool.and_true, hlen, e1, e2]
      rw [f28_e0_0_eq]
      exact tail ..
    · have e1 : decide ((i : Int) < (c.length : Int)) = false := decide_eq_false (by omega)
      simp -implicitDefEqProofs only [r_opt, r_ret, ob_some, ifB_true, iteV_true, iteV_false, r_gdt, r_gdt2, r_gdtf, r_gdtf2, r_gdff, r_gdff2, r_gdft, r_gdft2, r_gdu, r_gdu2, pick_t, pick_f, ext_0, ext_1, x_newB, r_nil, r_fAddr, Nat.zero_add, b_lss, b_leq, b_gtr, b_geq, b_eql, b_neq, u_not, Bool.not_true, Bool.not_false, oneOf_one, oneOf_two, again_normal, again_exit, again_ret, Bool.and_true, hlen, e1]
      rw [f28_e0_0_eq]
      exact tail ..
  | succ q ih =>
    intro i k H1 acc hq hi hk he ha hnew
    intros
    obtain ⟨k, rfl⟩ : ∃ n, k = n + 1 := ⟨k - 1, by omega⟩
    have hlen := (hc.ext he).len
    have e1 : decide ((i : Int) < (c.length : Int)) = true := decide_eq_true (by omega)
    have e2 : decide ((i : Int) < 5) = true := decide_eq_true (by omega)
    have e3 : IntKind.i64.wrap ((i : Int) + 1) = ((i + 1 : Nat) : Int) := by rw [wrap_i64 (by omega) (by omega)]; omega
    obtain ⟨x, hx⟩ : ∃ x, c[i]? = some x := ⟨_, List.getElem?_eq_getElem (by omega)⟩
    have hx8 := hu8 x (List.mem_of_getElem? hx)
    obtain ⟨b, o, g1, _, g3⟩ := (hc.ext he).at_ u8C_len hx .i64
    have g4 : ld1 (.pointer (some ⟨b, o, none⟩)) H1 = some (.int .u8 x, H1) := (g3 H1 rfl).2.1 0 _ rfl
    have c1 := fun H => cvU H x hx8
    have c2 := remI x (i + 1) (i + 1 : Nat) rfl (by omega)
    have hal2 : (ofL c i).length = i := by simp [ofL]
    obtain ⟨acc2, H2, t1, t2, t3, t4⟩ := ha.push1 (by' := 8) inC_len inC_all (by decide) ((x % (i + 1) : Nat) : Int) hnew he (roomy_mono (n := 1000) (by decide) (by omega))
    have hn : ofL c (i + 1) = ofL c i ++ [((x % (i + 1) : Nat) : Int)] := by
      unfold ofL
      rw [List.range_succ, List.map_append]
      simp only [List.map_cons, List.map_nil]
      rw [List.getD_eq_getElem?_getD, hx]
      rfl
    rw [loop_succ, f28_b0_eq]
    unfold f28_b0
    simp -implicitDefEqProofs only [r_opt, r_ret, ob_some, ifB_true, iteV_true, iteV_false, r_gdt, r_gdt2, r_gdtf, r_gdtf2, r_gdff, r_gdff2, r_gdft, r_gdft2, r_gdu, r_gdu2, pick_t, pick_f, ext_0, ext_1, x_newB, r_nil, r_fAddr, Nat.zero_add, b_lss, b_leq, b_gtr, b_geq, b_eql, b_neq, u_not, Bool.not_true, Bool.not_false, oneOf_one, oneOf_two, again_normal, again_exit, again_ret, Bool.and_true, hlen, e1, e2, g1, g4, c1, b_add, e3, c2, bldI, t1]
    exact ih (i + 1) k H2 acc2 (by omega) (by omega) (by omega) t4 (by rw [hn]; exact t2) t3 ..
theorem of_is {cv : Value} {c : List Nat} (hc : Us H cv c) (hu8 : ∀ x ∈ c, x < 256) (hl : c.length ≤ 72057594037927936) (hm : 100 < m) : ∃ H' u, lvl Try.prog pk12 m (.func 28) [cv] H = some (u, H') ∧ Ext H H' ∧ Iw H' u (ofT c) ∧ New H u := by
  refine lvl_ex (pk_no rfl rfl) (by omega) ?_
  rw [f28_eq]
  unfold f28
  exact of_loop hc hu8 hl (min c.length 5) 0 (m - 1) H (.slice none 0 0) (by omega) (by omega) (by omega) (Fr.refl _ _) Rw.nil (New.nil _) ..
theorem right_loop {tv : Value} {t : List Int} (ht : Is H tv t) (hl : t.length ≤ 72057594037927936) : ∀ (q i k : Nat), t.length - i = q → i ≤ t.length → q < k → (∀ j, j < i → (decide (0 ≤ t.getD j 0) && decide (t.getD j 0 ≤ j)) = true) → ∀ (x1 x2 x4 x5 x6 x7 x8 x9 x10 x11 x12 x13 x14 x15 x16 x17 x18 x19 x20 x21 x22 x23 x24 x25 : Value),
    loopN k (runCode Try.prog (lvl Try.prog pk12 m) (loopN m) f53_c0) (f53_k0 (lvl Try.prog pk12 m) (loopN m)) [tv, x1, x2, (.int .i64 (i : Nat)), x4, x5, x6, x7, x8, x9, x10, x11, x12, x13, x14, x15, x16, x17, x18, x19, x20, x21, x22, x23, x24, x25] H = some (.bool (rightB t), H) := by
  intro q
  have hlen := ht.len
  induction q with
  | zero =>
    intro i k hq hi hk hpre
    intros
    obtain ⟨k, rfl⟩ : ∃ n, k = n + 1 := ⟨k - 1, by omega⟩
    have e : decide ((i : Int) < (t.length : Int)) = false := decide_eq_false (by omega)
    have hr : rightB t = decide ((t.length : Int) ≤ 5) := by
      unfold rightB
      rw [List.all_eq_true.mpr (fun j hj => hpre j (by have := List.mem_range.mp hj; omega)), Bool.true_and]
    rw [hr, loop_succ, f53_b0_eq]
    unfold f53_b0
    simp -implicitDefEqProofs only [r_opt, r_ret, ob_some, ifB_true, iteV_true, iteV_false, r_gdt, r_gdt2, r_gdtf, r_gdtf2, r_gdff, r_gdff2, r_gdft, r_gdft2, r_gdu, r_gdu2, pick_t, pick_f, ext_0, ext_1, x_newB, r_nil, r_fAddr, Nat.zero_add, b_lss, b_leq, b_gtr, b_geq, b_eql, b_neq, u_not, Bool.not_true, Bool.not_false, oneOf_one, oneOf_two, again_normal, again_exit, again_ret, Bool.and_true, hlen, e]
    rw [f53_e0_0_eq]
    unfold f53_e0_0
    simp -implicitDefEqProofs only [r_opt, r_ret, ob_some, ifB_true, iteV_true, iteV_false, r_gdt, r_gdt2, r_gdtf, r_gdtf2, r_gdff, r_gdff2, r_gdft, r_gdft2, r_gdu, r_gdu2, pick_t, pick_f, ext_0, ext_1, x_newB, r_nil, r_fAddr, Nat.zero_add, b_lss, b_leq, b_gtr, b_geq, b_eql, b_neq, u_not, Bool.not_true, Bool.not_false, oneOf_one, oneOf_two, again_normal, again_exit, again_ret, Bool.and_true, hlen]
  | succ q ih =>
    intro i k hq hi hk hpre
    intros
    obtain ⟨k, rfl⟩ : ∃ n, k = n + 1 := ⟨k - 1, by omega⟩
    have e : decide ((i : Int) < (t.length : Int)) = true := decide_eq_true (by omega)
    have e3 : IntKind.i64.wrap ((i : Int) + 1) = ((i + 1 : Nat) : Int) := by rw [wrap_i64 (by omega) (by omega)]; omega
    obtain ⟨x, hx⟩ : ∃ x, t[i]? = some x := ⟨_, List.getElem?_eq_getElem (by omega)⟩
    obtain ⟨b, o, g1, _, g3⟩ := ht.at_ inC_len hx .i64
    have g4 : ld1 (.pointer (some ⟨b, o, none⟩)) H = some (.int .i64 x, H) := (g3 H rfl).2.1 0 _ rfl
    have hd := getD_of hx
    have bad : (decide (0 ≤ x) && decide (x ≤ i)) = false → rightB t = false := fun h => by
      rw [← Bool.not_eq_true]
      unfold rightB
      rw [Bool.and_eq_true, List.all_eq_true]
      rintro ⟨hh, _⟩
      have := hh i (List.mem_range.mpr (by omega))
      rw [hd, h] at this
      cases this
    rw [loop_succ, f53_b0_eq]
    unfold f53_b0
    by_cases c1 : x < 0
    · have d1 : decide (x < 0) = true := decide_eq_true c1
      rw [bad (by rw [decide_eq_false (by omega)]; rfl)]
      simp -implicitDefEqProofs only [r_opt, r_ret, ob_some, ifB_true, iteV_true, iteV_false, r_gdt, r_gdt2, r_gdtf, r_gdtf2, r_gdff, r_gdff2, r_gdft, r_gdft2, r_gdu, r_gdu2, pick_t, pick_f, ext_0, ext_1, x_newB, r_nil, r_fAddr, Nat.zero_add, b_lss, b_leq, b_gtr, b_geq, b_eql, b_neq, u_not, Bool.not_true, Bool.not_false, oneOf_one, oneOf_two, again_normal, again_exit, again_ret, Bool.and_true, hlen, e, g1, g4, d1]
      rw [f53_r0_eq]
      rfl
    · have d1 : decide (x < 0) = false := decide_eq_false c1
      by_cases c2 : (i : Int) < x
      · have d2 : decide ((i : Int) < x) = true := decide_eq_true c2
        rw [bad (by rw [decide_eq_false (show ¬ x ≤ i by omega), Bool.and_false])]
        simp -implicitDefEqProofs only [r_opt, r_ret, ob_some, ifB_true, iteV_true, iteV_false, r_gdt, r_gdt2, r_gdtf, r_gdtf2, r_gdff, r_gdff2, r_gdft, r_gdft2, r_gdu, r_gdu2, pick_t, pick_f, ext_0, ext_1, x_newB, r_nil, r_fAddr, Nat.zero_add, b_lss, b_leq, b_gtr, b_geq, b_eql, b_neq, u_not, Bool.not_true, Bool.not_false, oneOf_one, oneOf_two, again_normal, again_exit, again_ret, Bool.and_true, hlen, e, g1, g4, d1, d2]
        rw [f53_r0_eq]
        rfl
      · have d2 : decide ((i : Int) < x) = false := decide_eq_false c2
        simp -implicitDefEqProofs only [r_opt, r_ret, ob_some, ifB_true, iteV_true, iteV_false, r_gdt, r_gdt2, r_gdtf, r_gdtf2, r_gdff, r_gdff2, r_gdft, r_gdft2, r_gdu, r_gdu2, pick_t, pick_f, ext_0, ext_1, x_newB, r_nil, r_fAddr, Nat.zero_add, b_lss, b_leq, b_gtr, b_geq, b_eql, b_neq, u_not, Bool.not_true, Bool.not_false, oneOf_one, oneOf_two, again_normal, again_exit, again_ret, Bool.and_true, hlen, e, g1, g4, d1, d2, b_add, e3]
        refine ih (i + 1) k (by omega) (by omega) (by omega) (fun j hj => ?_) ..
        by_cases hji : j = i
        · rw [hji, hd, decide_eq_true (by omega), decide_eq_true (by omega)]; rfl
        · exact hpre j (by omega)
theorem right_is {tv : Value} {t : List Int} (ht : Is H tv t) (hm : t.length + 10 < m) (hm2 : m ≤ 72057594037927936) : lvl Try.prog pk12 m (.func 53) [tv] H = some (.bool (rightB t), H) := by
  refine lvl_at (pk_no rfl rfl) (by omega) ?_
  rw [f53_eq]
  unfold f53
  exact right_loop ht (by omega) t.length 0 (m - 1) (by omega) (by omega) (by omega) (fun j hj => absurd hj (by omega)) ..
theorem up_loop {H0 : Heap} {tv : Value} {t : List Int} (ht : Is H0 tv t) (hr : rightB t = true) : ∀ (q k : Nat) (v : Int) (H1 : Heap) (acc : Value) (pre : List Int), v.toNat ≤ q → 0 ≤ v ∧ v ≤ t.length → q < k → pre.length + q ≤ 20 → Ext H0 H1 → Iw H1 acc (pre ++ [v]) → New H0 acc → ∀ (x2 x3 x4 x6 x7 x8 x9 x10 x11 x12 x13 x14 x15 x16 x17 x18 x19 : Value),
    ∃ H' u, loopN k (runCode Try.prog (lvl Try.prog pk12 m) (loopN m) f54_c0) (f54_k0 (lvl Try.prog pk12 m) (loopN m)) [tv, (.int .i64 v), x2, x3, x4, acc, x6, x7, x8, x9, x10, x11, x12, x13, x14, x15, x16, x17, x18, x19] H1 = some (u, H') ∧ Ext H0 H' ∧ Iw H' u (pre ++ upL t q v) ∧ New H0 u := by
  intro q
  induction q with
  | zero =>
    intro k v H1 acc pre hv hvr hk hpl he ha hnew
    intros
    obtain ⟨k, rfl⟩ : ∃ n, k = n + 1 := ⟨k - 1, by omega⟩
    have e : decide (0 < v) = false := decide_eq_false (by omega)
    rw [loop_succ, f54_b0_eq]
    unfold f54_b0
    simp -implicitDefEqProofs only [r_opt, r_ret, ob_some, ifB_true, iteV_true, iteV_false, r_gdt, r_gdt2, r_gdtf, r_gdtf2, r_gdff, r_gdff2, r_gdft, r_gdft2, r_gdu, r_gdu2, pick_t, pick_f, ext_0, ext_1, x_newB, r_nil, r_fAddr, Nat.zero_add, b_lss, b_leq, b_gtr, b_geq, b_eql, b_neq, u_not, Bool.not_true, Bool.not_false, oneOf_one, oneOf_two, again_normal, again_exit, again_ret, Bool.and_true, e]
    rw [f54_e0_0_eq]
    exact ⟨H1, acc, rfl, he, ha, hnew⟩
  | succ q ih =>
    intro k v H1 acc pre hv hvr hk hpl he ha hnew
    intros
    obtain ⟨k, rfl⟩ : ∃ n, k = n + 1 := ⟨k - 1, by omega⟩
    rw [loop_succ, f54_b0_eq]
    unfold f54_b0 upL
    by_cases h0 : 0 < v
    · have e : decide (0 < v) = true := decide_eq_true h0
      rw [if_pos h0]
      have hev : v - 1 = (((v - 1).toNat : Nat) : Int) := by omega
      obtain ⟨x, hx⟩ : ∃ x, t[(v - 1).toNat]? = some x := ⟨_, List.getElem?_eq_getElem (by omega)⟩
      have hxr := rightB_at hr hx
      obtain ⟨b, o, g1, _, g3⟩ := (ht.ext he).at_ inC_len hx .i64
      rw [← hev] at g1
      have g4 : ld1 (.pointer (some ⟨b, o, none⟩)) H1 = some (.int .i64 x, H1) := (g3 H1 rfl).2.1 0 _ rfl
      have e4 : IntKind.i64.wrap (v - 1) = v - 1 := wrap_i64 (by omega) (by omega)
      obtain ⟨acc2, H2, t1, t2, t3, t4⟩ := ha.push1 (by' := 8) inC_len inC_all (by decide) x hnew he (roomy_mono (n := 1000) (by decide) (by simp; omega))
      simp -implicitDefEqProofs only [r_opt, r_ret, ob_some, ifB_true, iteV_true, iteV_false, r_gdt, r_gdt2, r_gdtf, r_gdtf2, r_gdff, r_gdff2, r_gdft, r_gdft2, r_gdu, r_gdu2, pick_t, pick_f, ext_0, ext_1, x_newB, r_nil, r_fAddr, Nat.zero_add, b_lss, b_leq, b_gtr, b_geq, b_eql, b_neq, u_not, Bool.not_true, Bool.not_false, oneOf_one, oneOf_two, again_normal, again_exit, again_ret, Bool.and_true, e, b_sub, e4, g1, g4, bldI, t1]
      have := ih k x H2 acc2 (pre ++ [v]) (by omega) (by omega) (by omega) (by simp; omega) t4 t2 t3
      rw [getD_of hx]
      simp only [List.append_assoc, List.singleton_append] at this
      exact this ..
    · have e : decide (0 < v) = false := decide_eq_false h0
      rw [if_neg h0]
      simp -implicitDefEqProofs only [r_opt, r_ret, ob_some, ifB_true, iteV_true, iteV_false, r_gdt, r_gdt2, r_gdtf, r_gdtf2, r_gdff, r_gdff2, r_gdft, r_gdft2, r_gdu, r_gdu2, pick_t, pick_f, ext_0, ext_1, x_newB, r_nil, r_fAddr, Nat.zero_add, b_lss, b_leq, b_gtr, b_geq, b_eql, b_neq, u_not, Bool.not_true, Bool.not_false, oneOf_one, oneOf_two, again_normal, again_exit, again_ret, Bool.and_true, e]
      rw [f54_e0_0_eq]
      exact ⟨H1, acc, rfl, he, ha, hnew⟩
theorem up_is {tv : Value} {t : List Int} (ht : Is H tv t) (hr : rightB t = true) {v : Int} (hv : 0 ≤ v ∧ v ≤ t.length) (hm : 100 < m) : ∃ H' u, lvl Try.prog pk12 m (.func 54) [tv, .int .i64 v] H = some (u, H') ∧ Ext H H' ∧ Iw H' u (upT t v) ∧ New H u := by
  have h5 : t.length ≤ 5 := by
    unfold rightB at hr
    rw [Bool.and_eq_true] at hr
    have := of_decide_eq_true hr.2
    omega
  have one : Iw (H ++ [.cells (inC v) 3 .row]) (.slice (some ⟨H.length, 0, none⟩) 1 1) ([] ++ [v]) := ⟨rfl, .inr ⟨_, 1, [], rfl, by simp, rfl, by simp⟩⟩
  have hnew : New H (.slice (some ⟨H.length, 0, none⟩) 1 1) := fun b ⟨_, _, _, hh⟩ => by cases hh; exact Nat.le_refl _
  refine lvl_ex (pk_no rfl rfl) (by omega) ?_
  rw [f54_eq]
  unfold f54
  simp -implicitDefEqProofs only [r_opt, r_ret, ob_some, ifB_true, iteV_true, iteV_false, r_gdt, r_gdt2, r_gdtf, r_gdtf2, r_gdff, r_gdff2, r_gdft, r_gdft2, r_gdu, r_gdu2, pick_t, pick_f, ext_0, ext_1, x_newB, r_nil, r_fAddr, Nat.zero_add, b_lss, b_leq, b_gtr, b_geq, b_eql, b_neq, u_not, Bool.not_true, Bool.not_false, oneOf_one, oneOf_two, again_normal, again_exit, again_ret, Bool.and_true, bldI]
  exact up_loop ht hr v.toNat (m - 1) v _ _ [] (Nat.le_refl _) hv (by omega) (by simp; omega) (Fr.app _ _ _) one hnew ..
theorem tpath_loop1 {H0 : Heap} {bv : Value} {b : List Int} (hb : Is H0 bv b) (hbl : b.length ≤ 10) : ∀ (q k : Nat) (H1 : Heap) (acc : Value) (pre : List Int), q ≤ b.length → q < k → pre.length + q ≤ 40 → Ext H0 H1 → Iw H1 acc pre → New H0 acc → ∀ (x0 x1 x2 x3 x4 x5 x6 x7 x11 x12 x13 x14 x15 x16 x17 x18 x19 x20 x21 x22 x23 x24 x25 x26 x27 x28 x29 x30 x31 x32 x33 x34 x35 x36 x37 x38 x39 x40 x41 x42 x43 x44 x45 x46 x47 x48 x49 x50 x51 x52 x53 x54 x55 x56 x57 x58 x59 x60 x61 x62 x63 x64 x65 x66 x67 x68 x69 x70 x71 x72 x73 x74 x75 x76 x77 x78 x79 x80 x81 x82 x83 x84 x85 x86 x87 x88 x89 x90 : Value),
    ∃ H' u, loopN k (runCode Try.prog (lvl Try.prog pk12 m) (loopN m) f31_c1) (f31_k1 (lvl Try.prog pk12 m) (loopN m)) [x0, x1, x2, x3, x4, x5, x6, x7, bv, acc, (.int .i64 ((q : Int) - 1)), x11, x12, x13, x14, x15, x16, x17, x18, x19, x20, x21, x22, x23, x24, x25, x26, x27, x28, x29, x30, x31, x32, x33, x34, x35, x36, x37, x38, x39, x40, x41, x42, x43, x44, x45, x46, x47, x48, x49, x50, x51, x52, x53, x54, x55, x56, x57, x58, x59, x60, x61, x62, x63, x64, x65, x66, x67, x68, x69, x70, x71, x72, x73, x74, x75, x76, x77, x78, x79, x80, x81, x82, x83, x84, x85, x86, x87, x88, x89, x90] H1 = some (u, H') ∧ Ext H0 H' ∧ Iw H' u (pre ++ (b.take q).reverse) ∧ New H0 u := by
  intro q
  induction q with
  | zero =>
    intro k H1 acc pre hq hk hpl he ha hnew
    intros
    obtain ⟨k, rfl⟩ : ∃ n, k = n + 1 := ⟨k - 1, by omega⟩
    have e : decide (0 ≤ ((0 : Nat) : Int) - 1) = false := by decide
    rw [loop_succ, f31_b1_eq]
    unfold f31_b1
    simp -implicitDefEqProofs only [r_opt, r_ret, ob_some, ifB_true, iteV_true, iteV_false, r_gdt, r_gdt2, r_gdtf, r_gdtf2, r_gdff, r_gdff2, r_gdft, r_gdft2, r_gdu, r_gdu2, pick_t, pick_f, ext_0, ext_1, x_newB, r_nil, r_fAddr, Nat.zero_add, b_lss, b_leq, b_gtr, b_geq, b_eql, b_neq, u_not, Bool.not_true, Bool.not_false, oneOf_one, oneOf_two, again_normal, again_exit, again_ret, Bool.and_true, e]
    rw [f31_e1_2_eq]
    exact ⟨H1, acc, rfl, he, by simpa using ha, hnew⟩
  | succ q ih =>
    intro k H1 acc pre hq hk hpl he ha hnew
    intros
    obtain ⟨k, rfl⟩ : ∃ n, k = n + 1 := ⟨k - 1, by omega⟩
    have e : decide (0 ≤ ((q + 1 : Nat) : Int) - 1) = true := decide_eq_true (by omega)
    have eq : (((q + 1 : Nat) : Int) - 1) = ((q : Nat) : Int) := by omega
    have e3 : IntKind.i64.wrap (((q : Nat) : Int) - 1) = ((q : Nat) : Int) - 1 := wrap_i64 (by omega) (by omega)
    obtain ⟨x, hx⟩ : ∃ x, b[q]? = some x := ⟨_, List.getElem?_eq_getElem (by omega)⟩
    obtain ⟨c, o, g1, _, g3⟩ := (hb.ext he).at_ inC_len hx .i64
    have g4 : ld1 (.pointer (some ⟨c, o, none⟩)) H1 = some (.int .i64 x, H1) := (g3 H1 rfl).2.1 0 _ rfl
    obtain ⟨acc2, H2, t1, t2, t3, t4⟩ := ha.push1 (by' := 8) inC_len inC_all (by decide) x hnew he (roomy_mono (n := 1000) (by decide) (by omega))
    rw [loop_succ, f31_b1_eq]
    unfold f31_b1
    simp -implicitDefEqProofs only [r_opt, r_ret, ob_some, ifB_true, iteV_true, iteV_false, r_gdt, r_gdt2, r_gdtf, r_gdtf2, r_gdff, r_gdff2, r_gdft, r_gdft2, r_gdu, r_gdu2, pick_t, pick_f, ext_0, ext_1, x_newB, r_nil, r_fAddr, Nat.zero_add, b_lss, b_leq, b_gtr, b_geq, b_eql, b_neq, u_not, Bool.not_true, Bool.not_false, oneOf_one, oneOf_two, again_normal, again_exit, again_ret, Bool.and_true, e, eq, g1, g4, bldI, t1, b_sub, e3]
    have := ih k H2 acc2 (pre ++ [x]) (by omega) (by omega) (by simp; omega) t4 t2 t3
    have hr : (b.take (q + 1)).reverse = x :: (b.take q).reverse := by rw [List.take_add_one, hx]; simp
    rw [hr]
    simp only [List.append_assoc, List.singleton_append] at this
    exact this ..
theorem tpath_loop0 {H0 : Heap} (hm : 100 < m) : ∀ (q k : Nat) (a b : List Int) (av bv : Value), a.length ≤ q → q < k → 0 < a.length → 0 < b.length → a.length ≤ 10 → b.length ≤ 10 → Is H0 av a → Is H0 bv b → ∀ (x0 x1 x2 x3 x4 x5 x6 x9 x10 x11 x12 x13 x14 x15 x16 x17 x18 x19 x20 x21 x22 x23 x24 x25 x26 x27 x28 x29 x30 x31 x32 x33 x34 x35 x36 x37 x38 x39 x40 x41 x42 x43 x44 x45 x46 x47 x48 x49 x50 x51 x52 x53 x54 x55 x56 x57 x58 x59 x60 x61 x62 x63 x64 x65 x66 x67 x68 x69 x70 x71 x72 x73 x74 x75 x76 x77 x78 x79 x80 x81 x82 x83 x84 x85 x86 x87 x88 x89 x90 : Value),
    ∃ H' u, loopN k (runCode Try.prog (lvl Try.prog pk12 m) (loopN m) f31_c0) (f31_k0 (lvl Try.prog pk12 m) (loopN m)) [x0, x1, x2, x3, x4, x5, x6, av, bv, x9, x10, x11, x12, x13, x14, x15, x16, x17, x18, x19, x20, x21, x22, x23, x24, x25, x26, x27, x28, x29, x30, x31, x32, x33, x34, x35, x36, x37, x38, x39, x40, x41, x42, x43, x44, x45, x46, x47, x48, x49, x50, x51, x52, x53, x54, x55, x56, x57, x58, x59, x60, x61, x62, x63, x64, x65, x66, x67, x68, x69, x70, x71, x72, x73, x74, x75, x76, x77, x78, x79, x80, x81, x82, x83, x84, x85, x86, x87, x88, x89, x90] H0 = some (u, H') ∧ Ext H0 H' ∧ Iw H' u (join2 (strip q a b)) ∧ New H0 u := by
  intro q
  have fin : ∀ (a b : List Int) (av bv : Value), 0 < b.length → a.length ≤ 10 → b.length ≤ 10 → Is H0 av a → Is H0 bv b → ∀ (x0 x1 x2 x3 x4 x5 x6 x9 x10 x11 x12 x13 x14 x15 x16 x17 x18 x19 x20 x21 x22 x23 x24 x25 x26 x27 x28 x29 x30 x31 x32 x33 x34 x35 x36 x37 x38 x39 x40 x41 x42 x43 x44 x45 x46 x47 x48 x49 x50 x51 x52 x53 x54 x55 x56 x57 x58 x59 x60 x61 x62 x63 x64 x65 x66 x67 x68 x69 x70 x71 x72 x73 x74 x75 x76 x77 x78 x79 x80 x81 x82 x83 x84 x85 x86 x87 x88 x89 x90 : Value), ∃ H' u, f31_e0_0 (lvl Try.prog pk12 m) (loopN m) x0 x1 x2 x3 x4 x5 x6 av bv x9 x10 x11 x12 x13 x14 x15 x16 x17 x18 x19 x20 x21 x22 x23 x24 x25 x26 x27 x28 x29 x30 x31 x32 x33 x34 x35 x36 x37 x38 x39 x40 x41 x42 x43 x44 x45 x46 x47 x48 x49 x50 x51 x52 x53 x54 x55 x56 x57 x58 x59 x60 x61 x62 x63 x64 x65 x66 x67 x68 x69 x70 x71 x72 x73 x74 x75 x76 x77 x78 x79 x80 x81 x82 x83 x84 x85 x86 x87 x88 x89 x90 H0 = some (u, H') ∧ Ext H0 H' ∧ Iw H' u (join2 (a, b)) ∧ New H0 u := by
    intro a b av bv hb0 ha hb hav hbv
    intros
    obtain ⟨v', H', t1, t2, t3, t4⟩ := (Rw.nil (el := inC) (e := 3) (sz := 1) (H := H0)).more inC_len inC_all (by decide) (by' := 8) hav (New.nil H0) (Fr.refl _ H0) (roomy_mono (n := 1000) (by decide) (by simp; omega))
    rw [List.nil_append] at t2
    have hlen := (hbv.ext t4).len
    have e3 : IntKind.i64.wrap ((b.length : Int) - 2) = ((b.length - 1 : Nat) : Int) - 1 := by rw [wrap_i64 (by omega) (by omega)]; omega
    unfold f31_e0_0
    simp -implicitDefEqProofs only [r_opt, r_ret, ob_some, ifB_true, iteV_true, iteV_false, r_gdt, r_gdt2, r_gdtf, r_gdtf2, r_gdff, r_gdff2, r_gdft, r_gdft2, r_gdu, r_gdu2, pick_t, pick_f, ext_0, ext_1, x_newB, r_nil, r_fAddr, Nat.zero_add, b_lss, b_leq, b_gtr, b_geq, b_eql, b_neq, u_not, Bool.not_true, Bool.not_false, oneOf_one, oneOf_two, again_normal, again_exit, again_ret, Bool.and_true, t1, hlen, b_sub, e3]
    exact Exists.imp (fun H2 h => Exists.imp (fun u h => ⟨h.1, h.2.1, h.2.2⟩) h) (tpath_loop1 (m := m) hbv hb (b.length - 1) m H' v' a (by omega) (by omega) (by omega) t4 t2 t3 ..)
  induction q with
  | zero => intro k a b av bv h1 _ h2; omega
  | succ q ih =>
    intro k a b av bv haq hk ha0 hb0 ha10 hb10 hav hbv
    intros
    obtain ⟨k, rfl⟩ : ∃ n, k = n + 1 := ⟨k - 1, by omega⟩
    have la := hav.len
    have lb := hbv.len
    rw [loop_succ, f31_b0_eq]
    unfold f31_b0 strip
    by_cases c1 : 1 < a.length
    · have d1 : decide ((1 : Int) < (a.length : Int)) = true := decide_eq_true (by omega)
      by_cases c2 : 1 < b.length
      · have d2 : decide ((1 : Int) < (b.length : Int)) = true := decide_eq_true (by omega)
        obtain ⟨x, hx⟩ : ∃ x, a[a.length - 2]? = some x := ⟨_, List.getElem?_eq_getElem (by omega)⟩
        obtain ⟨y, hy⟩ : ∃ y, b[b.length - 2]? = some y := ⟨_, List.getElem?_eq_getElem (by omega)⟩
        have ea : IntKind.i64.wrap ((a.length : Int) - 2) = ((a.length - 2 : Nat) : Int) := by rw [wrap_i64 (by omega) (by omega)]; omega
        have eb : IntKind.i64.wrap ((b.length : Int) - 2) = ((b.length - 2 : Nat) : Int) := by rw [wrap_i64 (by omega) (by omega)]; omega
        have ea1 : IntKind.i64.wrap ((a.length : Int) - 1) = ((a.length - 1 : Nat) : Int) := by rw [wrap_i64 (by omega) (by omega)]; omega
        have eb1 : IntKind.i64.wrap ((b.length : Int) - 1) = ((b.length - 1 : Nat) : Int) := by rw [wrap_i64 (by omega) (by omega)]; omega
        obtain ⟨c, o, g1, _, g3⟩ := hav.at_ inC_len hx .i64
        have g4 : ld1 (.pointer (some ⟨c, o, none⟩)) H0 = some (.int .i64 x, H0) := (g3 H0 rfl).2.1 0 _ rfl
        obtain ⟨c', o', k1, _, k3⟩ := hbv.at_ inC_len hy .i64
        have k4 : ld1 (.pointer (some ⟨c', o', none⟩)) H0 = some (.int .i64 y, H0) := (k3 H0 rfl).2.1 0 _ rfl
        by_cases c3 : x = y
        · have d3 : (x == y) = true := by simp [c3]
          rw [if_pos ⟨c1, c2, by rw [getD_of hx, getD_of hy, c3]⟩]
          have na : a ≠ [] := fun h => by rw [h] at ha0; simp at ha0
          have nb : b ≠ [] := fun h => by rw [h] at hb0; simp at hb0
          obtain ⟨a', s1, s2, _⟩ := hav.sub (P := Try.prog) inC_len szI na (lo := none) rfl (bnd_nat a.length .i64 (a.length - 1)) (Nat.zero_le _) (by omega)
          obtain ⟨b', s3, s4, _⟩ := hbv.sub (P := Try.prog) inC_len szI nb (lo := none) rfl (bnd_nat b.length .i64 (b.length - 1)) (Nat.zero_le _) (by omega)
          rw [List.drop_zero] at s2 s4
          simp -implicitDefEqProofs only [r_opt, r_ret, ob_some, ifB_true, iteV_true, iteV_false, r_gdt, r_gdt2, r_gdtf, r_gdtf2, r_gdff, r_gdff2, r_gdft, r_gdft2, r_gdu, r_gdu2, pick_t, pick_f, ext_0, ext_1, x_newB, r_nil, r_fAddr, Nat.zero_add, b_lss, b_leq, b_gtr, b_geq, b_eql, b_neq, u_not, Bool.not_true, Bool.not_false, oneOf_one, oneOf_two, again_normal, again_exit, again_ret, Bool.and_true, la, d1, lb, d2, b_sub, ea, eb, g1, g4, k1, k4, d3, ea1, eb1, s1, s3]
          exact ih k _ _ a' b' (by simp; omega) (by omega) (by simp; omega) (by simp; omega) (by simp; omega) (by simp; omega) s2 s4 ..
        · have d3 : (x == y) = false := by simp [c3]
          rw [if_neg (by rw [getD_of hx, getD_of hy]; rintro ⟨_, _, h⟩; exact c3 h)]
          simp -implicitDefEqProofs only [r_opt, r_ret, ob_some, ifB_true, iteV_true, iteV_false, r_gdt, r_gdt2, r_gdtf, r_gdtf2, r_gdff, r_gdff2, r_gdft, r_gdft2, r_gdu, r_gdu2, pick_t, pick_f, ext_0, ext_1, x_newB, r_nil, r_fAddr, Nat.zero_add, b_lss, b_leq, b_gtr, b_geq, b_eql, b_neq, u_not, Bool.not_true, Bool.not_false, oneOf_one, oneOf_two, again_normal, again_exit, again_ret, Bool.and_true, la, d1, lb, d2, b_sub, ea, eb, g1, g4, k1, k4, d3]
          rw [f31_e0_0_eq]
          exact fin a b av bv hb0 ha10 hb10 hav hbv ..
      · have d2 : decide ((1 : Int) < (b.length : Int)) = false := decide_eq_false (by omega)
        rw [if_neg (by omega)]
        simp -implicitDefEqProofs only [r_opt, r_ret, ob_some, ifB_true, iteV_true, iteV_false, r_gdt, r_gdt2, r_gdtf, r_gdtf2, r_gdff, r_gdff2, r_gdft, r_gdft2, r_gdu, r_gdu2, pick_t, pick_f, ext_0, ext_1, x_newB, r_nil, r_fAddr, Nat.zero_add, b_lss, b_leq, b_gtr, b_geq, b_eql, b_neq, u_not, Bool.not_true, Bool.not_false, oneOf_one, oneOf_two, again_normal, again_exit, again_ret, Bool.and_true, la, d1, lb, d2]
        rw [f31_e0_0_eq]
        exact fin a b av bv hb0 ha10 hb10 hav hbv ..
    · have d1 : decide ((1 : Int) < (a.length : Int)) = false := decide_eq_false (by omega)
      rw [if_neg (by omega)]
      simp -implicitDefEqProofs only [r_opt, r_ret, ob_some, ifB_true, iteV_true, iteV_false, r_gdt, r_gdt2, r_gdtf, r_gdtf2, r_gdff, r_gdff2, r_gdft, r_gdft2, r_gdu, r_gdu2, pick_t, pick_f, ext_0, ext_1, x_newB, r_nil, r_fAddr, Nat.zero_add, b_lss, b_leq, b_gtr, b_geq, b_eql, b_neq, u_not, Bool.not_true, Bool.not_false, oneOf_one, oneOf_two, again_normal, again_exit, again_ret, Bool.and_true, la, d1]
      rw [f31_e0_0_eq]
      exact fin a b av bv hb0 ha10 hb10 hav hbv ..
theorem tpath_is {tv : Value} {t : List Int} (ht : Is H tv t) (hr : rightB t = true) {v w : Int} (hv : 0 ≤ v ∧ v ≤ t.length) (hw : 0 ≤ w ∧ w ≤ t.length) (hm : 200 < m) (hm2 : m ≤ 72057594037927936) :
    ∃ H' u, lvl Try.prog pk12 m (.func 31) [tv, .int .i64 v, .int .i64 w] H = some (u, H') ∧ Ext H H' ∧ Iw H' u (tpath t v w) ∧ New H u := by
  have h5 : t.length ≤ 5 := by
    unfold rightB at hr
    rw [Bool.and_eq_true] at hr
    have := of_decide_eq_true hr.2
    omega
  have g1 := right_is ht (m := m - 1) (by omega) (by omega)
  rw [hr] at g1
  have hlen := ht.len
  have d1 : decide (v < 0) = false := decide_eq_false (by omega)
  have d2 : decide ((t.length : Int) < v) = false := decide_eq_false (by omega)
  have d3 : decide (w < 0) = false := decide_eq_false (by omega)
  have d4 : decide ((t.length : Int) < w) = false := decide_eq_false (by omega)
  obtain ⟨H1, a, g2, x1, qa, _⟩ := up_is ht hr hv (m := m - 1) (by omega)
  obtain ⟨H2, b, g3, x2, qb, _⟩ := up_is (ht.ext x1) hr hw (m := m - 1) (by omega)
  have la := upL_len t v.toNat v
  have lb := upL_len t w.toNat w
  have e : tpath t v w = join2 (strip (upT t v).length (upT t v) (upT t w)) := by unfold tpath; rw [if_pos ⟨hr, hv.1, hv.2, hw.1, hw.2⟩]
  refine lvl_ex (pk_no rfl rfl) (by omega) ?_
  rw [f31_eq]
  unfold f31
  simp -implicitDefEqProofs only [r_opt, r_ret, ob_some, ifB_true, iteV_true, iteV_false, r_gdt, r_gdt2, r_gdtf, r_gdtf2, r_gdff, r_gdff2, r_gdft, r_gdft2, r_gdu, r_gdu2, pick_t, pick_f, ext_0, ext_1, x_newB, r_nil, r_fAddr, Nat.zero_add, b_lss, b_leq, b_gtr, b_geq, b_eql, b_neq, u_not, Bool.not_true, Bool.not_false, oneOf_one, oneOf_two, again_normal, again_exit, again_ret, Bool.and_true, g1, hlen, d1, d2, d3, d4, g2, g3]
  rw [e]
  have hla : (upT t v).length = (upL t v.toNat v).length := rfl
  have hlb : (upT t w).length = (upL t w.toNat w).length := rfl
  exact Exists.imp (fun H' h => Exists.imp (fun u h => ⟨h.1, (x1.tr x2).tr h.2.1, h.2.2.1, fun c hc => Nat.le_trans (x1.tr x2).1 (h.2.2.2 c hc)⟩) h) (tpath_loop0 (m := m - 1) (by omega) (upT t v).length (m - 1) _ _ a b (Nat.le_refl _) (by omega) (by omega) (by omega) (by omega) (by omega) (qa.rs.ext x2) qb.rs ..)
end
end Go.Proofs.Ytdobnaldfmpimaa

set_option linter.unusedSectionVars false
set_option linter.unusedSimpArgs false
set_option linter.unusedVariables false
set_option maxRecDepth 100000
namespace Go.Proofs.Ytdobnaldfmpimaa
open Go.Abs
def allT : Nat → List (List Int)
  | 0 => [[]]
  | k + 1 => (allT k).flatMap fun t => (List.range (k + 1)).map fun x : Nat => t ++ [(x : Int)]
theorem rightB_front {t : List Int} {x : Int} (h : rightB (t ++ [x]) = true) : rightB t = true ∧ 0 ≤ x ∧ x ≤ t.length := by
  have hx := rightB_at h (i := t.length) (x := x) (by simp)
  refine ⟨?_, hx.1, hx.2.1⟩
  unfold rightB at h ⊢
  rw [Bool.and_eq_true, List.all_eq_true] at h ⊢
  refine ⟨fun j hj => ?_, ?_⟩
  · have hjl := List.mem_range.mp hj
    have := h.1 j (List.mem_range.mpr (by simp; omega))
    rw [List.getD_eq_getElem?_getD, List.getElem?_append_left hjl] at this
    rw [List.getD_eq_getElem?_getD]
    exact this
  · have h2 := of_decide_eq_true h.2
    simp at h2
    exact decide_eq_true (by omega)
theorem allT_mem : ∀ (k : Nat) (t : List Int), t.length = k → rightB t = true → t ∈ allT k
  | 0, t, hl, _ => by
    rw [List.length_eq_zero_iff.mp hl]
    simp [allT]
  | k + 1, t, hl, h => by
    obtain ⟨s, x, rfl⟩ : ∃ s x, t = s ++ [x] := by
      refine ⟨t.dropLast, t.getLast (fun hh => by rw [hh] at hl; simp at hl), ?_⟩
      exact (List.dropLast_concat_getLast _).symm
    obtain ⟨h1, h2, h3⟩ := rightB_front h
    have hsl : s.length = k := by simpa using hl
    unfold allT
    rw [List.mem_flatMap]
    refine ⟨s, allT_mem k s hsl h1, List.mem_map.mpr ⟨x.toNat, List.mem_range.mpr (by omega), ?_⟩⟩
    rw [show ((x.toNat : Nat) : Int) = x by omega]
def treeP (t : List Int) : PlanD := cpP (t.length + 1) (layE t) (layN t)
def treeGood (t : List Int) : Bool := checkOk (treeP t) && (decide (errR (treeP t) = 0) && (List.range (t.length + 1)).all fun v => (List.range (t.length + 1)).all fun w => decide (pathR (treeP t) v w = tpath t v w) && (decide (v = w) || decide (2 ≤ (tpath t v w).length)))
theorem good1 : (allT 1).all treeGood = true := by decide +kernel
theorem good2 : (allT 2).all treeGood = true := by decide +kernel
theorem good3 : (allT 3).all treeGood = true := by decide +kernel
theorem good4 : (allT 4).all treeGood = true := by decide +kernel
theorem good5 : (allT 5).all treeGood = true := by decide +kernel
end Go.Proofs.Ytdobnaldfmpimaa

set_option linter.unusedSectionVars false
set_option linter.unusedSimpArgs false
set_option linter.unusedVariables false
set_option maxRecDepth 100000
namespace Go.Proofs.Ytdobnaldfmpimaa
open Go.Abs
theorem tree_good {t : List Int} (hr : rightB t = true) (h1 : 1 ≤ t.length) : treeGood t = true := by
  have h5 : t.length ≤ 5 := by
    unfold rightB at hr
    rw [Bool.and_eq_true] at hr
    have := of_decide_eq_true hr.2
    omega
  have hm := allT_mem t.length t rfl hr
  have hc : t.length = 1 ∨ t.length = 2 ∨ t.length = 3 ∨ t.length = 4 ∨ t.length = 5 := by omega
  rcases hc with h | h | h | h | h <;> rw [h] at hm
  · exact List.all_eq_true.mp good1 t hm
  · exact List.all_eq_true.mp good2 t hm
  · exact List.all_eq_true.mp good3 t hm
  · exact List.all_eq_true.mp good4 t hm
  · exact List.all_eq_true.mp good5 t hm
def layR (t : List Int) (v : Nat) : List Int := (List.range (t.length + 1)).map fun w : Nat => if v = w then (v : Int) else (tpath t v w).getD 1 0
structure TG (t : List Int) : Prop where
  ok : checkOk (treeP t) = true
  er : errR (treeP t) = 0
  pa : ∀ v w : Nat, v ≤ t.length → w ≤ t.length → pathR (treeP t) v w = tpath t v w
  l2 : ∀ v w : Nat, v ≤ t.length → w ≤ t.length → v ≠ w → 2 ≤ (tpath t v w).length
theorem tg_of {t : List Int} (hr : rightB t = true) (h1 : 1 ≤ t.length) : TG t := by
  have h := tree_good hr h1
  unfold treeGood at h
  simp only [Bool.and_eq_true, decide_eq_true_eq, List.all_eq_true, List.mem_range, Bool.or_eq_true] at h
  obtain ⟨h1, h2, h3⟩ := h
  exact ⟨h1, h2, fun v w hv hw => (h3 v (by omega) w (by omega)).1, fun v w hv hw hne => ((h3 v (by omega) w (by omega)).2).resolve_left hne⟩
theorem lay_ok {p : PlanD} {t : List Int} (hp : checkOk p = true) (hg : TG t) : checkOk (layP p t) = true := by
  have h := hg.ok
  unfold checkOk numOk edgesOk rowsOk at *
  simp only [Bool.and_eq_true] at *
  exact ⟨⟨h.1.1, hp.1.2⟩, h.2.1, hp.2.2.1, hp.2.2.2.1, h.2.2.2.2⟩
theorem lay_core {p : PlanD} {t : List Int} (hp : checkOk p = true) (hg : TG t) : errR (layP p t) = 0 ∧ ∀ v w : Nat, v ≤ t.length → w ≤ t.length → pathR (layP p t) v w = tpath t v w := by
  obtain ⟨_, c2, _, c4⟩ := core_eq (lay_ok hp hg) hg.ok rfl rfl rfl
  exact ⟨by rw [c4]; exact hg.er, fun v w hv hw => by rw [c2]; exact hg.pa v w hv hw⟩
section
variable {H : Heap} {m : Nat} {p : PlanD} {ev wv nv : Value}
theorem add_field2 {α : Type} {el : α → List Value} {e e' : TypeId} {sz by' : Nat} (hsz : ∀ x, (el x).length = sz) (hall : ∀ x, allCells (el x) = true) (h0 : 0 < sz) {H0 : Heap} {v w : Value} {xs ys : List α} {b j : Nat} {cs : List Value}
    (hb : H[b]? = some (.cells cs 27 .fix)) (hj : j < cs.length) (hv : Rw el e sz H v xs) (hw : Rs el e' H w ys) (hn : New H0 v) (hbn : H0.length ≤ b) (he : Ext H0 H) (hr : roomy (xs.length + ys.length) by' = true) :
    ∃ v' H1 H', app e sz by' v w H = some (v', H1) ∧ stN 1 (.pointer (some ⟨b, j, none⟩)) v' H1 = some (undef, H') ∧
      Rw el e sz H' v' (xs ++ ys) ∧ New H0 v' ∧ Ext H0 H' ∧ H'[b]? = some (.cells (cs.set j v') 27 .fix) ∧ KeepX b e H H' := by
  obtain ⟨v', H1, g1, g2, g3, g4, g5⟩ := hv.addS hsz hall h0 (by' := by') hw hr
  have hbl := (List.getElem?_eq_some_iff.mp hb).1
  have hl := he.1
  have hnh : ¬ home v b := fun hh => by
    obtain ⟨c', hc'⟩ := hv.blk hh
    rw [hb] at hc'
    simp at hc'
  have hb1 : H1[b]? = some (.cells cs 27 .fix) := by rw [g4 b hbl hnh, hb]
  obtain ⟨s1, s2⟩ := g2.shape
  have hb1l := (List.getElem?_eq_some_iff.mp hb1).1
  refine ⟨v', H1, H1.set b (.cells (cs.set j v') 27 .fix), g1, ?_, g2.keep fun c hc => ?_, fun c hc => ?_, ⟨by rw [List.length_set]; omega, fun c hc _ => ?_⟩, List.getElem?_set_self hb1l, fun c y hcb hA hy => ?_⟩
  · rw [x_stN 1 _ _ _ (by rw [s1]; rfl), hb1, s1, x_stC _ _ _ _ _ _ (by decide) (by simp; omega) s2]
    rfl
  · refine List.getElem?_set_ne fun hh => ?_
    subst hh
    obtain ⟨c', hc'⟩ := g2.blk hc
    rw [hb1] at hc'
    simp at hc'
  · rcases g5 c hc with h | ⟨h, _⟩
    · exact hn c h
    · omega
  · rw [List.getElem?_set_ne (by omega), g4 c (by omega) (fun h => by have := hn c h; omega), he.2 c hc id]
  · have hch : ¬ home v c := fun hh => by
      obtain ⟨c', hc'⟩ := hv.blk hh
      rw [hy] at hc'
      cases hc'
      exact hA _ rfl
    rw [List.getElem?_set_ne (Ne.symm hcb), g4 c (List.getElem?_eq_some_iff.mp hy).1 hch, hy]
structure LA (H0 H1 : Heap) (pb rb : Nat) (q : PlanD) (ev wv nv : Value) : Prop where
  ext : Ext H0 H1
  blk : H1[pb]? = some (plB q ev wv nv)
  res : H1[rb]? = some plZ
  ne : rb ≠ pb
  lp : H0.length ≤ pb
  lr : H0.length ≤ rb
theorem LA.on {H0 H1 H2 : Heap} {pb rb : Nat} {q : PlanD} (h : LA H0 H1 pb rb q ev wv nv) (he : Ext H1 H2) : LA H0 H2 pb rb q ev wv nv := ⟨h.ext.tr he, ld_of h.blk he, ld_of h.res he, h.ne, h.lp, h.lr⟩
theorem plZ_keep {H0 H1 : Heap} {b rb : Nat} {e : TypeId} (hk : KeepX b e H0 H1) (hr : H0[rb]? = some plZ) (hne : rb ≠ b) : H1[rb]? = some plZ := hk rb _ hne (fun cs hh => by simp [plZ] at hh) hr
def Laid (H0 : Heap) (q : PlanD) (H' : Heap) (r : Value) : Prop := ∃ ev wv nv, r = .tuple #[plV q ev wv nv, .int .i64 0] ∧ Ext H0 H' ∧ PV H' q ev wv nv
variable {t : List Int} {tv : Value} {H0 : Heap} {pb rb : Nat}
theorem lay_loop2 {Hb : Heap} {v : Nat} (hr : rightB t = true) (hg : TG t) (ht : Is Hb tv t) (hv : v < t.length + 1) (hm : 400 < m) (hm2 : m ≤ 72057594037927936) {K : Ex → K (Value × Heap)} {Q : Heap → Value → Prop}
    (hK : ∀ (H' : Heap) (u : Value), Ext Hb H' → Iw H' u ((List.range (t.length + 1)).map fun w => if v = w then (v : Int) else (tpath t v w).getD 1 0) → New Hb u → ∀ (x0 x3 x5 x7 x8 x11 x12 x13 x14 x15 x16 x17 x18 x19 x20 x21 x22 x23 x24 x25 x26 x27 x28 x29 x30 x31 x32 x33 x34 x35 x36 x37 x38 x39 x40 x41 x42 x43 x44 x45 x46 x47 x48 x49 x50 x51 x52 x53 x54 x55 x56 x57 x58 x59 x60 x61 x62 x63 x64 x65 x66 x67 x68 x69 x70 x71 x72 x73 x74 x75 x76 x77 x78 x79 x80 x81 x82 : Value), ∃ H2 r, f29_e2_4 (lvl Try.prog pk12 m) (loopN m) K x0 tv (.pointer (some ⟨pb, 0, none⟩)) x3 (.pointer (some ⟨rb, 0, none⟩)) x5 (.int .i64 (t.length + 1 : Nat)) x7 x8 (.int .i64 (v : Nat)) u x11 x12 x13 x14 x15 x16 x17 x18 x19 x20 x21 x22 x23 x24 x25 x26 x27 x28 x29 x30 x31 x32 x33 x34 x35 x36 x37 x38 x39 x40 x41 x42 x43 x44 x45 x46 x47 x48 x49 x50 x51 x52 x53 x54 x55 x56 x57 x58 x59 x60 x61 x62 x63 x64 x65 x66 x67 x68 x69 x70 x71 x72 x73 x74 x75 x76 x77 x78 x79 x80 x81 x82 H' = some (r, H2) ∧ Q H2 r) :
    ∀ (k0 w k : Nat) (H1 : Heap) (acc : Value), t.length + 1 - w = k0 → w ≤ t.length + 1 → k0 < k → Ext Hb H1 → Iw H1 acc ((List.range w).map fun w => if v = w then (v : Int) else (tpath t v w).getD 1 0) → New Hb acc → ∀ (x0 x3 x5 x7 x8 x12 x13 x14 x15 x16 x17 x18 x19 x20 x21 x22 x23 x24 x25 x26 x27 x28 x29 x30 x31 x32 x33 x34 x35 x36 x37 x38 x39 x40 x41 x42 x43 x44 x45 x46 x47 x48 x49 x50 x51 x52 x53 x54 x55 x56 x57 x58 x59 x60 x61 x62 x63 x64 x65 x66 x67 x68 x69 x70 x71 x72 x73 x74 x75 x76 x77 x78 x79 x80 x81 x82 : Value),
    ∃ H' r, loopN k (runCode Try.prog (lvl Try.prog pk12 m) (loopN m) f29_c2) (f29_k2 (lvl Try.prog pk12 m) (loopN m) K) [x0, tv, (.pointer (some ⟨pb, 0, none⟩)), x3, (.pointer (some ⟨rb, 0, none⟩)), x5, (.int .i64 (t.length + 1 : Nat)), x7, x8, (.int .i64 (v : Nat)), acc, (.int .i64 (w : Nat)), x12, x13, x14, x15, x16, x17, x18, x19, x20, x21, x22, x23, x24, x25, x26, x27, x28, x29, x30, x31, x32, x33, x34, x35, x36, x37, x38, x39, x40, x41, x42, x43, x44, x45, x46, x47, x48, x49, x50, x51, x52, x53, x54, x55, x56, x57, x58, x59, x60, x61, x62, x63, x64, x65, x66, x67, x68, x69, x70, x71, x72, x73, x74, x75, x76, x77, x78, x79, x80, x81, x82] H1 = some (r, H') ∧ Q H' r := by
  intro k0
  have h5 : t.length ≤ 5 := by
    unfold rightB at hr
    rw [Bool.and_eq_true] at hr
    have := of_decide_eq_true hr.2
    omega
  induction k0 with
  | zero =>
    intro w k H1 acc hq hi hk he ha hnew
    intros
    obtain ⟨k, rfl⟩ : ∃ n, k = n + 1 := ⟨k - 1, by omega⟩
    obtain rfl : w = t.length + 1 := by omega
    have e : decide (((t.length + 1 : Nat) : Int) < ((t.length + 1 : Nat) : Int)) = false := by simp
    rw [loop_succ, f29_b2_eq]
    unfold f29_b2
    simp -implicitDefEqProofs only [r_opt, r_ret, ob_some, ifB_true, iteV_true, iteV_false, r_gdt, r_gdt2, r_gdtf, r_gdtf2, r_gdff, r_gdff2, r_gdft, r_gdft2, r_gdu, r_gdu2, pick_t, pick_f, ext_0, ext_1, x_newB, r_nil, r_fAddr, Nat.zero_add, b_lss, b_leq, b_gtr, b_geq, b_eql, b_neq, u_not, Bool.not_true, Bool.not_false, oneOf_one, oneOf_two, again_normal, again_exit, again_ret, Bool.and_true, e]
    rw [f29_e2_4_eq]
    exact hK H1 acc he ha hnew ..
  | succ k0 ih =>
    intro w k H1 acc hq hi hk he ha hnew
    intros
    obtain ⟨k, rfl⟩ : ∃ n, k = n + 1 := ⟨k - 1, by omega⟩
    have e : decide ((w : Int) < ((t.length + 1 : Nat) : Int)) = true := decide_eq_true (by omega)
    have e3 : IntKind.i64.wrap ((w : Int) + 1) = ((w + 1 : Nat) : Int) := by rw [wrap_i64 (by omega) (by omega)]; omega
    have hrow : ∀ x : Int, (if v = w then (v : Int) else (tpath t v w).getD 1 0) = x → ((List.range (w + 1)).map fun w => if v = w then (v : Int) else (tpath t v w).getD 1 0) = ((List.range w).map fun w => if v = w then (v : Int) else (tpath t v w).getD 1 0) ++ [x] := fun x hx => by
      rw [List.range_succ, List.map_append]
      simp only [List.map_cons, List.map_nil]
      rw [hx]
    rw [loop_succ, f29_b2_eq]
    unfold f29_b2
    by_cases hvw : v = w
    · have d : ((v : Int) != (w : Int)) = false := by simp [hvw]
      obtain ⟨acc2, H2, t1, t2, t3, t4⟩ := ha.push1 (by' := 8) inC_len inC_all (by decide) (v : Int) hnew he (roomy_mono (n := 1000) (by decide) (by simp; omega))
      simp -implicitDefEqProofs only [r_opt, r_ret, ob_some, ifB_true, iteV_true, iteV_false, r_gdt, r_gdt2, r_gdtf, r_gdtf2, r_gdff, r_gdff2, r_gdft, r_gdft2, r_gdu, r_gdu2, pick_t, pick_f, ext_0, ext_1, x_newB, r_nil, r_fAddr, Nat.zero_add, b_lss, b_leq, b_gtr, b_geq, b_eql, b_neq, u_not, Bool.not_true, Bool.not_false, oneOf_one, oneOf_two, again_normal, again_exit, again_ret, Bool.and_true, e, d, bldI, t1, b_add, e3]
      exact ih (w + 1) k H2 acc2 (by omega) (by omega) (by omega) t4 (by rw [hrow v (if_pos hvw)]; exact t2) t3 ..
    · have d : ((v : Int) != (w : Int)) = true := by simp; omega
      obtain ⟨H2, u, g1, x2, q2, _⟩ := tpath_is (ht.ext he) hr (v := v) (w := w) (by omega) (by omega) (m := m) (by omega) (by omega)
      obtain ⟨x, hx⟩ : ∃ x, (tpath t v w)[1]? = some x := by
        have := hg.l2 v w (by omega) (by omega) hvw
        exact ⟨_, List.getElem?_eq_getElem (by omega)⟩
      obtain ⟨c, o, k1, _, k3⟩ := q2.rs.at_ inC_len hx .i64
      have k1 : iAddr 1 u (.int .i64 1) = some (.pointer (some ⟨c, o, none⟩)) := k1
      have k4 : ld1 (.pointer (some ⟨c, o, none⟩)) H2 = some (.int .i64 x, H2) := (k3 H2 rfl).2.1 0 _ rfl
      have ha2 := ha.keep (H' := H2) fun b hb => x2.2 b (ha.lt hb) id
      obtain ⟨acc2, H3, t1, t2, t3, t4⟩ := ha2.push1 (by' := 8) inC_len inC_all (by decide) x hnew (he.tr x2) (roomy_mono (n := 1000) (by decide) (by simp; omega))
      simp -implicitDefEqProofs only [r_opt, r_ret, ob_some, ifB_true, iteV_true, iteV_false, r_gdt, r_gdt2, r_gdtf, r_gdtf2, r_gdff, r_gdff2, r_gdft, r_gdft2, r_gdu, r_gdu2, pick_t, pick_f, ext_0, ext_1, x_newB, r_nil, r_fAddr, Nat.zero_add, b_lss, b_leq, b_gtr, b_geq, b_eql, b_neq, u_not, Bool.not_true, Bool.not_false, oneOf_one, oneOf_two, again_normal, again_exit, again_ret, Bool.and_true, e, d, g1, k1, k4, bldI, t1, b_add, e3]
      exact ih (w + 1) k H3 acc2 (by omega) (by omega) (by omega) t4 (by rw [hrow x (by rw [if_neg hvw, getD_of hx])]; exact t2) t3 ..
theorem lay_loop1 {q : PlanD} {ev1 wv1 : Value} (hr : rightB t = true) (hg : TG t) (ht : Is H0 tv t) (hm : 500 < m) (hm2 : m ≤ 72057594037927936) (hqe : q.edges = layE t) (hqw : q.weights.length ≤ 1000) :
    ∀ (k0 v k : Nat) (H1 : Heap) (nv1 : Value) (us : List SV), t.length + 1 - v = k0 → v ≤ t.length + 1 → k0 < k → LA H0 H1 pb rb q ev1 wv1 nv1 → Ew H1 ev1 q.edges → Iw H1 wv1 q.weights → Rw sC 24 1 H1 nv1 us → New H0 nv1 → WR H1 us ((List.range v).map (layR t)) → ∀ (x0 x3 x5 x7 x8 x10 x11 x12 x13 x14 x15 x16 x17 x18 x19 x20 x21 x22 x23 x24 x25 x26 x27 x28 x29 x30 x31 x32 x33 x34 x35 x36 x37 x38 x39 x40 x41 x42 x43 x44 x45 x46 x47 x48 x49 x50 x51 x52 x53 x54 x55 x56 x57 x58 x59 x60 x61 x62 x63 x64 x65 x66 x67 x68 x69 x70 x71 x72 x73 x74 x75 x76 x77 x78 x79 x80 x81 x82 : Value),
    ∃ H' r, loopN k (runCode Try.prog (lvl Try.prog pk12 m) (loopN m) f29_c1) (f29_k1 (lvl Try.prog pk12 m) (loopN m)) [x0, tv, (.pointer (some ⟨pb, 0, none⟩)), x3, (.pointer (some ⟨rb, 0, none⟩)), x5, (.int .i64 (t.length + 1 : Nat)), x7, x8, (.int .i64 (v : Nat)), x10, x11, x12, x13, x14, x15, x16, x17, x18, x19, x20, x21, x22, x23, x24, x25, x26, x27, x28, x29, x30, x31, x32, x33, x34, x35, x36, x37, x38, x39, x40, x41, x42, x43, x44, x45, x46, x47, x48, x49, x50, x51, x52, x53, x54, x55, x56, x57, x58, x59, x60, x61, x62, x63, x64, x65, x66, x67, x68, x69, x70, x71, x72, x73, x74, x75, x76, x77, x78, x79, x80, x81, x82] H1 = some (r, H') ∧ Laid H0 { q with next := layN t } H' r := by
  intro k0
  have h5 : t.length ≤ 5 := by
    unfold rightB at hr
    rw [Bool.and_eq_true] at hr
    have := of_decide_eq_true hr.2
    omega
  induction k0 with
  | zero =>
    intro v k H1 nv1 us hq hi hk hL he1 hw1 hn1 hnew hwr
    intros
    obtain ⟨k, rfl⟩ : ∃ n, k = n + 1 := ⟨k - 1, by omega⟩
    obtain rfl : v = t.length + 1 := by omega
    have e : decide (((t.length + 1 : Nat) : Int) < ((t.length + 1 : Nat) : Int)) = false := by simp
    have hrows : Rows H1 nv1 (layN t) := hwr.rows hn1.rs
    have hb' : H1[pb]? = some (plB { q with next := layN t } ev1 wv1 nv1) := hL.blk
    have l11 := ld_pl11 hb'
    have hqel : q.edges.length ≤ 5 := by rw [hqe]; simp [layE]; exact h5
    have hpv : PV H1 { q with next := layN t } ev1 wv1 nv1 := ⟨he1.rs, hw1.rs, hrows, by show q.edges.length ≤ _; omega, by show q.weights.length ≤ _; omega, by show (layN t).length ≤ _; unfold layN; rw [tab_len]; omega⟩
    have hrl := (List.getElem?_eq_some_iff.mp hL.res).1
    have hall := hpv.all
    have st : stN 11 (.pointer (some ⟨rb, 0, none⟩)) (plV { q with next := layN t } ev1 wv1 nv1) H1 = some (undef, H1.set rb (plB { q with next := layN t } ev1 wv1 nv1)) := by
      have e1 : (plV { q with next := layN t } ev1 wv1 nv1).cells.toList = plC { q with next := layN t } ev1 wv1 nv1 := rfl
      rw [x_stN 11 _ _ _ rfl, hL.res, e1]
      unfold plZ
      exact x_stC _ _ _ _ _ _ (by decide) (by simp [plC]) hall
    have l2 := ld_pl11 (List.getElem?_set_self (a := plB { q with next := layN t } ev1 wv1 nv1) hrl)
    have kp : ∀ (b : Nat) (cs : List Value) (e : TypeId), H1[b]? = some (.cells cs e .row) → (H1.set rb (plB { q with next := layN t } ev1 wv1 nv1))[b]? = H1[b]? := fun b cs e hb => by
      refine List.getElem?_set_ne fun hh => ?_
      subst hh
      rw [hL.res] at hb
      simp [plZ] at hb
    have x2 : Ext H0 (H1.set rb (plB { q with next := layN t } ev1 wv1 nv1)) := set_ext hL.ext hL.lr
    have hpv2 : PV (H1.set rb (plB { q with next := layN t } ev1 wv1 nv1)) { q with next := layN t } ev1 wv1 nv1 := by
      refine ⟨(he1.keep fun b hb => ?_).rs, (hw1.keep fun b hb => ?_).rs, (hwr.keep fun b cs hb => kp b cs _ hb).rows (hn1.keep fun b hb => ?_).rs, hpv.be, hpv.bw, hpv.bn⟩
      · obtain ⟨cs, hc⟩ := he1.blk hb
        exact kp b cs _ hc
      · obtain ⟨cs, hc⟩ := hw1.blk hb
        exact kp b cs _ hc
      · obtain ⟨cs, hc⟩ := hn1.blk hb
        exact kp b cs _ hc
    rw [loop_succ, f29_b1_eq]
    unfold f29_b1
    simp -implicitDefEqProofs only [r_opt, r_ret, ob_some, ifB_true, iteV_true, iteV_false, r_gdt, r_gdt2, r_gdtf, r_gdtf2, r_gdff, r_gdff2, r_gdft, r_gdft2, r_gdu, r_gdu2, pick_t, pick_f, ext_0, ext_1, x_newB, r_nil, r_fAddr, Nat.zero_add, b_lss, b_leq, b_gtr, b_geq, b_eql, b_neq, u_not, Bool.not_true, Bool.not_false, oneOf_one, oneOf_two, again_normal, again_exit, again_ret, Bool.and_true, e]
    rw [f29_e1_2_eq]
    unfold f29_e1_2
    simp -implicitDefEqProofs only [r_opt, r_ret, ob_some, ifB_true, iteV_true, iteV_false, r_gdt, r_gdt2, r_gdtf, r_gdtf2, r_gdff, r_gdff2, r_gdft, r_gdft2, r_gdu, r_gdu2, pick_t, pick_f, ext_0, ext_1, x_newB, r_nil, r_fAddr, Nat.zero_add, b_lss, b_leq, b_gtr, b_geq, b_eql, b_neq, u_not, Bool.not_true, Bool.not_false, oneOf_one, oneOf_two, again_normal, again_exit, again_ret, Bool.and_true, l11, st, l2]
    exact ⟨_, _, rfl, ev1, wv1, nv1, rfl, x2, hpv2⟩
  | succ k0 ih =>
    intro v k H1 nv1 us hq hi hk hL he1 hw1 hn1 hnew hwr
    intros
    obtain ⟨k, rfl⟩ : ∃ n, k = n + 1 := ⟨k - 1, by omega⟩
    have e : decide ((v : Int) < ((t.length + 1 : Nat) : Int)) = true := decide_eq_true (by omega)
    have e3 : IntKind.i64.wrap ((v : Int) + 1) = ((v + 1 : Nat) : Int) := by rw [wrap_i64 (by omega) (by omega)]; omega
    rw [loop_succ, f29_b1_eq]
    unfold f29_b1
    simp -implicitDefEqProofs only [r_opt, r_ret, ob_some, ifB_true, iteV_true, iteV_false, r_gdt, r_gdt2, r_gdtf, r_gdtf2, r_gdff, r_gdff2, r_gdft, r_gdft2, r_gdu, r_gdu2, pick_t, pick_f, ext_0, ext_1, x_newB, r_nil, r_fAddr, Nat.zero_add, b_lss, b_leq, b_gtr, b_geq, b_eql, b_neq, u_not, Bool.not_true, Bool.not_false, oneOf_one, oneOf_two, again_normal, again_exit, again_ret, Bool.and_true, e]
    refine lay_loop2 (pb := pb) (rb := rb) (Q := Laid H0 { q with next := layN t }) hr hg (ht.ext hL.ext) (v := v) (by omega) (by omega) hm2 (fun H2 u x2 hu hun => ?_) (t.length + 1) 0 m H1 _ (by omega) (by omega) (by omega) (Fr.refl _ _) (Rw.nil (el := inC)) (New.nil _) ..
    intros
    have hL2 := hL.on x2
    have l10 := ld_pl hL2.blk 10 _ rfl
    have hn2 : Rw sC 24 1 H2 nv1 us := hn1.keep fun b hb => x2.2 b (hn1.lt hb) id
    have hwr2 := hwr.keep (H' := H2) fun b cs hb => x2.2 b (List.getElem?_eq_some_iff.mp hb).1 id
    have he2 := he1.keep (H' := H2) fun b hb => x2.2 b (he1.lt hb) id
    have hw2 := hw1.keep (H' := H2) fun b hb => x2.2 b (hw1.lt hb) id
    have hul : us.length ≤ 10 := by have := hwr.len; simp at this; omega
    obtain ⟨nv2, H3, H4, r1, r2, r3, r4, r5, r6, r7⟩ := push_field (by' := 24) (H0 := H0) (b := pb) (j := 10) sC_len sC_all (by decide) (svOf hu) hL2.blk (by show 10 < 11; omega) hn2 hnew hL.lp hL2.ext (roomy_mono (n := 1000) (by decide) (by omega))
    have bl : bldSlice 24 1 1 [.slice none 0 0] [(0, u)] H2 = some (.slice (some ⟨H2.length, 0, none⟩) 1 1, H2 ++ [.cells (sC (svOf hu)) 24 .row]) := by
      have h0 : u.cells = #[u] := (svOf hu).2.2
      unfold bldSlice
      have : Instr.fill (fun i => some (i * 1, 1)) (List.replicate 1 [Value.slice none 0 0]).flatten.toArray [(0, u)] = some #[u] := by
        simp [Instr.fill, h0]
      rw [this]
      rfl
    have hL4 : LA H0 H4 pb rb q ev1 wv1 nv2 := ⟨r5, r6, plZ_keep r7 hL2.res hL.ne, hL.ne, hL.lp, hL.lr⟩
    have w4 := (hwr2.push (s := svOf hu) hu).keep (H' := H4) fun b cs hb => by
      have hbp : b ≠ pb := fun hh => by
        subst hh
        rw [hL2.blk] at hb
        simp [plB] at hb
      rw [hb]
      exact r7 b _ hbp (fun cs' hh => by cases hh) hb
    unfold f29_e2_4
    simp -implicitDefEqProofs only [r_opt, r_ret, ob_some, ifB_true, iteV_true, iteV_false, r_gdt, r_gdt2, r_gdtf, r_gdtf2, r_gdff, r_gdff2, r_gdft, r_gdft2, r_gdu, r_gdu2, pick_t, pick_f, ext_0, ext_1, x_newB, r_nil, r_fAddr, Nat.zero_add, b_lss, b_leq, b_gtr, b_geq, b_eql, b_neq, u_not, Bool.not_true, Bool.not_false, oneOf_one, oneOf_two, again_normal, again_exit, again_ret, Bool.and_true, l10, bl, r1, r2, b_add, e3]
    refine ih (v + 1) k H4 nv2 _ (by omega) (by omega) (by omega) hL4 (Rw.keepX he2 r7 hL2.blk (by decide)) (Rw.keepX hw2 r7 hL2.blk (by decide)) r3 r4 ?_ ..
    have hrs : (List.range (v + 1)).map (layR t) = (List.range v).map (layR t) ++ [layR t v] := by rw [List.range_succ, List.map_append]; rfl
    exact hrs ▸ w4
theorem lay_loop0 {q : PlanD} {ws : List Int} {nv0 : Value} (hr : rightB t = true) (hg : TG t) (ht : Is H0 tv t) (hw0 : Is H0 wv ws) (hwl : ws.length ≤ 1000) (hm : 500 < m) (hm2 : m ≤ 72057594037927936) (hqe : q.edges = layE t) (hqw : q.weights = ws) :
    ∀ (k0 v k : Nat) (H1 : Heap) (ev1 : Value), t.length - v = k0 → v ≤ t.length → k0 < k → LA H0 H1 pb rb q ev1 wv nv0 → Ew H1 ev1 ((List.range v).map fun i => (t.getD i 0, ((i + 1 : Nat) : Int))) → New H0 ev1 → ∀ (x0 x3 x5 x8 x9 x10 x11 x12 x13 x14 x15 x16 x17 x18 x19 x20 x21 x22 x23 x24 x25 x26 x27 x28 x29 x30 x31 x32 x33 x34 x35 x36 x37 x38 x39 x40 x41 x42 x43 x44 x45 x46 x47 x48 x49 x50 x51 x52 x53 x54 x55 x56 x57 x58 x59 x60 x61 x62 x63 x64 x65 x66 x67 x68 x69 x70 x71 x72 x73 x74 x75 x76 x77 x78 x79 x80 x81 x82 : Value),
    ∃ H' r, loopN k (runCode Try.prog (lvl Try.prog pk12 m) (loopN m) f29_c0) (f29_k0 (lvl Try.prog pk12 m) (loopN m)) [x0, tv, (.pointer (some ⟨pb, 0, none⟩)), x3, (.pointer (some ⟨rb, 0, none⟩)), x5, (.int .i64 (t.length + 1 : Nat)), (.int .i64 (v + 1 : Nat)), x8, x9, x10, x11, x12, x13, x14, x15, x16, x17, x18, x19, x20, x21, x22, x23, x24, x25, x26, x27, x28, x29, x30, x31, x32, x33, x34, x35, x36, x37, x38, x39, x40, x41, x42, x43, x44, x45, x46, x47, x48, x49, x50, x51, x52, x53, x54, x55, x56, x57, x58, x59, x60, x61, x62, x63, x64, x65, x66, x67, x68, x69, x70, x71, x72, x73, x74, x75, x76, x77, x78, x79, x80, x81, x82] H1 = some (r, H') ∧ Laid H0 { q with next := layN t } H' r := by
  intro k0
  have h5 : t.length ≤ 5 := by
    unfold rightB at hr
    rw [Bool.and_eq_true] at hr
    have := of_decide_eq_true hr.2
    omega
  induction k0 with
  | zero =>
    intro v k H1 ev1 hq hi hk hL he1 hen
    intros
    obtain ⟨k, rfl⟩ : ∃ n, k = n + 1 := ⟨k - 1, by omega⟩
    obtain rfl : v = t.length := by omega
    have e : decide (((t.length + 1 : Nat) : Int) < ((t.length + 1 : Nat) : Int)) = false := by simp
    have l8 := ld_pl hL.blk 8 _ rfl
    obtain ⟨wv1, H2, H3, r1, r2, r3, r4, r5, r6, r7⟩ := add_field2 (by' := 8) (H0 := H0) inC_len inC_all (by decide) hL.blk (show 8 < 11 by omega) (Rw.nil (el := inC) (e := 3) (sz := 1)) (hw0.ext hL.ext) (New.nil _) hL.lp hL.ext (roomy_mono (n := 100000) (by decide) (by simp; omega))
    rw [List.nil_append] at r3
    have hL3 : LA H0 H3 pb rb q ev1 wv1 nv0 := ⟨r5, r6, plZ_keep r7 hL.res hL.ne, hL.ne, hL.lp, hL.lr⟩
    have he3 := Rw.keepX he1 r7 hL.blk (by decide)
    have st := st_pl (q' := q) (ev' := ev1) (wv' := wv1) (nv' := .slice none 0 0) (j := 10) (v := .slice none 0 0) hL3.blk rfl rfl (by omega) rfl
    obtain ⟨H4, hH4⟩ : ∃ H4, H4 = H3.set pb (plB q ev1 wv1 (.slice none 0 0)) := ⟨_, rfl⟩
    rw [← hH4] at st
    have other : ∀ b, b ≠ pb → H4[b]? = H3[b]? := fun b hb => by rw [hH4]; exact List.getElem?_set_ne (Ne.symm hb)
    have nrow : ∀ (b : Nat) (cs : List Value) (e : TypeId), H3[b]? = some (.cells cs e .row) → b ≠ pb := fun b cs e hb hh => by
      subst hh
      rw [hL3.blk] at hb
      simp [plB] at hb
    have hL4 : LA H0 H4 pb rb q ev1 wv1 (.slice none 0 0) := ⟨by rw [hH4]; exact set_ext r5 hL.lp, by rw [hH4]; exact List.getElem?_set_self (List.getElem?_eq_some_iff.mp hL3.blk).1, by rw [other rb hL.ne]; exact hL3.res, hL.ne, hL.lp, hL.lr⟩
    have he4 : Ew H4 ev1 (layE t) := he3.keep fun b hb => by
      obtain ⟨cs, hc⟩ := he3.blk hb
      exact other b (nrow b cs _ hc)
    have hw4 : Iw H4 wv1 ws := r3.keep fun b hb => by
      obtain ⟨cs, hc⟩ := r3.blk hb
      exact other b (nrow b cs _ hc)
    rw [loop_succ, f29_b0_eq]
    unfold f29_b0
    simp -implicitDefEqProofs only [r_opt, r_ret, ob_some, ifB_true, iteV_true, iteV_false, r_gdt, r_gdt2, r_gdtf, r_gdtf2, r_gdff, r_gdff2, r_gdft, r_gdft2, r_gdu, r_gdu2, pick_t, pick_f, ext_0, ext_1, x_newB, r_nil, r_fAddr, Nat.zero_add, b_lss, b_leq, b_gtr, b_geq, b_eql, b_neq, u_not, Bool.not_true, Bool.not_false, oneOf_one, oneOf_two, again_normal, again_exit, again_ret, Bool.and_true, e]
    rw [f29_e0_0_eq]
    unfold f29_e0_0
    simp -implicitDefEqProofs only [r_opt, r_ret, ob_some, ifB_true, iteV_true, iteV_false, r_gdt, r_gdt2, r_gdtf, r_gdtf2, r_gdff, r_gdff2, r_gdft, r_gdft2, r_gdu, r_gdu2, pick_t, pick_f, ext_0, ext_1, x_newB, r_nil, r_fAddr, Nat.zero_add, b_lss, b_leq, b_gtr, b_geq, b_eql, b_neq, u_not, Bool.not_true, Bool.not_false, oneOf_one, oneOf_two, again_normal, again_exit, again_ret, Bool.and_true, l8, r1, r2, st]
    exact lay_loop1 hr hg ht hm hm2 hqe (by rw [hqw]; omega) (t.length + 1) 0 m H4 (.slice none 0 0) [] (by omega) (by omega) (by omega) hL4 (by rw [hqe]; exact he4) (by rw [hqw]; exact hw4) Rw.nil (New.nil _) ⟨rfl, fun j s xs h => by simp at h⟩ ..
  | succ k0 ih =>
    intro v k H1 ev1 hq hi hk hL he1 hen
    intros
    obtain ⟨k, rfl⟩ : ∃ n, k = n + 1 := ⟨k - 1, by omega⟩
    have e : decide (((v + 1 : Nat) : Int) < ((t.length + 1 : Nat) : Int)) = true := decide_eq_true (by omega)
    have e3 : IntKind.i64.wrap (((v + 1 : Nat) : Int) + 1) = ((v + 1 + 1 : Nat) : Int) := by rw [wrap_i64 (by omega) (by omega)]; omega
    have e4 : IntKind.i64.wrap (((v + 1 : Nat) : Int) - 1) = ((v : Nat) : Int) := by rw [wrap_i64 (by omega) (by omega)]; omega
    have l1 := ld_pl hL.blk 1 _ rfl
    obtain ⟨x, hx⟩ : ∃ x, t[v]? = some x := ⟨_, List.getElem?_eq_getElem (by omega)⟩
    obtain ⟨b, o, g1, _, g3⟩ := (ht.ext hL.ext).at_ inC_len hx .i64
    have g4 : ld1 (.pointer (some ⟨b, o, none⟩)) H1 = some (.int .i64 x, H1) := (g3 H1 rfl).2.1 0 _ rfl
    have be := bEd x ((v + 1 : Nat) : Int)
    obtain ⟨ev2, H2, H3, r1, r2, r3, r4, r5, r6, r7⟩ := push_field (by' := 16) (H0 := H0) (b := pb) (j := 1) edC_len edC_all (by decide) (x, ((v + 1 : Nat) : Int)) hL.blk (by show 1 < 11; omega) he1 hen hL.lp hL.ext (roomy_mono (n := 1000) (by decide) (by simp; omega))
    have hL3 : LA H0 H3 pb rb q ev2 wv nv0 := ⟨r5, r6, plZ_keep r7 hL.res hL.ne, hL.ne, hL.lp, hL.lr⟩
    rw [loop_succ, f29_b0_eq]
    unfold f29_b0
    simp -implicitDefEqProofs only [r_opt, r_ret, ob_some, ifB_true, iteV_true, iteV_false, r_gdt, r_gdt2, r_gdtf, r_gdtf2, r_gdff, r_gdff2, r_gdft, r_gdft2, r_gdu, r_gdu2, pick_t, pick_f, ext_0, ext_1, x_newB, r_nil, r_fAddr, Nat.zero_add, b_lss, b_leq, b_gtr, b_geq, b_eql, b_neq, u_not, Bool.not_true, Bool.not_false, oneOf_one, oneOf_two, again_normal, again_exit, again_ret, Bool.and_true, e, l1, b_sub, e4, g1, g4, be, one_edge, r1, r2, b_add, e3]
    refine ih (v + 1) k H3 ev2 (by omega) (by omega) (by omega) hL3 ?_ r4 ..
    rw [List.range_succ, List.map_append]
    simp only [List.map_cons, List.map_nil]
    rw [getD_of hx]
    exact r3
theorem lay13_is (hp : PV H p ev wv nv) (hwl : p.weights.length ≤ 1000) (ht : Is H tv t) (hr : rightB t = true) (h1 : 1 ≤ t.length) (hm : 600 < m) (hm2 : m ≤ 72057594037927936) :
    ∃ H' r, lvl Try.prog pk12 m (.func 29) [plV p ev wv nv, tv] H = some (r, H') ∧ Laid H (layP p t) H' r := by
  have hg := tg_of hr h1
  have h5 : t.length ≤ 5 := by
    unfold rightB at hr
    rw [Bool.and_eq_true] at hr
    have := of_decide_eq_true hr.2
    omega
  obtain ⟨Ha, hHa⟩ : ∃ Ha, Ha = H ++ [plB p ev wv nv] := ⟨_, rfl⟩
  have xa : Ext H Ha := by rw [hHa]; exact Fr.app _ _ _
  have ba : Ha[H.length]? = some (plB p ev wv nv) := by rw [hHa]; exact at_last _ _
  obtain ⟨Hb, hHb⟩ : ∃ Hb, Hb = Ha ++ [plZ] := ⟨_, rfl⟩
  have xb : Ext Ha Hb := by rw [hHb]; exact Fr.app _ _ _
  have bb : Hb[Ha.length]? = some plZ := by rw [hHb]; exact at_last _ _
  have xab := xa.tr xb
  have hra := right_is (ht.ext xab) (m := m - 1) (by omega) (by omega)
  rw [hr] at hra
  have hlen := (ht.ext xab).len
  have d0 : ((t.length : Int) == 0) = false := by simp; exact fun h => by rw [h] at h1; simp at h1
  have e1 : IntKind.i64.wrap ((t.length : Int) + 1) = ((t.length + 1 : Nat) : Int) := by rw [wrap_i64 (by omega) (by omega)]; omega
  have bpl := ld_of ba xb
  have s1 := st_pl (q' := { p with nodes := ((t.length + 1 : Nat) : Int) }) (ev' := ev) (wv' := wv) (nv' := nv) (j := 0) (v := .int .i64 (t.length + 1 : Nat)) bpl rfl rfl (by omega) rfl
  obtain ⟨Hc, hHc⟩ : ∃ Hc, Hc = Hb.set H.length (plB { p with nodes := ((t.length + 1 : Nat) : Int) } ev wv nv) := ⟨_, rfl⟩
  rw [← hHc] at s1
  have bc : Hc[H.length]? = some (plB { p with nodes := ((t.length + 1 : Nat) : Int) } ev wv nv) := by rw [hHc]; exact List.getElem?_set_self (List.getElem?_eq_some_iff.mp bpl).1
  have s2 := st_pl (q' := layP p t) (ev' := .slice none 0 0) (wv' := wv) (nv' := nv) (j := 1) (v := .slice none 0 0) bc rfl rfl (by omega) rfl
  obtain ⟨Hd, hHd⟩ : ∃ Hd, Hd = Hc.set H.length (plB (layP p t) (.slice none 0 0) wv nv) := ⟨_, rfl⟩
  rw [← hHd] at s2
  have bd : Hd[H.length]? = some (plB (layP p t) (.slice none 0 0) wv nv) := by rw [hHd]; exact List.getElem?_set_self (List.getElem?_eq_some_iff.mp bc).1
  have hne : Ha.length ≠ H.length := by rw [hHa]; simp
  have hL : LA H Hd H.length Ha.length (layP p t) (.slice none 0 0) wv nv := by
    refine ⟨?_, bd, ?_, hne, Nat.le_refl _, xa.1⟩
    · rw [hHd, hHc]; exact set_ext (set_ext xab (Nat.le_refl _)) (Nat.le_refl _)
    · rw [hHd, List.getElem?_set_ne (Ne.symm hne), hHc, List.getElem?_set_ne (Ne.symm hne)]
      exact bb
  refine lvl_ex (pk_no rfl rfl) (by omega) ?_
  rw [f29_eq]
  unfold f29
  simp -implicitDefEqProofs only [r_opt, r_ret, ob_some, ifB_true, iteV_true, iteV_false, r_gdt, r_gdt2, r_gdtf, r_gdtf2, r_gdff, r_gdff2, r_gdft, r_gdft2, r_gdu, r_gdu2, pick_t, pick_f, ext_0, ext_1, x_newB, r_nil, r_fAddr, Nat.zero_add, b_lss, b_leq, b_gtr, b_geq, b_eql, b_neq, u_not, Bool.not_true, Bool.not_false, oneOf_one, oneOf_two, again_normal, again_exit, again_ret, Bool.and_true, plV_cells, ← hHa, plZ_is, ← hHb, hra, hlen, d0, b_add, e1, s1, s2]
  have := lay_loop0 (q := layP p t) (nv0 := nv) hr hg ht hp.w hwl (m := m - 1) (by omega) (by omega) rfl rfl t.length 0 (m - 1) Hd (.slice none 0 0) (by omega) (by omega) (by omega) hL Rw.nil (New.nil _)
  exact this ..
end
end Go.Proofs.Ytdobnaldfmpimaa

set_option linter.unusedSectionVars false
set_option linter.unusedSimpArgs false
set_option linter.unusedVariables false
set_option maxRecDepth 100000
namespace Go.Proofs.Ytdobnaldfmpimaa
open Go.Abs
section
variable {H : Heap} {m : Nat} {p : PlanD} {ev wv nv : Value}
theorem same14_loop {u v : Value} {xs ys : List Int} (hu : Is H u xs) (hv : Is H v ys) (hl : xs.length = ys.length) (hx : xs.length ≤ 72057594037927936) : ∀ (q i k : Nat), xs.length - i = q → i ≤ xs.length → q < k → ∀ (x2 x3 x4 x6 x7 x8 x9 x10 x11 x12 x13 x14 x15 x16 x17 x18 x19 x20 x21 x22 x23 x24 x25 : Value),
    loopN k (runCode Try.prog (lvl Try.prog pk12 m) (loopN m) f30_c0) (f30_k0 (lvl Try.prog pk12 m) (loopN m)) [u, v, x2, x3, x4, (.int .i64 (i : Nat)), x6, x7, x8, x9, x10, x11, x12, x13, x14, x15, x16, x17, x18, x19, x20, x21, x22, x23, x24, x25] H = some (.bool (decide (xs.drop i = ys.drop i)), H) := by
  intro q

  induction q with
  | zero =>
    intro i k  hr hi hk 
    intros
    obtain ⟨k, rfl⟩ : ∃ n, k = n + 1 := ⟨k - 1, by omega⟩
    obtain rfl : xs.length = i := by omega
    have e : decide (((xs.length : Nat) : Int) < (xs.length : Nat)) = false := by simp
    have hlen := hu.len
    rw [loop_succ, f30_b0_eq]
    unfold f30_b0
    simp -implicitDefEqProofs only [r_opt, r_ret, ob_some, ifB_true, iteV_true, iteV_false, r_gdt, r_gdt2, r_gdtf, r_gdtf2, r_gdff, r_gdff2, r_gdft, r_gdft2, r_gdu, r_gdu2, pick_t, pick_f, ext_0, ext_1, x_newB, r_nil, r_fAddr, Nat.zero_add, b_lss, b_leq, b_gtr, b_geq, b_eql, b_neq, u_not, Bool.not_true, Bool.not_false, oneOf_one, oneOf_two, again_normal, again_exit, again_ret, Bool.and_true, hlen, e]
    rw [f30_e0_0_eq, List.drop_length, hl, List.drop_length]
    rfl
  | succ q ih =>
    intro i k  hr hi hk 
    intros
    obtain ⟨k, rfl⟩ : ∃ n, k = n + 1 := ⟨k - 1, by omega⟩
    have e : decide ((i : Int) < (xs.length : Nat)) = true := decide_eq_true (by omega)
    have e3 : IntKind.i64.wrap ((i : Int) + 1) = ((i + 1 : Nat) : Int) := by rw [wrap_i64 (by omega) (by omega)]; omega
    have hlen := hu.len
    obtain ⟨b, o, g1, g2, g3⟩ := hu.at_ inC_len (List.getElem?_eq_getElem (show i < xs.length by omega)) .i64
    obtain ⟨b', o', g1', g2', g3'⟩ := hv.at_ inC_len (List.getElem?_eq_getElem (show i < ys.length by omega)) .i64
    have a1 : ld1 (.pointer (some ⟨b, o, none⟩)) H = some (.int .i64 (xs[i]'(by omega)), H) := (g3 H rfl).2.1 0 _ rfl
    have a2 : ld1 (.pointer (some ⟨b', o', none⟩)) H = some (.int .i64 (ys[i]'(by omega)), H) := (g3' H rfl).2.1 0 _ rfl
    have hD : (xs.drop i = ys.drop i) ↔ (xs[i]'(by omega) = ys[i]'(by omega) ∧ xs.drop (i + 1) = ys.drop (i + 1)) := by
      rw [List.drop_eq_getElem_cons (show i < xs.length by omega), List.drop_eq_getElem_cons (show i < ys.length by omega), List.cons.injEq]
    rw [loop_succ, f30_b0_eq]
    unfold f30_b0
    by_cases c : xs[i]'(by omega) = ys[i]'(by omega)
    · have d : (xs[i]'(by omega) != ys[i]'(by omega)) = false := by rw [c]; simp
      simp -implicitDefEqProofs only [r_opt, r_ret, ob_some, ifB_true, iteV_true, iteV_false, r_gdt, r_gdt2, r_gdtf, r_gdtf2, r_gdff, r_gdff2, r_gdft, r_gdft2, r_gdu, r_gdu2, pick_t, pick_f, ext_0, ext_1, x_newB, r_nil, r_fAddr, Nat.zero_add, b_lss, b_leq, b_gtr, b_geq, b_eql, b_neq, u_not, Bool.not_true, Bool.not_false, oneOf_one, oneOf_two, again_normal, again_exit, again_ret, Bool.and_true, hlen, e, g1, g1', a1, a2, d, b_add, e3]
      have hd : decide (xs.drop i = ys.drop i) = decide (xs.drop (i + 1) = ys.drop (i + 1)) := decide_eq_decide.mpr (hD.trans ⟨fun h => h.2, fun h => ⟨c, h⟩⟩)
      rw [hd]
      exact ih (i + 1) k (by omega) (by omega) (by omega) ..
    · have d : (xs[i]'(by omega) != ys[i]'(by omega)) = true := by simpa using c
      simp -implicitDefEqProofs only [r_opt, r_ret, ob_some, ifB_true, iteV_true, iteV_false, r_gdt, r_gdt2, r_gdtf, r_gdtf2, r_gdff, r_gdff2, r_gdft, r_gdft2, r_gdu, r_gdu2, pick_t, pick_f, ext_0, ext_1, x_newB, r_nil, r_fAddr, Nat.zero_add, b_lss, b_leq, b_gtr, b_geq, b_eql, b_neq, u_not, Bool.not_true, Bool.not_false, oneOf_one, oneOf_two, again_normal, again_exit, again_ret, Bool.and_true, hlen, e, g1, g1', a1, a2, d]
      rw [f30_r0_eq]
      have hd : decide (xs.drop i = ys.drop i) = false := decide_eq_false fun h => c (hD.mp h).1
      rw [hd]
      rfl
theorem same14_is {u v : Value} {xs ys : List Int} (hu : Is H u xs) (hv : Is H v ys) (hx : xs.length + 10 < m) (hm : m ≤ 72057594037927936) : lvl Try.prog pk12 m (.func 30) [u, v] H = some (.bool (decide (xs = ys)), H) := by
  have l1 := hu.len
  have l2 := hv.len
  refine lvl_at (pk_no rfl rfl) (by omega) ?_
  rw [f30_eq]
  unfold f30
  by_cases h : xs.length = ys.length
  · have e : ((xs.length : Int) != ys.length) = false := by simp [h]
    simp -implicitDefEqProofs only [r_opt, r_ret, ob_some, ifB_true, iteV_true, iteV_false, r_gdt, r_gdt2, r_gdtf, r_gdtf2, r_gdff, r_gdff2, r_gdft, r_gdft2, r_gdu, r_gdu2, pick_t, pick_f, ext_0, ext_1, x_newB, r_nil, r_fAddr, Nat.zero_add, b_lss, b_leq, b_gtr, b_geq, b_eql, b_neq, u_not, Bool.not_true, Bool.not_false, oneOf_one, oneOf_two, again_normal, again_exit, again_ret, Bool.and_true, l1, l2, e]
    exact same14_loop hu hv h (by omega) xs.length 0 (m - 1) (by omega) (by omega) (by omega) ..
  · have e : ((xs.length : Int) != ys.length) = true := by simp; omega
    have e2 : decide (xs = ys) = false := decide_eq_false fun hh => h (by rw [hh])
    simp -implicitDefEqProofs only [r_opt, r_ret, ob_some, ifB_true, iteV_true, iteV_false, r_gdt, r_gdt2, r_gdtf, r_gdtf2, r_gdff, r_gdff2, r_gdft, r_gdft2, r_gdu, r_gdu2, pick_t, pick_f, ext_0, ext_1, x_newB, r_nil, r_fAddr, Nat.zero_add, b_lss, b_leq, b_gtr, b_geq, b_eql, b_neq, u_not, Bool.not_true, Bool.not_false, oneOf_one, oneOf_two, again_normal, again_exit, again_ret, Bool.and_true, l1, l2, e, e2]
theorem path_le6 {v w : Int} : (pathR p v w).length ≤ 6 := by
  unfold pathR
  split
  · rename_i h
    obtain ⟨n, hk⟩ := ok_of h.1
    have h6 := hk.h6
    have hq : p.nodes.toNat = n := by rw [hk.hn]; rfl
    unfold pathL
    rw [hq]
    have key : ∀ (q : Nat) (l : List Int) (v : Int) (r : List Int), l.length ≤ n → pthW p w q l v = some r → r.length ≤ n := by
      intro q
      induction q with
      | zero => intro l v r _ h; cases h
      | succ q ih =>
        intro l v r hl h
        unfold pthW at h
        split at h
        · cases h; exact hl
        · split at h
          · cases h
          · rename_i hc
            refine ih _ _ _ ?_ h
            have : ¬ (l.length : Int) = p.nodes := fun hh => hc (.inl hh)
            rw [hk.hn] at this
            simp
            omega
    cases hh : pthW p w n [v] v with
    | none => simp
    | some r =>
      have h2 := hk.h2
      have := key n [v] v r (by simp; omega) hh
      simp only [Option.getD_some]
      omega
  · simp
end
end Go.Proofs.Ytdobnaldfmpimaa

set_option linter.unusedSectionVars false
set_option linter.unusedSimpArgs false
set_option linter.unusedVariables false
set_option maxRecDepth 100000
namespace Go.Proofs.Ytdobnaldfmpimaa
open Go.Abs
section
variable {H : Heap} {m : Nat} {p : PlanD} {ev wv nv : Value}
theorem ofT_right (c : List Nat) : rightB (ofT c) = true ∧ 1 ≤ (ofT c).length := by
  unfold ofT
  split
  · exact ⟨by decide +kernel, by simp⟩
  · rename_i h
    have hl : (ofL c (min c.length 5)).length = min c.length 5 := by simp [ofL]
    refine ⟨?_, by rw [hl]; omega⟩
    unfold rightB
    rw [hl, Bool.and_eq_true, List.all_eq_true]
    refine ⟨fun i hi => ?_, decide_eq_true (by omega)⟩
    have hi' := List.mem_range.mp hi
    have e : (ofL c (min c.length 5)).getD i 0 = ((c.getD i 0 % (i + 1) : Nat) : Int) := by
      unfold ofL
      rw [List.getD_eq_getElem?_getD, List.getElem?_map, List.getElem?_range hi']
      rfl
    have hm : c.getD i 0 % (i + 1) < i + 1 := Nat.mod_lt _ (by omega)
    rw [e, Bool.and_eq_true]
    exact ⟨decide_eq_true (by omega), decide_eq_true (by omega)⟩
theorem routeTrees_true {cv : Value} {c : List Nat} (hc : Us H cv c) (hu8 : ∀ x ∈ c, x < 256) (hl : c.length ≤ 72057594037927936) (nodes room more a b : Nat) (h1 : nodes < 256) (h2 : room < 256) (h3 : more < 256) (h4 : a < 256) (h5 : b < 256) :
    ∃ H', lvl Try.prog pk12 18014398509481984 (.func 12) [cv, .int .u8 nodes, .int .u8 room, .int .u8 more, .int .u8 a, .int .u8 b] H = some (.bool true, H') ∧ True := by
  obtain ⟨H1, tv, g1, x1, qt, _⟩ := of_is hc hu8 hl (m := 18014398509481984 - 1) (by omega)
  obtain ⟨hr, ht1⟩ := ofT_right c
  obtain ⟨t, htt⟩ : ∃ t, t = ofT c := ⟨_, rfl⟩
  rw [← htt] at qt hr ht1
  obtain ⟨H2, u, g2, hmd⟩ := make_is (H := H1) (m := 18014398509481984 - 1) nodes room more 0 h1 h2 h3 (by omega) (us_nil H1) (by simp) (by simp) (by omega)
  obtain ⟨ev, wv, nv, rfl, x2, hp⟩ := hmd.pv
  have hok := mk_ok nodes room more 0 []
  have hwl : (mkP nodes room more 0 []).weights.length ≤ 1000 := by simp [mkP]; omega
  obtain ⟨p, hpp⟩ : ∃ p, p = mkP nodes room more 0 [] := ⟨_, rfl⟩
  rw [← hpp] at hp g2 hok hwl
  have z0 : ((0 : Nat) : Int) = 0 := rfl
  simp only [z0] at g2
  obtain ⟨H3, _, g3, ev3, wv3, nv3, rfl, x3, hp3⟩ := lay13_is hp hwl (qt.rs.ext x2) hr ht1 (m := 18014398509481984 - 1) (by omega) (by omega)
  have hg := tg_of hr ht1
  obtain ⟨c1, c2⟩ := lay_core hok hg
  obtain ⟨q, hq⟩ : ∃ q, q = layP p t := ⟨_, rfl⟩
  have hqn : (layP p t).nodes = ((t.length + 1 : Nat) : Int) := rfl
  rw [← hq] at hp3 g3 c1 c2 hqn
  have cp := pl_copy hp3 H3
  obtain ⟨H4, hH4⟩ : ∃ H4, H4 = H3 ++ [plB q ev3 wv3 nv3] := ⟨_, rfl⟩
  rw [← hH4] at cp
  have x4 : Ext H3 H4 := by rw [hH4]; exact Fr.app _ _ _
  have b4 : H4[H3.length]? = some (plB q ev3 wv3 nv3) := by rw [hH4]; exact at_last _ _
  have l0 := ld_pl b4 0 _ rfl
  rw [hqn] at l0
  have a1 := fun H => cvU H a h4
  have a2 := remI a (t.length + 1) (t.length + 1 : Nat) rfl (by omega)
  have b1 := fun H => cvU H b h5
  have b2 := remI b (t.length + 1) (t.length + 1 : Nat) rfl (by omega)
  have hv : a % (t.length + 1) < t.length + 1 := Nat.mod_lt _ (by omega)
  have hw : b % (t.length + 1) < t.length + 1 := Nat.mod_lt _ (by omega)
  obtain ⟨v, hvv⟩ : ∃ v, v = a % (t.length + 1) := ⟨_, rfl⟩
  obtain ⟨w, hww⟩ : ∃ w, w = b % (t.length + 1) := ⟨_, rfl⟩
  rw [← hvv] at a2 hv
  rw [← hww] at b2 hw
  obtain ⟨H5, g5, x5⟩ := known14_is (H := H4) (m := 18014398509481984 - 1) (by omega) (by omega)
  have b5 := ld_of b4 x5
  have l5 := ld_pl11 b5
  have q5 := (hp3.ext x4).ext x5
  obtain ⟨H6, g6, x6⟩ := Check_is q5 (m := 18014398509481984 - 1) (by omega) (by omega)
  rw [c1] at g6
  have l6 := ld_pl11 (ld_of b5 x6)
  obtain ⟨H7, lv, g7, x7, q7, _⟩ := Path_is (q5.ext x6) v w (m := 18014398509481984 - 1) (by omega) (by omega)
  rw [c2 v w (by omega) (by omega)] at q7
  have xt := (((((x2.tr x3).tr x4).tr x5).tr x6).tr x7)
  obtain ⟨H8, lw, g8, x8, q8, _⟩ := tpath_is (qt.rs.ext xt) hr (v := v) (w := w) (by omega) (by omega) (m := 18014398509481984 - 1) (by omega) (by omega)
  have h6 := path_le6 (p := q) (v := v) (w := w)
  rw [c2 v w (by omega) (by omega)] at h6
  have g9 := same14_is (q7.rs.ext x8) q8.rs (m := 18014398509481984 - 1) (by omega) (by omega)
  rw [decide_eq_true rfl] at g9
  have e0 : ((0 : Int) == 0) = true := rfl
  refine lvl_ex1 (pk_no rfl rfl) (by omega) ⟨H8, ?_, trivial⟩
  rw [f12_eq]
  unfold f12
  simp -implicitDefEqProofs only [r_opt, r_ret, ob_some, ifB_true, iteV_true, iteV_false, r_gdt, r_gdt2, r_gdtf, r_gdtf2, r_gdff, r_gdff2, r_gdft, r_gdft2, r_gdu, r_gdu2, pick_t, pick_f, ext_0, ext_1, x_newB, r_nil, r_fAddr, Nat.zero_add, b_lss, b_leq, b_gtr, b_geq, b_eql, b_neq, u_not, Bool.not_true, Bool.not_false, oneOf_one, oneOf_two, again_normal, again_exit, again_ret, Bool.and_true, g1, g2, g3, plZ_is, cp, a1, l0, a2, b1, b2, g5, e0, l5, g6, l6, g7, g8, g9]
end
end Go.Proofs.Ytdobnaldfmpimaa
