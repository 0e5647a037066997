/-
  PLAN: Port, Hops.
-/
import Derived.Test.YtdobnaldfmpimaaAbsPn3
set_option linter.unusedSectionVars false
set_option linter.unusedSimpArgs false
set_option linter.unusedVariables false
set_option maxRecDepth 100000
namespace Go.Proofs.Ytdobnaldfmpimaa
open Go.Abs

def idxI (xs : List Int) (w : Int) : Int := fst (fun j => xs[j]? == some w) xs.length 0
def portOf (es : List Ed) (v w : Int) : Int := if idxI (bes es v) w < 0 then idxI (bes es v) w else idxI (bes es v) w + 1
def hopAt (es : List Ed) (v : Nat) : List Ed := ((bes es v).filter fun w => wi w 0 5).map fun w => ((v : Int), w)
def hopN (p : PlanD) : Nat := (min (max p.nodes 0) 6).toNat
def hopsOf (p : PlanD) : List Ed := (List.range (hopN p)).flatMap (hopAt p.edges)
abbrev Hs (H : Heap) (v : Value) (xs : List Ed) := Rs edC 38 H v xs
abbrev Hw (H : Heap) (v : Value) (xs : List Ed) := Rw edC 38 2 H v xs

theorem dd_mem (z : Int) : ∀ l, z ∈ dd l ↔ z ∈ l
  | [] => Iff.rfl
  | [x] => Iff.rfl
  | x :: y :: r => by
    have ih := dd_mem z (y :: r)
    unfold dd
    split
    · rename_i h
      subst h
      rw [ih]
      simp
    · simp only [List.mem_cons] at ih ⊢
      rw [ih]
theorem dd_pw : ∀ l : List Int, l.Pairwise (· ≤ ·) → (dd l).Pairwise (· < ·)
  | [], _ => List.Pairwise.nil
  | [x], _ => by simp [dd]
  | x :: y :: r, h => by
    obtain ⟨h1, h2⟩ := List.pairwise_cons.mp h
    have ih := dd_pw (y :: r) h2
    unfold dd
    split
    · exact ih
    · rename_i hne
      refine List.pairwise_cons.mpr ⟨fun z hz => ?_, ih⟩
      have hz' := (dd_mem z _).mp hz
      have h3 := h1 y (by simp)
      have h4 : y ≤ z := by
        rcases List.mem_cons.mp hz' with rfl | hz'
        · exact Int.le_refl _
        · exact (List.pairwise_cons.mp h2).1 z hz'
      omega
theorem bes_pw (es : List Ed) (v : Int) : (bes es v).Pairwise (· < ·) := dd_pw _ (srt_pw _)
/-- rising, and between bounds: there are few -/
theorem pw_few : ∀ (l : List Int) (lo hi : Int), l.Pairwise (· < ·) → (∀ x ∈ l, lo ≤ x ∧ x ≤ hi) → lo ≤ hi + 1 → (l.length : Int) ≤ hi + 1 - lo
  | [], lo, hi, _, _, h => by simp; omega
  | x :: r, lo, hi, hp, hb, h => by
    obtain ⟨h1, h2⟩ := List.pairwise_cons.mp hp
    have hx := hb x (by simp)
    have := pw_few r (x + 1) hi h2 (fun y hy => ⟨by have := h1 y hy; omega, (hb y (by simp [hy])).2⟩) (by omega)
    simp only [List.length_cons]
    omega
theorem filt_few (l : List Int) (h : l.Pairwise (· < ·)) : (l.filter fun w => wi w 0 5).length ≤ 6 := by
  have := pw_few (l.filter fun w => wi w 0 5) 0 5 (h.sublist (List.filter_sublist)) (fun x hx => by
    have := (List.mem_filter.mp hx).2
    unfold wi at this
    simpa using this) (by omega)
  omega

section
variable {H : Heap} {m : Nat} {p : PlanD} {ev wv nv : Value}

theorem fst_at (p : Nat → Bool) : ∀ q i, fst p q i = -1 ∨ ((i : Int) ≤ fst p q i ∧ fst p q i < (i + q : Nat))
  | 0, i => .inl rfl
  | q + 1, i => by
    unfold fst
    split
    · exact .inr ⟨by omega, by omega⟩
    · rcases fst_at p q (i + 1) with h | h
      · exact .inl h
      · exact .inr ⟨by omega, by omega⟩

theorem ixI_loop {v : Value} {xs : List Int} {w : Int} (hx : Is H v xs) (hn : xs.length ≤ 72057594037927936) : ∀ (q i k : Nat), xs.length - i = q → i ≤ xs.length → q < k → ∀ (x2 x3 x4 x5 x6 x9 x10 x11 x12 x13 x14 x15 x16 x17 x18 : Value),
    loopN k (runCode Try.prog (lvl Try.prog pk12 m) (loopN m) f38_c0) (f38_k0 (lvl Try.prog pk12 m) (loopN m)) [v, (.int .i64 w), x2, x3, x4, x5, x6, (.int .i64 xs.length), (.int .i64 (i : Nat)), x9, x10, x11, x12, x13, x14, x15, x16, x17, x18] H = some (.int .i64 (fst (fun j => xs[j]? == some w) q i), H) := by
  intro q

  induction q with
  | zero =>
    intro i k  hr hi hk 
    intros
    obtain ⟨k, rfl⟩ : ∃ n, k = n + 1 := ⟨k - 1, by omega⟩
    obtain rfl : xs.length = i := by omega
    have e : decide (((xs.length : Nat) : Int) < (xs.length : Nat)) = false := by simp
    rw [loop_succ, f38_b0_eq]
    unfold f38_b0
    simp -implicitDefEqProofs only [r_opt, r_ret, ob_some, ifB_true, iteV_true, iteV_false, r_gdt, r_gdt2, r_gdtf, r_gdtf2, r_gdff, r_gdff2, r_gdft, r_gdft2, r_gdu, r_gdu2, pick_t, pick_f, ext_0, ext_1, x_newB, r_nil, r_fAddr, Nat.zero_add, b_lss, b_leq, b_gtr, b_geq, b_eql, b_neq, u_not, Bool.not_true, Bool.not_false, oneOf_one, oneOf_two, again_normal, again_exit, again_ret, Bool.and_true, e]
    rw [f38_e0_0_eq]
    rfl
  | succ q ih =>
    intro i k  hr hi hk 
    intros
    obtain ⟨k, rfl⟩ : ∃ n, k = n + 1 := ⟨k - 1, by omega⟩
    have e : decide ((i : Int) < (xs.length : Nat)) = true := decide_eq_true (by omega)
    have e3 : IntKind.i64.wrap ((i : Int) + 1) = ((i + 1 : Nat) : Int) := by rw [wrap_i64 (by omega) (by omega)]; omega
    have hxi : xs[i]? = some xs[i] := List.getElem?_eq_getElem (by omega)
    obtain ⟨b, o, g1, g2, g3⟩ := hx.at_ inC_len hxi .i64
    have l1 : ld1 (.pointer (some ⟨b, o, none⟩)) H = some (.int .i64 xs[i], H) := (g3 H rfl).2.1 0 _ rfl
    rw [loop_succ, f38_b0_eq]
    unfold f38_b0
    unfold fst
    by_cases h : w = xs[i]
    · have d : (w == xs[i]) = true := by rw [h]; simp
      have d2 : (xs[i]? == some w) = true := by rw [hxi, h]; simp
      simp -implicitDefEqProofs only [r_opt, r_ret, ob_some, ifB_true, iteV_true, iteV_false, r_gdt, r_gdt2, r_gdtf, r_gdtf2, r_gdff, r_gdff2, r_gdft, r_gdft2, r_gdu, r_gdu2, pick_t, pick_f, ext_0, ext_1, x_newB, r_nil, r_fAddr, Nat.zero_add, b_lss, b_leq, b_gtr, b_geq, b_eql, b_neq, u_not, Bool.not_true, Bool.not_false, oneOf_one, oneOf_two, again_normal, again_exit, again_ret, Bool.and_true, e, g1, l1, d]
      rw [f38_r0_eq, if_pos d2]
      rfl
    · have d : (w == xs[i]) = false := by simpa using h
      have d2 : ¬ (xs[i]? == some w) = true := by rw [hxi]; simpa using fun hh => h hh.symm
      simp -implicitDefEqProofs only [r_opt, r_ret, ob_some, ifB_true, iteV_true, iteV_false, r_gdt, r_gdt2, r_gdtf, r_gdtf2, r_gdff, r_gdff2, r_gdft, r_gdft2, r_gdu, r_gdu2, pick_t, pick_f, ext_0, ext_1, x_newB, r_nil, r_fAddr, Nat.zero_add, b_lss, b_leq, b_gtr, b_geq, b_eql, b_neq, u_not, Bool.not_true, Bool.not_false, oneOf_one, oneOf_two, again_normal, again_exit, again_ret, Bool.and_true, e, g1, l1, d, b_add, e3]
      rw [if_neg d2]
      exact ih (i + 1) k (by omega) (by omega) (by omega) ..

theorem ixI_is {v : Value} {xs : List Int} (hx : Is H v xs) (w : Int) (hn : xs.length + 10 < m) (hm : m ≤ 72057594037927936) : lvl Try.prog pk12 m (.func 38) [v, .int .i64 w] H = some (.int .i64 (idxI xs w), H) := by
  have hlen := hx.len
  refine lvl_at (pk_no rfl rfl) (by omega) ?_
  rw [f38_eq]
  unfold f38
  simp -implicitDefEqProofs only [r_opt, r_ret, ob_some, ifB_true, iteV_true, iteV_false, r_gdt, r_gdt2, r_gdtf, r_gdtf2, r_gdff, r_gdff2, r_gdft, r_gdft2, r_gdu, r_gdu2, pick_t, pick_f, ext_0, ext_1, x_newB, r_nil, r_fAddr, Nat.zero_add, b_lss, b_leq, b_gtr, b_geq, b_eql, b_neq, u_not, Bool.not_true, Bool.not_false, oneOf_one, oneOf_two, again_normal, again_exit, again_ret, Bool.and_true, hlen]
  exact ixI_loop hx (by omega) xs.length 0 (m - 1) (by omega) (by omega) (by omega) ..

theorem bes_le (es : List Ed) (v : Int) : (bes es v).length ≤ es.length := by
  have h1 := dd_le (srt (cand es v))
  have h2 := srt_len (cand es v)
  have h3 := cand_le v es
  unfold bes
  omega

theorem port_is (hp : PV H p ev wv nv) (hn : p.edges.length + 50 < m) (hm : m ≤ 72057594037927936) (v w : Int) : ∃ H', lvl Try.prog pk12 m (.func 19) [plV p ev wv nv, .int .i64 v, .int .i64 w] H = some (.int .i64 (portOf p.edges v w), H') ∧ Ext H H' := by
  have hL := hp.be
  obtain ⟨H0, hH0⟩ : ∃ H0, H0 = H ++ [plB p ev wv nv] := ⟨_, rfl⟩
  have x0 : Ext H H0 := by rw [hH0]; exact Fr.app _ _ _
  have b0 : H0[H.length]? = some (plB p ev wv nv) := by rw [hH0]; exact at_last _ _
  have l11 := ld_pl11 b0
  obtain ⟨H1, u, g1, g2, g3, g4⟩ := beside_is (hp.ext x0) (m := m - 1) (by omega) (by omega) v
  have hb := bes_le p.edges v
  have g5 := ixI_is g3.rs w (m := m - 1) (by omega) (by omega)
  refine lvl_ex1 (pk_no rfl rfl) (by omega) ⟨H1, ?_, x0.tr g2⟩
  rw [f19_eq]
  unfold f19 portOf
  by_cases h : idxI (bes p.edges v) w < 0
  · simp -implicitDefEqProofs only [r_opt, r_ret, ob_some, ifB_true, iteV_true, iteV_false, r_gdt, r_gdt2, r_gdtf, r_gdtf2, r_gdff, r_gdff2, r_gdft, r_gdft2, r_gdu, r_gdu2, pick_t, pick_f, ext_0, ext_1, x_newB, r_nil, r_fAddr, Nat.zero_add, b_lss, b_leq, b_gtr, b_geq, b_eql, b_neq, u_not, Bool.not_true, Bool.not_false, oneOf_one, oneOf_two, again_normal, again_exit, again_ret, Bool.and_true, plV_cells, ← hH0, l11, g1, g5, h, decide_true, if_true]
  · have e3 : IntKind.i64.wrap (idxI (bes p.edges v) w + 1) = idxI (bes p.edges v) w + 1 := by
      rcases fst_at (fun j => (bes p.edges v)[j]? == some w) (bes p.edges v).length 0 with hh | ⟨h1, h2⟩
      · unfold idxI at h ⊢
        rw [hh] at h
        omega
      · unfold idxI
        exact wrap_i64 (by omega) (by omega)
    simp -implicitDefEqProofs only [r_opt, r_ret, ob_some, ifB_true, iteV_true, iteV_false, r_gdt, r_gdt2, r_gdtf, r_gdtf2, r_gdff, r_gdff2, r_gdft, r_gdft2, r_gdu, r_gdu2, pick_t, pick_f, ext_0, ext_1, x_newB, r_nil, r_fAddr, Nat.zero_add, b_lss, b_leq, b_gtr, b_geq, b_eql, b_neq, u_not, Bool.not_true, Bool.not_false, oneOf_one, oneOf_two, again_normal, again_exit, again_ret, Bool.and_true, plV_cells, ← hH0, l11, g1, g5, h, decide_false, if_false, b_add, e3]

theorem bHop (a b : Int) : bld Try.prog 38 [(0, .int .i64 a), (1, .int .i64 b)] = some (edV (a, b)) := rfl
theorem bldHop (H : Heap) (y : Ed) : bldSlice 38 2 1 [.int .i64 0, .int .i64 0] [(0, edV y)] H = some (.slice (some ⟨H.length, 0, none⟩) 1 1, H ++ [.cells (edC y) 38 .row]) := rfl
theorem hops_loop1 {H0 : Heap} {a : Nat} {v : Nat} {ws : List Int} {hs : List Ed} {Q : Heap → Value → Prop} {K : Ex → K (Value × Heap)} {bn : Int} {u : Value} (hs1 : hs.length + (ws.filter fun w => wi w 0 5).length ≤ 1000) (hws : ws.length ≤ 72057594037927936) (hm : 0 < m)
    (hK : ∀ (H' : Heap) (acc : Value), Ext H0 H' → Hw H' acc (hs ++ (ws.filter fun w => wi w 0 5).map fun w => ((v : Int), w)) → New H0 acc → ∀ (x0 x2 x4 x5 x6 x7 x8 x9 x12 x13 x14 x15 x16 x17 x18 x19 x20 x21 x22 x23 x24 x25 x26 x27 x28 x29 x30 x31 x32 : Value), ∃ H2 u2, K .normal [x0, (.pointer (some ⟨a, 0, none⟩)), x2, acc, x4, x5, x6, x7, x8, x9, (.int .i64 bn), (.int .i64 (IntKind.i64.wrap ((v : Int) + 1))), x12, x13, x14, x15, x16, x17, x18, x19, x20, x21, x22, x23, x24, x25, x26, x27, x28, x29, x30, x31, x32] H' = some (u2, H2) ∧ Q H2 u2) : ∀ (q i k : Nat) (H1 : Heap) (acc : Value), ws.length - i = q → i ≤ ws.length → q < k → Ext H0 H1 → Is H1 u ws → Apart H1 u acc → Hw H1 acc (hs ++ ((ws.take i).filter fun w => wi w 0 5).map fun w => ((v : Int), w)) → New H0 acc → ∀ (x0 x2 x5 x6 x7 x8 x9 x12 x13 x14 x15 x19 x20 x21 x22 x23 x24 x25 x26 x27 x28 x29 x30 x31 x32 : Value),
    ∃ H' u2, loopN k (runCode Try.prog (lvl Try.prog pk12 m) (loopN m) f18_c1) (f18_k1 (lvl Try.prog pk12 m) (loopN m) K) [x0, (.pointer (some ⟨a, 0, none⟩)), x2, acc, (.int .i64 (v : Nat)), x5, x6, x7, x8, x9, (.int .i64 bn), (.int .i64 (v : Nat)), x12, x13, x14, x15, u, (.int .i64 ws.length), (.int .i64 (i : Nat)), x19, x20, x21, x22, x23, x24, x25, x26, x27, x28, x29, x30, x31, x32] H1 = some (u2, H') ∧ Q H' u2 := by
  intro q

  induction q with
  | zero =>
    intro i k H1 acc hr hi hk he hu hap ha hnew
    intros
    obtain ⟨k, rfl⟩ : ∃ n, k = n + 1 := ⟨k - 1, by omega⟩
    obtain rfl : ws.length = i := by omega
    have e : decide (((ws.length : Nat) : Int) < (ws.length : Nat)) = false := by simp
    rw [List.take_of_length_le (Nat.le_refl _)] at ha
    rw [loop_succ, f18_b1_eq]
    unfold f18_b1
    simp -implicitDefEqProofs only [r_opt, r_ret, ob_some, ifB_true, iteV_true, iteV_false, r_gdt, r_gdt2, r_gdtf, r_gdtf2, r_gdff, r_gdff2, r_gdft, r_gdft2, r_gdu, r_gdu2, pick_t, pick_f, ext_0, ext_1, x_newB, r_nil, r_fAddr, Nat.zero_add, b_lss, b_leq, b_gtr, b_geq, b_eql, b_neq, u_not, Bool.not_true, Bool.not_false, oneOf_one, oneOf_two, again_normal, again_exit, again_ret, Bool.and_true, e]
    rw [f18_e1_2_eq]
    unfold f18_e1_2
    simp -implicitDefEqProofs only [r_opt, r_ret, ob_some, ifB_true, iteV_true, iteV_false, r_gdt, r_gdt2, r_gdtf, r_gdtf2, r_gdff, r_gdff2, r_gdft, r_gdft2, r_gdu, r_gdu2, pick_t, pick_f, ext_0, ext_1, x_newB, r_nil, r_fAddr, Nat.zero_add, b_lss, b_leq, b_gtr, b_geq, b_eql, b_neq, u_not, Bool.not_true, Bool.not_false, oneOf_one, oneOf_two, again_normal, again_exit, again_ret, Bool.and_true, b_add]
    exact hK H1 acc he ha hnew ..
  | succ q ih =>
    intro i k H1 acc hr hi hk he hu hap ha hnew
    intros
    obtain ⟨k, rfl⟩ : ∃ n, k = n + 1 := ⟨k - 1, by omega⟩
    have e : decide ((i : Int) < (ws.length : Nat)) = true := decide_eq_true (by omega)
    have e3 : IntKind.i64.wrap ((i : Int) + 1) = ((i + 1 : Nat) : Int) := by rw [wrap_i64 (by omega) (by omega)]; omega
    have hxi : ws[i]? = some ws[i] := List.getElem?_eq_getElem (by omega)
    obtain ⟨b, o, g1, g2, g3⟩ := hu.at_ inC_len hxi .i64
    have l1 : ld1 (.pointer (some ⟨b, o, none⟩)) H1 = some (.int .i64 ws[i], H1) := (g3 H1 rfl).2.1 0 _ rfl
    have htake : ws.take (i + 1) = ws.take i ++ [ws[i]] := by rw [List.take_add_one, hxi]; rfl
    have w1 := within_is (m := m) hm ws[i] 0 5 H1
    have hfl : ((ws.take i).filter fun w => wi w 0 5).length ≤ (ws.filter fun w => wi w 0 5).length := (List.Sublist.filter _ (List.take_sublist i ws)).length_le
    rw [loop_succ, f18_b1_eq]
    unfold f18_b1
    cases c : wi ws[i] 0 5 with
    | true =>
      rw [c] at w1
      obtain ⟨acc2, H2, t1, t2, t3, t4, t5, t6⟩ := ha.push2 (by' := 16) edC_len edC_all (by decide) ((v : Int), ws[i]) hnew he (roomy_mono (n := 1000000) (by decide) (by simp only [List.length_append, List.length_map]; omega))
      simp -implicitDefEqProofs only [r_opt, r_ret, ob_some, ifB_true, iteV_true, iteV_false, r_gdt, r_gdt2, r_gdtf, r_gdtf2, r_gdff, r_gdff2, r_gdft, r_gdft2, r_gdu, r_gdu2, pick_t, pick_f, ext_0, ext_1, x_newB, r_nil, r_fAddr, Nat.zero_add, b_lss, b_leq, b_gtr, b_geq, b_eql, b_neq, u_not, Bool.not_true, Bool.not_false, oneOf_one, oneOf_two, again_normal, again_exit, again_ret, Bool.and_true, e, g1, l1, w1, bHop, bldHop, t1, b_add, e3]
      refine ih (i + 1) k H2 acc2 (by omega) (by omega) (by omega) t4 (hu.apart hap t5) (hap.up t5 t6) ?_ t3 ..
      · rw [htake, List.filter_append, List.map_append, ← List.append_assoc]
        have : ([ws[i]].filter fun w => wi w 0 5) = [ws[i]] := by rw [List.filter_cons, if_pos c]; rfl
        rw [this]
        exact t2
    | false =>
      rw [c] at w1
      simp -implicitDefEqProofs only [r_opt, r_ret, ob_some, ifB_true, iteV_true, iteV_false, r_gdt, r_gdt2, r_gdtf, r_gdtf2, r_gdff, r_gdff2, r_gdft, r_gdft2, r_gdu, r_gdu2, pick_t, pick_f, ext_0, ext_1, x_newB, r_nil, r_fAddr, Nat.zero_add, b_lss, b_leq, b_gtr, b_geq, b_eql, b_neq, u_not, Bool.not_true, Bool.not_false, oneOf_one, oneOf_two, again_normal, again_exit, again_ret, Bool.and_true, e, g1, l1, w1, b_add, e3]
      refine ih (i + 1) k H1 acc (by omega) (by omega) (by omega) he hu hap ?_ hnew ..
      have : ([ws[i]].filter fun w => wi w 0 5) = [] := by rw [List.filter_cons, if_neg (by rw [c]; decide)]; rfl
      rw [htake, List.filter_append, this, List.append_nil]
      exact ha

theorem hopAt_le (es : List Ed) (v : Nat) : (hopAt es v).length ≤ 6 := by
  have h2 := filt_few _ (bes_pw es v)
  unfold hopAt
  rw [List.length_map]
  omega
theorem flat_bound (es : List Ed) : ∀ i, ((List.range i).flatMap (hopAt es)).length ≤ i * 6
  | 0 => by simp
  | i + 1 => by
    have := flat_bound es i
    have := hopAt_le es i
    rw [List.range_succ, List.flatMap_append, List.length_append, Nat.succ_mul]
    simp only [List.flatMap_cons, List.flatMap_nil, List.append_nil]
    omega
theorem hops_len (p : PlanD) : (hopsOf p).length ≤ 36 := by
  have := flat_bound p.edges (hopN p)
  have h6 : hopN p ≤ 6 := by unfold hopN; omega
  unfold hopsOf
  omega
theorem minI2 (a b : Int) : minmax Try.prog false [.int .i64 a, .int .i64 b] = some (.int .i64 (min a b)) := by
  simp [minmax, flat, purF, pur, Builtin.min_, Builtin.min2, pure, bind, Sem.bind]
  split <;> omega
theorem maxI2 (a b : Int) : minmax Try.prog true [.int .i64 a, .int .i64 b] = some (.int .i64 (max a b)) := by
  simp [minmax, flat, purF, pur, Builtin.max_, Builtin.max2, pure, bind, Sem.bind]
  split <;> omega

theorem hops_loop0 {H0 : Heap} {a : Nat} (hp : PV H0 p ev wv nv) (hn : p.edges.length + 60 < m) (hm : m ≤ 72057594037927936) : ∀ (q i k : Nat) (H1 : Heap) (acc : Value), (hopN p) - i = q → i ≤ (hopN p) → q < k → Ext H0 H1 → H0[a]? = some (plB p ev wv nv) → Hw H1 acc ((List.range i).flatMap (hopAt p.edges)) → New H0 acc → ∀ (x0 x2 x4 x5 x6 x7 x8 x9 x12 x13 x14 x15 x16 x17 x18 x19 x20 x21 x22 x23 x24 x25 x26 x27 x28 x29 x30 x31 x32 : Value),
    ∃ H' u2, loopN k (runCode Try.prog (lvl Try.prog pk12 m) (loopN m) f18_c0) (f18_k0 (lvl Try.prog pk12 m) (loopN m)) [x0, (.pointer (some ⟨a, 0, none⟩)), x2, acc, x4, x5, x6, x7, x8, x9, (.int .i64 (hopN p)), (.int .i64 (i : Nat)), x12, x13, x14, x15, x16, x17, x18, x19, x20, x21, x22, x23, x24, x25, x26, x27, x28, x29, x30, x31, x32] H1 = some (u2, H') ∧ Ext H0 H' ∧ Hw H' u2 (hopsOf p) ∧ New H0 u2 := by
  intro q
  have h6 : hopN p ≤ 6 := by unfold hopN; omega
  induction q with
  | zero =>
    intro i k H1 acc hr hi hk he hb0 ha hnew
    intros
    obtain ⟨k, rfl⟩ : ∃ n, k = n + 1 := ⟨k - 1, by omega⟩
    obtain rfl : (hopN p) = i := by omega
    have e : decide ((((hopN p) : Nat) : Int) < ((hopN p) : Nat)) = false := by simp
    refine ⟨H1, acc, ?_, he, ha, hnew⟩
    rw [loop_succ, f18_b0_eq]
    unfold f18_b0
    simp -implicitDefEqProofs only [r_opt, r_ret, ob_some, ifB_true, iteV_true, iteV_false, r_gdt, r_gdt2, r_gdtf, r_gdtf2, r_gdff, r_gdff2, r_gdft, r_gdft2, r_gdu, r_gdu2, pick_t, pick_f, ext_0, ext_1, x_newB, r_nil, r_fAddr, Nat.zero_add, b_lss, b_leq, b_gtr, b_geq, b_eql, b_neq, u_not, Bool.not_true, Bool.not_false, oneOf_one, oneOf_two, again_normal, again_exit, again_ret, Bool.and_true, e]
    rw [f18_e0_0_eq]
    rfl
  | succ q ih =>
    intro i k H1 acc hr hi hk he hb0 ha hnew
    intros
    obtain ⟨k, rfl⟩ : ∃ n, k = n + 1 := ⟨k - 1, by omega⟩
    have e : decide ((i : Int) < ((hopN p) : Nat)) = true := decide_eq_true (by omega)
    have e3 : IntKind.i64.wrap ((i : Int) + 1) = ((i + 1 : Nat) : Int) := by rw [wrap_i64 (by omega) (by omega)]; omega
    have hb := ld_of hb0 he
    have l11 := ld_pl11 hb
    obtain ⟨H2, u, g1, g2, g3, g4⟩ := beside_is (hp.ext he) (m := m) (by omega) (by omega) (i : Int)
    have hlen := g3.len
    have hble := bes_le p.edges (i : Int)
    have hol := flat_bound p.edges i
    have hff := filt_few _ (bes_pw p.edges (i : Int))
    have hL := hp.be
    have hap : Apart H2 u acc := fun b hb => ⟨g3.lt hb, fun hc => by have := g4 b hb; have := ha.lt hc; omega⟩
    have ha2 : Hw H2 acc ((List.range i).flatMap (hopAt p.edges)) := ha.keep fun b hb => g2.2 b (ha.lt hb) id
    rw [loop_succ, f18_b0_eq]
    unfold f18_b0
    simp -implicitDefEqProofs only [r_opt, r_ret, ob_some, ifB_true, iteV_true, iteV_false, r_gdt, r_gdt2, r_gdtf, r_gdtf2, r_gdff, r_gdff2, r_gdft, r_gdft2, r_gdu, r_gdu2, pick_t, pick_f, ext_0, ext_1, x_newB, r_nil, r_fAddr, Nat.zero_add, b_lss, b_leq, b_gtr, b_geq, b_eql, b_neq, u_not, Bool.not_true, Bool.not_false, oneOf_one, oneOf_two, again_normal, again_exit, again_ret, Bool.and_true, e, l11, g1, hlen]
    refine hops_loop1 (H0 := H0) (a := a) (v := i) (ws := bes p.edges (i : Int)) (hs := (List.range i).flatMap (hopAt p.edges)) (Q := fun H' u2 => Ext H0 H' ∧ Hw H' u2 (hopsOf p) ∧ New H0 u2) (by omega) (by omega) (by omega) ?_ (bes p.edges (i : Int)).length 0 m H2 acc (by omega) (by omega) (by omega) (he.tr g2) g3.rs hap (by simpa using ha2) hnew ..
    intro H3 acc3 k1 k2 k3
    intros
    rw [again_normal, e3]
    refine ih (i + 1) k H3 acc3 (by omega) (by omega) (by omega) k1 hb0 ?_ k3 ..
    rw [List.range_succ, List.flatMap_append]
    simpa [hopAt] using k2

theorem hops_is (hp : PV H p ev wv nv) (hn : p.edges.length + 70 < m) (hm : m ≤ 72057594037927936) : ∃ H' u, lvl Try.prog pk12 m (.func 18) [plV p ev wv nv] H = some (u, H') ∧ Ext H H' ∧ Hw H' u (hopsOf p) ∧ New H u := by
  have hL := hp.be
  obtain ⟨H0, hH0⟩ : ∃ H0, H0 = H ++ [plB p ev wv nv] := ⟨_, rfl⟩
  have x0 : Ext H H0 := by rw [hH0]; exact Fr.app _ _ _
  have b0 : H0[H.length]? = some (plB p ev wv nv) := by rw [hH0]; exact at_last _ _
  have l0 := ld_pl b0 0 _ rfl
  have h6 : hopN p ≤ 6 := by unfold hopN; omega
  have e1 : minmax Try.prog true [.int .i64 p.nodes, .int .i64 0] = some (.int .i64 (max p.nodes 0)) := maxI2 p.nodes 0
  have e2 : minmax Try.prog false [.int .i64 (max p.nodes 0), .int .i64 6] = some (.int .i64 (hopN p)) := by
    rw [minI2]
    congr 2
    unfold hopN
    omega
  obtain ⟨H', u, g1, g2, g3, g4⟩ : ∃ H' u, lvl Try.prog pk12 m (.func 18) [plV p ev wv nv] H = some (u, H') ∧ Ext H0 H' ∧ Hw H' u (hopsOf p) ∧ New H0 u := by
    refine lvl_ex (pk_no rfl rfl) (by omega) ?_
    rw [f18_eq]
    unfold f18
    simp -implicitDefEqProofs only [r_opt, r_ret, ob_some, ifB_true, iteV_true, iteV_false, r_gdt, r_gdt2, r_gdtf, r_gdtf2, r_gdff, r_gdff2, r_gdft, r_gdft2, r_gdu, r_gdu2, pick_t, pick_f, ext_0, ext_1, x_newB, r_nil, r_fAddr, Nat.zero_add, b_lss, b_leq, b_gtr, b_geq, b_eql, b_neq, u_not, Bool.not_true, Bool.not_false, oneOf_one, oneOf_two, again_normal, again_exit, again_ret, Bool.and_true, plV_cells, ← hH0, l0, e1, e2]
    exact hops_loop0 (hp.ext x0) (m := m - 1) (by omega) (by omega) (hopN p) 0 (m - 1) H0 _ (by omega) (by omega) (by omega) (Fr.refl _ _) b0 (Rw.nil (el := edC)) (New.nil _) ..
  exact ⟨H', u, g1, x0.tr g2, g3, fun b hb => Nat.le_trans x0.1 (g4 b hb)⟩

end

end Go.Proofs.Ytdobnaldfmpimaa
