/-
  PARTS OF THIS CLAIM'S PROOF, laid together by a program of mine out of texts written from templates.
-/
import Derived.Test.YtdobnaldfmpimaaAbsM2
set_option linter.unusedSectionVars false
set_option linter.unusedSimpArgs false
set_option linter.unusedVariables false
set_option maxRecDepth 100000
namespace Go.Proofs.Ytdobnaldfmpimaa
open Go.Abs
section
variable {H : Heap} {m : Nat} {p : PlanD} {ev wv nv : Value}
end
theorem Sl.rs' {α : Type} {el : α → List Value} {e : TypeId} {sz b : Nat} {G : Heap} {u : Value} {xs : List α} (hsz : ∀ x, (el x).length = sz) (h2 : Sl G u sz b (xs.map el)) (h4 : u = .slice none 0 0 ∨ ∃ c, u = .slice (some ⟨c, 0, none⟩) xs.length xs.length) : Rs el e G u xs := by
  rcases h4 with rfl | ⟨c, rfl⟩
  · have h0 : xs = [] := by
      have := h2.len
      have hl : lenSl (Value.slice none 0 0) = some (.int .i64 0) := rfl
      rw [hl] at this
      simp at this
      exact List.length_eq_zero_iff.mp (by omega)
    subst h0
    exact .inl ⟨rfl, rfl⟩
  · exact h2.rs hsz (c := c) (.inr rfl)
end Go.Proofs.Ytdobnaldfmpimaa

set_option linter.unusedSectionVars false
set_option linter.unusedSimpArgs false
set_option linter.unusedVariables false
set_option maxRecDepth 100000
namespace Go.Proofs.Ytdobnaldfmpimaa
open Go.Abs
section
variable {H H0 : Heap} {m : Nat} {p : PlanD} {ev wv nv : Value}
def tab (n : Nat) (F : Nat → Nat → Int) : List (List Int) := (List.range n).map fun v => (List.range n).map (F v)
theorem tab_at {n : Nat} {F : Nat → Nat → Int} {v : Nat} (h : v < n) : (tab n F)[v]? = some ((List.range n).map (F v)) := by
  unfold tab
  rw [List.getElem?_map, List.getElem?_range h]
  rfl
theorem tab_len (n : Nat) (F : Nat → Nat → Int) : (tab n F).length = n := by simp [tab]
theorem tab_ext {n : Nat} {F G : Nat → Nat → Int} (h : ∀ v w, v < n → w < n → F v w = G v w) : tab n F = tab n G := by
  unfold tab
  refine List.map_congr_left fun v hv => List.map_congr_left fun w hw => ?_
  exact h v w (List.mem_range.mp hv) (List.mem_range.mp hw)
theorem tab_set {n : Nat} {F : Nat → Nat → Int} {v w : Nat} (hv : v < n) (hw : w < n) (x : Int) : (tab n F).set v (((List.range n).map (F v)).set w x) = tab n fun v' w' => if v' = v ∧ w' = w then x else F v' w' := by
  apply List.ext_getElem?
  intro i
  by_cases hi : i < n
  · rw [tab_at hi, List.getElem?_set]
    by_cases hvi : v = i
    · subst hvi
      rw [if_pos rfl, if_pos (by rw [tab_len]; exact hv)]
      congr 1
      apply List.ext_getElem?
      intro j
      by_cases hj : j < n
      · rw [List.getElem?_map, List.getElem?_range hj, List.getElem?_set]
        by_cases hwj : w = j
        · subst hwj
          rw [if_pos rfl, if_pos (by simp; exact hw)]
          simp
        · rw [if_neg hwj, List.getElem?_map, List.getElem?_range hj]
          simp only [Option.map_some, true_and]
          rw [if_neg (Ne.symm hwj)]
      · rw [List.getElem?_eq_none (by simp; omega), List.getElem?_eq_none (by simp; omega)]
    · rw [if_neg hvi, tab_at hi]
      congr 1
      refine List.map_congr_left fun j _ => ?_
      rw [if_neg (by omega)]
  · rw [List.getElem?_eq_none (by simp [tab]; omega), List.getElem?_eq_none (by simp [tab]; omega)]
theorem RowsA.set {N : List (List Int)} (h : RowsA H0 H nv N wv) {v w : Nat} {r : List Int} (hr : N[v]? = some r) (hw : w < r.length) (x : Int) :
    ∃ a u a2 c rest, iAddr 1 nv (.int .i64 (v : Nat)) = some a ∧ ld1 a H = some (u, H) ∧ lenSl u = some (.int .i64 r.length) ∧ iAddr 1 u (.int .i64 (w : Nat)) = some a2 ∧ stN 1 a2 (.int .i64 x) H = some (undef, H.set c (rowB (r.set w x) rest)) ∧ RowsA H0 (H.set c (rowB (r.set w x) rest)) nv (N.set v (r.set w x)) wv ∧
      H[c]? = some (rowB r rest) ∧ ¬ home wv c ∧ H0.length ≤ c := by
  obtain ⟨us, hi, ha⟩ := h
  have hvl := (List.getElem?_eq_some_iff.mp hr).1
  obtain ⟨s, hs⟩ : ∃ s, us[v]? = some s := ⟨_, List.getElem?_eq_getElem (by rw [hi.len]; exact hvl)⟩
  have hrow := hi.el v s r hs hr
  obtain ⟨b, o, g1, _, g3⟩ := hi.row.rs.at_ sC_len hs .i64
  have g4 : ld1 (.pointer (some ⟨b, o, none⟩)) H = some (s.1, H) := (g3 H rfl).2.1 0 _ rfl
  have hlen := hrow.len
  obtain ⟨hcs, ⟨hv, h0⟩ | ⟨c, cap, rest, hv, h1, h2, h3⟩⟩ := id hrow
  · rw [h0] at hw; exact absurd hw (Nat.not_lt_zero _)
  · have hb : H[c]? = some (rowB r rest) := by rw [h3, inC_flat]; rfl
    have hcl := (List.getElem?_eq_some_iff.mp hb).1
    have hhome : home s.1 c := ⟨0, _, _, hv⟩
    have hac := ha s (List.mem_of_getElem? hs) c hhome
    have new : Iw (H.set c (rowB (r.set w x) rest)) s.1 (r.set w x) := by
      refine ⟨by rw [inC_flat]; simp, .inr ⟨c, cap, rest, by rw [List.length_set]; exact hv, by rw [List.length_set]; exact h1, by rw [List.length_set]; exact h2, ?_⟩⟩
      rw [List.getElem?_set_self hcl, inC_flat]
      rfl
    refine ⟨_, s.1, .pointer (some ⟨c, w, none⟩), c, rest, g1, g4, hlen, ?_, st_row x hb hw, ⟨us, ⟨?_, by rw [List.length_set]; exact hi.len, fun j u xs hu hxs => ?_, hi.ap⟩, ha⟩, hb, hac.1, hac.2⟩
    · rw [hv]
      have := ia (c := c) (o := 0) (cap := cap) hw
      rw [Nat.zero_add] at this
      exact this
    · refine hi.row.keep fun b hb' => List.getElem?_set_ne fun hh => ?_
      subst hh
      obtain ⟨cs, hc⟩ := hi.row.blk hb'
      rw [hb] at hc
      simp [rowB] at hc
    · by_cases hj : j = v
      · subst hj
        rw [hs] at hu
        cases hu
        rw [List.getElem?_set_self hvl] at hxs
        cases hxs
        exact new
      · rw [List.getElem?_set_ne (Ne.symm hj)] at hxs
        refine (hi.el j u xs hu hxs).keep fun b hb' => List.getElem?_set_ne fun hh => ?_
        subst hh
        rcases Nat.lt_or_gt_of_ne hj with h | h
        · exact hi.ap j v u s h hu hs _ hb' hhome
        · exact hi.ap v j s u h hs hu _ hhome hb'
structure PA (H0 H : Heap) (a : Nat) (p : PlanD) (ev wv nv : Value) : Prop where
  ext : Ext H0 H
  blk : H[a]? = some (plB p ev wv nv)
  ha : H0.length ≤ a
  e : Ew H ev p.edges
  w : Iw H wv p.weights
  nx : RowsA H0 H nv p.next wv
  be : p.edges.length ≤ 1000
  bw : p.weights.length ≤ 1000
  bn : p.next.length ≤ 1000
variable {a : Nat}
theorem PA.pv (h : PA H0 H a p ev wv nv) : PV H p ev wv nv := ⟨h.e.rs, h.w.rs, h.nx.rw.rows, by have := h.be; omega, by have := h.bw; omega, by have := h.bn; omega⟩
theorem PA.on {H' : Heap} (h : PA H0 H a p ev wv nv) (he : Ext H H') : PA H0 H' a p ev wv nv :=
  ⟨h.ext.tr he, ld_of h.blk he, h.ha, h.e.keep fun b hb => he.2 b (h.e.lt hb) id, h.w.keep fun b hb => he.2 b (h.w.lt hb) id, h.nx.ext he, h.be, h.bw, h.bn⟩
theorem PA.set (h : PA H0 H a p ev wv nv) {n : Nat} {F : Nat → Nat → Int} (hp : p.next = tab n F) {v w : Nat} (hv : v < n) (hw : w < n) (x : Int) :
    ∃ a1 u a2 H', iAddr 1 nv (.int .i64 (v : Nat)) = some a1 ∧ ld1 a1 H = some (u, H) ∧ lenSl u = some (.int .i64 n) ∧ iAddr 1 u (.int .i64 (w : Nat)) = some a2 ∧ stN 1 a2 (.int .i64 x) H = some (undef, H') ∧ PA H0 H' a { p with next := tab n fun v' w' => if v' = v ∧ w' = w then x else F v' w' } ev wv nv := by
  have hr : p.next[v]? = some ((List.range n).map (F v)) := by rw [hp]; exact tab_at hv
  obtain ⟨a1, u, a2, c, rest, g1, g2, g3, g4, g5, g6, g7, g8, g9⟩ := h.nx.set hr (w := w) (by simp; exact hw) x
  rw [hp, tab_set hv hw] at g6
  have other : ∀ b, b ≠ c → (H.set c (rowB (((List.range n).map (F v)).set w x) rest))[b]? = H[b]? := fun b hb => List.getElem?_set_ne (Ne.symm hb)
  refine ⟨a1, u, a2, _, g1, g2, by rw [g3]; simp, g4, g5, ⟨⟨by rw [List.length_set]; exact h.ext.1, fun b hb _ => ?_⟩, ?_, h.ha, ?_, ?_, g6, h.be, h.bw, by rw [tab_len]; have := h.bn; rw [hp, tab_len] at this; exact this⟩⟩
  · rw [other b (by omega), h.ext.2 b hb id]
  · have hac : a ≠ c := fun hh => by
      subst hh
      have := h.blk
      rw [g7] at this
      simp [rowB, plB] at this
    rw [other a hac]
    exact h.blk
  · refine h.e.keep fun b hb => other b fun hh => ?_
    subst hh
    obtain ⟨cs, hc⟩ := h.e.blk hb
    rw [g7] at hc
    simp [rowB] at hc
  · exact h.w.keep fun b hb => other b fun hh => g8 (hh ▸ hb)
theorem PA.row (h : PA H0 H a p ev wv nv) {n : Nat} {F : Nat → Nat → Int} (hp : p.next = tab n F) {v : Nat} (hv : v < n) : ∃ a1 u, iAddr 1 nv (.int .i64 (v : Nat)) = some a1 ∧ ld1 a1 H = some (u, H) ∧ lenSl u = some (.int .i64 n) := by
  have hr : p.next[v]? = some ((List.range n).map (F v)) := by rw [hp]; exact tab_at hv
  obtain ⟨a1, u, g1, g2, g3⟩ := h.nx.rw.rows.at_ hr .i64
  exact ⟨a1, u, g1, g2, by rw [g3.len]; simp⟩
theorem made_pa {H2 : Heap} {nodes room more joined : Nat} {next : List Nat} (h : RowsA H0 H2 nv (mkP nodes room more joined next).next wv) (hx : Ext H0 H2) (he : Ew H2 ev (mkP nodes room more joined next).edges) (hw : Iw H2 wv (mkP nodes room more joined next).weights) :
    PA H0 (H2 ++ [plB (mkP nodes room more joined next) ev wv nv]) H2.length (mkP nodes room more joined next) ev wv nv := by
  have x2 : Ext H2 (H2 ++ [plB (mkP nodes room more joined next) ev wv nv]) := Fr.app _ _ _
  have := mk_e15 nodes room more joined next
  have hn := mkN_is nodes
  exact ⟨hx.tr x2, at_last _ _, hx.1, he.on _, hw.on _, h.ext x2, by omega, by simp [mkP]; omega, by simp [mkP]; omega⟩
def ringF (F : Nat → Nat → Int) (i j v w : Nat) : Int := if (v < i ∨ (v = i ∧ w < j)) ∧ v ≠ w then (((v + 1) % 3 : Nat) : Int) else F v w
def ringP (on : Bool) : PlanD := if on = true then { mkP 1 0 0 7 [] with next := tab 3 fun v w => if v ≠ w then (((v + 1) % 3 : Nat) : Int) else w } else mkP 1 0 0 7 []
theorem ring_loop1 {i : Nat} (hi : i < 3) {K : Ex → K (Value × Heap)} {q0 : PlanD} {rb : Nat} (hm : 100 < m) {Q : Heap → Value → Prop} :
    ∀ (q j k : Nat) (H : Heap), 3 - j = q → j ≤ 3 → q < k → PA H0 H a { q0 with next := tab 3 (ringF (fun _ w => (w : Int)) i j) } ev wv nv →
    (∀ H', PA H0 H' a { q0 with next := tab 3 (ringF (fun _ w => (w : Int)) i 3) } ev wv nv → ∀ (x1 x5 x6 x7 x8 x9 x10 x11 x12 x13 x14 x15 x16 x17 x18 x19 x20 x21 x22 x23 x24 x25 x26 x27 x28 x29 x30 x31 x32 x33 x34 x35 x36 x37 x38 x39 x40 : Value), ∃ H2 rr, K .normal [(.bool true), x1, (.pointer (some ⟨rb, 0, none⟩)), (.pointer (some ⟨a, 0, none⟩)), (.int .i64 (i + 1 : Nat)), x5, x6, x7, x8, x9, x10, x11, x12, x13, x14, x15, x16, x17, x18, x19, x20, x21, x22, x23, x24, x25, x26, x27, x28, x29, x30, x31, x32, x33, x34, x35, x36, x37, x38, x39, x40] H' = some (rr, H2) ∧ Q H2 rr) → ∀ (x1 x6 x7 x8 x9 x10 x11 x12 x13 x14 x15 x16 x17 x18 x19 x20 x21 x22 x23 x24 x25 x26 x27 x28 x29 x30 x31 x32 x33 x34 x35 x36 x37 x38 x39 x40 : Value),
    ∃ H' rr, loopN k (runCode Try.prog (lvl Try.prog pk12 m) (loopN m) f46_c1) (f46_k1 (lvl Try.prog pk12 m) (loopN m) K) [(.bool true), x1, (.pointer (some ⟨rb, 0, none⟩)), (.pointer (some ⟨a, 0, none⟩)), (.int .i64 (i : Nat)), (.int .i64 (j : Nat)), x6, x7, x8, x9, x10, x11, x12, x13, x14, x15, x16, x17, x18, x19, x20, x21, x22, x23, x24, x25, x26, x27, x28, x29, x30, x31, x32, x33, x34, x35, x36, x37, x38, x39, x40] H = some (rr, H') ∧ Q H' rr := by
  intro q
  induction q with
  | zero =>
    intro j k H hq hj hk hA hK
    intros
    obtain ⟨k, rfl⟩ : ∃ n, k = n + 1 := ⟨k - 1, by omega⟩
    obtain rfl : j = 3 := by omega
    have e : decide (((3 : Nat) : Int) < ((3 : Nat) : Int)) = false := by simp
    have e3 : IntKind.i64.wrap ((i : Int) + 1) = ((i + 1 : Nat) : Int) := by rw [wrap_i64 (by omega) (by omega)]; omega
    have l10 := ld_pl hA.blk 10 _ rfl
    obtain ⟨a1, u, g1, g2, g3⟩ := hA.row rfl hi
    rw [loop_succ, f46_b1_eq]
    unfold f46_b1
    simp -implicitDefEqProofs only [r_opt, r_ret, ob_some, ifB_true, iteV_true, iteV_false, r_gdt, r_gdt2, r_gdtf, r_gdtf2, r_gdff, r_gdff2, r_gdft, r_gdft2, r_gdu, r_gdu2, pick_t, pick_f, ext_0, ext_1, x_newB, r_nil, r_fAddr, Nat.zero_add, b_lss, b_leq, b_gtr, b_geq, b_eql, b_neq, u_not, Bool.not_true, Bool.not_false, oneOf_one, oneOf_two, again_normal, again_exit, again_ret, Bool.and_true, l10, g1, g2, g3, e]
    rw [f46_e1_2_eq]
    unfold f46_e1_2
    simp -implicitDefEqProofs only [r_opt, r_ret, ob_some, ifB_true, iteV_true, iteV_false, r_gdt, r_gdt2, r_gdtf, r_gdtf2, r_gdff, r_gdff2, r_gdft, r_gdft2, r_gdu, r_gdu2, pick_t, pick_f, ext_0, ext_1, x_newB, r_nil, r_fAddr, Nat.zero_add, b_lss, b_leq, b_gtr, b_geq, b_eql, b_neq, u_not, Bool.not_true, Bool.not_false, oneOf_one, oneOf_two, again_normal, again_exit, again_ret, Bool.and_true, b_add, e3]
    exact hK H hA ..
  | succ q ih =>
    intro j k H hq hj hk hA hK
    intros
    obtain ⟨k, rfl⟩ : ∃ n, k = n + 1 := ⟨k - 1, by omega⟩
    have e : decide ((j : Int) < ((3 : Nat) : Int)) = true := decide_eq_true (by omega)
    have e3 : IntKind.i64.wrap ((j : Int) + 1) = ((j + 1 : Nat) : Int) := by rw [wrap_i64 (by omega) (by omega)]; omega
    have e4 : IntKind.i64.wrap ((i : Int) + 1) = ((i + 1 : Nat) : Int) := by rw [wrap_i64 (by omega) (by omega)]; omega
    have e5 := remI (i + 1) 3 3 rfl (by omega)
    have l10 := ld_pl hA.blk 10 _ rfl
    obtain ⟨a0, u0, g1', g2', g3'⟩ := hA.row rfl hi
    obtain ⟨a1, u, a2, H', g1, g2, g3, g4, g5, g6⟩ := hA.set rfl hi (w := j) (by omega) (((i + 1) % 3 : Nat) : Int)
    rw [g1] at g1'
    cases g1'
    rw [g2] at g2'
    cases g2'
    rw [loop_succ, f46_b1_eq]
    unfold f46_b1
    cases c : ((i : Int) != (j : Int)) with
    | true =>
      have hne : i ≠ j := by simp at c; omega
      simp -implicitDefEqProofs only [r_opt, r_ret, ob_some, ifB_true, iteV_true, iteV_false, r_gdt, r_gdt2, r_gdtf, r_gdtf2, r_gdff, r_gdff2, r_gdft, r_gdft2, r_gdu, r_gdu2, pick_t, pick_f, ext_0, ext_1, x_newB, r_nil, r_fAddr, Nat.zero_add, b_lss, b_leq, b_gtr, b_geq, b_eql, b_neq, u_not, Bool.not_true, Bool.not_false, oneOf_one, oneOf_two, again_normal, again_exit, again_ret, Bool.and_true, l10, g1, g2, g3, e, c, b_add, e4, e5, g4, g5, e3]
      refine ih (j + 1) k H' (by omega) (by omega) (by omega) ?_ hK ..
      have : (tab 3 fun v' w' => if v' = i ∧ w' = j then (((i + 1) % 3 : Nat) : Int) else ringF (fun _ w => (w : Int)) i j v' w') = tab 3 (ringF (fun _ w => (w : Int)) i (j + 1)) := tab_ext fun v w hv hw => by
        unfold ringF
        by_cases h1 : v = i ∧ w = j
        · obtain ⟨rfl, rfl⟩ := h1
          rw [if_pos ⟨rfl, rfl⟩, if_pos ⟨.inr ⟨rfl, by omega⟩, hne⟩]
        · rw [if_neg h1]
          by_cases h2 : (v < i ∨ (v = i ∧ w < j)) ∧ v ≠ w
          · rw [if_pos h2, if_pos (by omega)]
          · rw [if_neg h2, if_neg (by omega)]
      rw [← this]
      exact g6
    | false =>
      have hne : i = j := by simp at c; omega
      simp -implicitDefEqProofs only [r_opt, r_ret, ob_some, ifB_true, iteV_true, iteV_false, r_gdt, r_gdt2, r_gdtf, r_gdtf2, r_gdff, r_gdff2, r_gdft, r_gdft2, r_gdu, r_gdu2, pick_t, pick_f, ext_0, ext_1, x_newB, r_nil, r_fAddr, Nat.zero_add, b_lss, b_leq, b_gtr, b_geq, b_eql, b_neq, u_not, Bool.not_true, Bool.not_false, oneOf_one, oneOf_two, again_normal, again_exit, again_ret, Bool.and_true, l10, g1, g2, g3, e, c, b_add, e3]
      refine ih (j + 1) k H (by omega) (by omega) (by omega) ?_ hK ..
      have : tab 3 (ringF (fun _ w => (w : Int)) i j) = tab 3 (ringF (fun _ w => (w : Int)) i (j + 1)) := tab_ext fun v w hv hw => by
        unfold ringF
        by_cases h2 : (v < i ∨ (v = i ∧ w < j)) ∧ v ≠ w
        · rw [if_pos h2, if_pos (by omega)]
        · rw [if_neg h2, if_neg (by omega)]
      rw [← this]
      exact hA
theorem PA.put (h : PA H0 H a p ev wv nv) {rb : Nat} (hrb : H[rb]? = some plZ) {Hb : Heap} (hb : Ext Hb H0) (hl : Hb.length ≤ rb) :
    stN 11 (.pointer (some ⟨rb, 0, none⟩)) (plV p ev wv nv) H = some (undef, H.set rb (plB p ev wv nv)) ∧ ldN 11 (.pointer (some ⟨rb, 0, none⟩)) (H.set rb (plB p ev wv nv)) = some (plV p ev wv nv, H.set rb (plB p ev wv nv)) ∧ PV (H.set rb (plB p ev wv nv)) p ev wv nv ∧ Ext Hb (H.set rb (plB p ev wv nv)) := by
  have hrl := (List.getElem?_eq_some_iff.mp hrb).1
  have hall := h.pv.all
  have st : stN 11 (.pointer (some ⟨rb, 0, none⟩)) (plV p ev wv nv) H = some (undef, H.set rb (plB p ev wv nv)) := by
    have e1 : (plV p ev wv nv).cells.toList = plC p ev wv nv := rfl
    rw [x_stN 11 _ _ _ rfl, hrb, e1]
    unfold plZ
    rw [x_stC _ _ _ _ _ _ (by decide) (by simp [plC]) hall]
    rfl
  have kp : ∀ (b : Nat) (cs : List Value) (e : TypeId), H[b]? = some (.cells cs e .row) → (H.set rb (plB p ev wv nv))[b]? = H[b]? := fun b cs e hb => by
    refine List.getElem?_set_ne fun hh => ?_
    subst hh
    rw [hrb] at hb
    simp [plZ] at hb
  refine ⟨st, ld_pl11 (List.getElem?_set_self hrl), ⟨(h.e.keep fun b hb => ?_).rs, (h.w.keep fun b hb => ?_).rs, ?_, by have := h.be; omega, by have := h.bw; omega, by have := h.bn; omega⟩, set_ext (hb.tr h.ext) hl⟩
  · obtain ⟨cs, hc⟩ := h.e.blk hb
    exact kp b cs _ hc
  · obtain ⟨cs, hc⟩ := h.w.blk hb
    exact kp b cs _ hc
  · obtain ⟨us, hi, _⟩ := h.nx
    refine RowsW.rows ⟨us, hi.keep (fun b hb => ?_) fun u hu b hb => ?_⟩
    · obtain ⟨cs, hc⟩ := hi.row.blk hb
      exact kp b cs _ hc
    · obtain ⟨cs, hc⟩ := hi.blk hu hb
      exact kp b cs _ hc
def Rung (Hb : Heap) (q : PlanD) (H' : Heap) (r : Value) : Prop := ∃ ev wv nv, r = plV q ev wv nv ∧ PV H' q ev wv nv ∧ Ext Hb H'
theorem ring_end {rb : Nat} {q : PlanD} (h : PA H0 H a q ev wv nv) (hrb : H[rb]? = some plZ) {Hb : Heap} (hb : Ext Hb H0) (hl : Hb.length ≤ rb) (x0 x1 x4 x5 x6 x7 x8 x9 x10 x11 x12 x13 x14 x15 x16 x17 x18 x19 x20 x21 x22 x23 x24 x25 x26 x27 x28 x29 x30 x31 x32 x33 x34 x35 x36 x37 x38 x39 x40 : Value) :
    ∃ H' rr, f46_e0_0 (lvl Try.prog pk12 m) (loopN m) x0 x1 (.pointer (some ⟨rb, 0, none⟩)) (.pointer (some ⟨a, 0, none⟩)) x4 x5 x6 x7 x8 x9 x10 x11 x12 x13 x14 x15 x16 x17 x18 x19 x20 x21 x22 x23 x24 x25 x26 x27 x28 x29 x30 x31 x32 x33 x34 x35 x36 x37 x38 x39 x40 H = some (rr, H') ∧ Rung Hb q H' rr := by
  obtain ⟨p1, p2, p3, p4⟩ := h.put hrb hb hl
  have l11 := ld_pl11 h.blk
  unfold f46_e0_0
  simp -implicitDefEqProofs only [r_opt, r_ret, ob_some, ifB_true, iteV_true, iteV_false, r_gdt, r_gdt2, r_gdtf, r_gdtf2, r_gdff, r_gdff2, r_gdft, r_gdft2, r_gdu, r_gdu2, pick_t, pick_f, ext_0, ext_1, x_newB, r_nil, r_fAddr, Nat.zero_add, b_lss, b_leq, b_gtr, b_geq, b_eql, b_neq, u_not, Bool.not_true, Bool.not_false, oneOf_one, oneOf_two, again_normal, again_exit, again_ret, Bool.and_true, l11, p1, p2]
  exact ⟨_, _, rfl, ev, wv, nv, rfl, p3, p4⟩
theorem ring_loop0 {q0 : PlanD} {rb : Nat} (hm : 200 < m) {Hb : Heap} (hb : Ext Hb H0) (hl : Hb.length ≤ rb) (hrb : H0[rb]? = some plZ) :
    ∀ (q i k : Nat) (H : Heap), 3 - i = q → i ≤ 3 → q < k → PA H0 H a { q0 with next := tab 3 (ringF (fun _ w => (w : Int)) i 0) } ev wv nv → ∀ (x1 x5 x6 x7 x8 x9 x10 x11 x12 x13 x14 x15 x16 x17 x18 x19 x20 x21 x22 x23 x24 x25 x26 x27 x28 x29 x30 x31 x32 x33 x34 x35 x36 x37 x38 x39 x40 : Value),
    ∃ H' rr, loopN k (runCode Try.prog (lvl Try.prog pk12 m) (loopN m) f46_c0) (f46_k0 (lvl Try.prog pk12 m) (loopN m)) [(.bool true), x1, (.pointer (some ⟨rb, 0, none⟩)), (.pointer (some ⟨a, 0, none⟩)), (.int .i64 (i : Nat)), x5, x6, x7, x8, x9, x10, x11, x12, x13, x14, x15, x16, x17, x18, x19, x20, x21, x22, x23, x24, x25, x26, x27, x28, x29, x30, x31, x32, x33, x34, x35, x36, x37, x38, x39, x40] H = some (rr, H') ∧ Rung Hb { q0 with next := tab 3 (ringF (fun _ w => (w : Int)) 3 0) } H' rr := by
  intro q
  induction q with
  | zero =>
    intro i k H hq hi hk hA
    intros
    obtain ⟨k, rfl⟩ : ∃ n, k = n + 1 := ⟨k - 1, by omega⟩
    obtain rfl : i = 3 := by omega
    have e : decide (((3 : Nat) : Int) < ((3 : Nat) : Int)) = false := by simp
    have l10 := ld_pl hA.blk 10 _ rfl
    have hlen := hA.pv.n.len
    have h3 : (tab 3 (ringF (fun _ w => (w : Int)) 3 0)).length = 3 := tab_len _ _
    simp only [h3] at hlen
    rw [loop_succ, f46_b0_eq]
    unfold f46_b0
    simp -implicitDefEqProofs only [r_opt, r_ret, ob_some, ifB_true, iteV_true, iteV_false, r_gdt, r_gdt2, r_gdtf, r_gdtf2, r_gdff, r_gdff2, r_gdft, r_gdft2, r_gdu, r_gdu2, pick_t, pick_f, ext_0, ext_1, x_newB, r_nil, r_fAddr, Nat.zero_add, b_lss, b_leq, b_gtr, b_geq, b_eql, b_neq, u_not, Bool.not_true, Bool.not_false, oneOf_one, oneOf_two, again_normal, again_exit, again_ret, Bool.and_true, l10, hlen, e]
    rw [f46_e0_0_eq]
    exact ring_end hA (ld_of hrb hA.ext) hb hl ..
  | succ q ih =>
    intro i k H hq hi hk hA
    intros
    obtain ⟨k, rfl⟩ : ∃ n, k = n + 1 := ⟨k - 1, by omega⟩
    have e : decide ((i : Int) < ((3 : Nat) : Int)) = true := decide_eq_true (by omega)
    have l10 := ld_pl hA.blk 10 _ rfl
    have hlen := hA.pv.n.len
    have h3 : (tab 3 (ringF (fun _ w => (w : Int)) i 0)).length = 3 := tab_len _ _
    simp only [h3] at hlen
    rw [loop_succ, f46_b0_eq]
    unfold f46_b0
    simp -implicitDefEqProofs only [r_opt, r_ret, ob_some, ifB_true, iteV_true, iteV_false, r_gdt, r_gdt2, r_gdtf, r_gdtf2, r_gdff, r_gdff2, r_gdft, r_gdft2, r_gdu, r_gdu2, pick_t, pick_f, ext_0, ext_1, x_newB, r_nil, r_fAddr, Nat.zero_add, b_lss, b_leq, b_gtr, b_geq, b_eql, b_neq, u_not, Bool.not_true, Bool.not_false, oneOf_one, oneOf_two, again_normal, again_exit, again_ret, Bool.and_true, l10, hlen, e]
    refine ring_loop1 (q0 := q0) (rb := rb) (i := i) (by omega) (by omega) (Q := Rung Hb { q0 with next := tab 3 (ringF (fun _ w => (w : Int)) 3 0) }) 3 0 m H (by omega) (by omega) (by omega) hA (fun H' hA' => ?_) ..
    intros
    simp -implicitDefEqProofs only [r_opt, r_ret, ob_some, ifB_true, iteV_true, iteV_false, r_gdt, r_gdt2, r_gdtf, r_gdtf2, r_gdff, r_gdff2, r_gdft, r_gdft2, r_gdu, r_gdu2, pick_t, pick_f, ext_0, ext_1, x_newB, r_nil, r_fAddr, Nat.zero_add, b_lss, b_leq, b_gtr, b_geq, b_eql, b_neq, u_not, Bool.not_true, Bool.not_false, oneOf_one, oneOf_two, again_normal, again_exit, again_ret, Bool.and_true]
    refine ih (i + 1) k H' (by omega) (by omega) (by omega) ?_ ..
    have : tab 3 (ringF (fun _ w => (w : Int)) i 3) = tab 3 (ringF (fun _ w => (w : Int)) (i + 1) 0) := tab_ext fun v w hv hw => by
      unfold ringF
      by_cases h2 : (v < i ∨ (v = i ∧ w < 3)) ∧ v ≠ w
      · rw [if_pos h2, if_pos (by omega)]
      · rw [if_neg h2, if_neg (by omega)]
    rw [← this]
    exact hA'
theorem ring_is (on : Bool) (hm : 300 < m) : ∃ H' rr, lvl Try.prog pk12 m (.func 46) [.bool on] H = some (rr, H') ∧ Rung H (ringP on) H' rr := by
  obtain ⟨H1, hH1⟩ : ∃ H1, H1 = H ++ [plZ] := ⟨_, rfl⟩
  have x1 : Ext H H1 := by rw [hH1]; exact Fr.app _ _ _
  have b1 : H1[H.length]? = some plZ := by rw [hH1]; exact at_last _ _
  obtain ⟨H2, u, g1, hmd⟩ := make_is (H := H1) (m := m - 1) 1 0 0 7 (by omega) (by omega) (by omega) (by omega) (us_nil H1) (by simp) (by simp) (by omega)
  obtain ⟨ev, wv, nv, rfl, x2, hp, he, hw, hra⟩ := hmd.pa
  have cp := pl_copy hp H2
  have hA := made_pa hra x2 he hw
  obtain ⟨H3, hH3⟩ : ∃ H3, H3 = H2 ++ [plB (mkP 1 0 0 7 []) ev wv nv] := ⟨_, rfl⟩
  rw [← hH3] at cp hA
  have z1 : ((1 : Nat) : Int) = 1 := rfl
  have z0 : ((0 : Nat) : Int) = 0 := rfl
  have z7 : ((7 : Nat) : Int) = 7 := rfl
  simp only [z1, z0, z7] at g1
  refine lvl_ex (pk_no rfl rfl) (by omega) ?_
  rw [f46_eq]
  unfold f46
  cases on with
  | true =>
    simp -implicitDefEqProofs only [r_opt, r_ret, ob_some, ifB_true, iteV_true, iteV_false, r_gdt, r_gdt2, r_gdtf, r_gdtf2, r_gdff, r_gdff2, r_gdft, r_gdft2, r_gdu, r_gdu2, pick_t, pick_f, ext_0, ext_1, x_newB, r_nil, r_fAddr, Nat.zero_add, b_lss, b_leq, b_gtr, b_geq, b_eql, b_neq, u_not, Bool.not_true, Bool.not_false, oneOf_one, oneOf_two, again_normal, again_exit, again_ret, Bool.and_true, plZ_is, ← hH1, g1, cp]
    have hst : PA H1 H3 H2.length { mkP 1 0 0 7 [] with next := tab 3 (ringF (fun _ w => (w : Int)) 0 0) } ev wv nv := by
      have : tab 3 (ringF (fun _ w => (w : Int)) 0 0) = (mkP 1 0 0 7 []).next := by decide +kernel
      rw [this]
      exact hA
    have e : ringP true = { mkP 1 0 0 7 [] with next := tab 3 (ringF (fun _ w => (w : Int)) 3 0) } := by
      have : tab 3 (ringF (fun _ w => (w : Int)) 3 0) = tab 3 fun v w => if v ≠ w then (((v + 1) % 3 : Nat) : Int) else w := by decide +kernel
      rw [this]
      rfl
    rw [e]
    exact ring_loop0 (m := m - 1) (by omega) x1 (Nat.le_refl _) b1 3 0 (m - 1) H3 (by omega) (by omega) (by omega) hst ..
  | false =>
    simp -implicitDefEqProofs only [r_opt, r_ret, ob_some, ifB_true, iteV_true, iteV_false, r_gdt, r_gdt2, r_gdtf, r_gdtf2, r_gdff, r_gdff2, r_gdft, r_gdft2, r_gdu, r_gdu2, pick_t, pick_f, ext_0, ext_1, x_newB, r_nil, r_fAddr, Nat.zero_add, b_lss, b_leq, b_gtr, b_geq, b_eql, b_neq, u_not, Bool.not_true, Bool.not_false, oneOf_one, oneOf_two, again_normal, again_exit, again_ret, Bool.and_true, plZ_is, ← hH1, g1, cp]
    obtain ⟨k, hk⟩ : ∃ n, m - 1 = n + 1 := ⟨m - 1 - 1, by omega⟩
    have l10 := ld_pl hA.blk 10 _ rfl
    have hlen := hA.pv.n.len
    have h3 : (mkP 1 0 0 7 []).next.length = 3 := by decide +kernel
    rw [h3] at hlen
    have e : decide (((0 : Nat) : Int) < ((3 : Nat) : Int)) = true := rfl
    have loop : ∀ n m' : Nat, n = m' + 1 → ∀ (x1 x5 x6 x7 x8 x9 x10 x11 x12 x13 x14 x15 x16 x17 x18 x19 x20 x21 x22 x23 x24 x25 x26 x27 x28 x29 x30 x31 x32 x33 x34 x35 x36 x37 x38 x39 x40 : Value), ∃ H' rr, loopN n (runCode Try.prog (lvl Try.prog pk12 (m - 1)) (loopN (m - 1)) f46_c0) (f46_k0 (lvl Try.prog pk12 (m - 1)) (loopN (m - 1))) [(.bool false), x1, (.pointer (some ⟨H.length, 0, none⟩)), (.pointer (some ⟨H2.length, 0, none⟩)), (.int .i64 (0 : Nat)), x5, x6, x7, x8, x9, x10, x11, x12, x13, x14, x15, x16, x17, x18, x19, x20, x21, x22, x23, x24, x25, x26, x27, x28, x29, x30, x31, x32, x33, x34, x35, x36, x37, x38, x39, x40] H3 = some (rr, H') ∧ Rung H (ringP false) H' rr := by
      intro n m' hn
      intros
      subst hn
      rw [loop_succ, f46_b0_eq]
      unfold f46_b0
      simp -implicitDefEqProofs only [r_opt, r_ret, ob_some, ifB_true, iteV_true, iteV_false, r_gdt, r_gdt2, r_gdtf, r_gdtf2, r_gdff, r_gdff2, r_gdft, r_gdft2, r_gdu, r_gdu2, pick_t, pick_f, ext_0, ext_1, x_newB, r_nil, r_fAddr, Nat.zero_add, b_lss, b_leq, b_gtr, b_geq, b_eql, b_neq, u_not, Bool.not_true, Bool.not_false, oneOf_one, oneOf_two, again_normal, again_exit, again_ret, Bool.and_true, l10, hlen, e]
      rw [f46_e0_0_eq]
      exact ring_end hA (ld_of b1 hA.ext) x1 (Nat.le_refl _) ..
    exact loop (m - 1) k hk ..
theorem ring_on : errR (ringP true) = 140 ∧ pathR (ringP true) 0 2 = [0, 1, 2] ∧ (waitsL (ringP true)).length = 6 := by decide +kernel
theorem ring_off : errR (ringP false) = 0 := by decide +kernel
theorem known14_is (hm : 17592186045500 < m) (hm2 : m ≤ 72057594037927936) : ∃ H', lvl Try.prog pk12 m (.func 23) [] H = some (.bool true, H') ∧ Ext H H' := by
  obtain ⟨r1, r2, r3⟩ := ring_on
  obtain ⟨H1, _, g1, ev, wv, nv, rfl, p1, x1⟩ := ring_is (H := H) true (m := m - 1) (by omega)
  obtain ⟨H2, lv, g2, x2, q2, _⟩ := Path_is p1 0 2 (m := m - 1) (by omega) (by omega)
  rw [r2] at q2
  obtain ⟨H3, _, g3, ev3, wv3, nv3, rfl, p3, x3⟩ := ring_is (H := H2) true (m := m - 1) (by omega)
  obtain ⟨H4, g4, x4⟩ := Check_is p3 (m := m - 1) (by omega) (by omega)
  rw [r1] at g4
  obtain ⟨H5, _, g5, ev5, wv5, nv5, rfl, p5, x5⟩ := ring_is (H := H4) false (m := m - 1) (by omega)
  obtain ⟨H6, g6, x6⟩ := Check_is p5 (m := m - 1) (by omega) (by omega)
  rw [ring_off] at g6
  have hx26 := ((x3.tr x4).tr x5).tr x6
  have q6 := q2.rs.ext hx26
  have hlen := q6.len
  obtain ⟨b, o, k1, _, k3⟩ := q6.at_ inC_len (i := 1) (x := 1) rfl .i64
  have k1 : iAddr 1 lv (.int .i64 1) = some (.pointer (some ⟨b, o, none⟩)) := k1
  have k4 : ld1 (.pointer (some ⟨b, o, none⟩)) H6 = some (.int .i64 1, H6) := (k3 H6 rfl).2.1 0 _ rfl
  obtain ⟨H7, _, g7, ev7, wv7, nv7, rfl, p7, x7⟩ := ring_is (H := H6) true (m := m - 1) (by omega)
  obtain ⟨H8, wvv, g8, x8, q8⟩ := Waits_is p7 (m := m - 1) (by omega) (by omega)
  have hl8 := q8.len
  rw [r3] at hl8
  have e1 : ((140 : Int) == 140) = true := rfl
  have e0 : ((0 : Int) == 0) = true := rfl
  have e3 : ((([0, 1, 2] : List Int).length : Int) == 3) = true := rfl
  have e11 : ((1 : Int) == 1) = true := rfl
  have e6 : (((6 : Nat) : Int) == 6) = true := rfl
  have hall := ((x1.tr x2).tr hx26).tr (x7.tr x8)
  refine lvl_ex1 (pk_no rfl rfl) (by omega) ⟨H8, ?_, hall⟩
  rw [f23_eq]
  unfold f23
  simp -implicitDefEqProofs only [r_opt, r_ret, ob_some, ifB_true, iteV_true, iteV_false, r_gdt, r_gdt2, r_gdtf, r_gdtf2, r_gdff, r_gdff2, r_gdft, r_gdft2, r_gdu, r_gdu2, pick_t, pick_f, ext_0, ext_1, x_newB, r_nil, r_fAddr, Nat.zero_add, b_lss, b_leq, b_gtr, b_geq, b_eql, b_neq, u_not, Bool.not_true, Bool.not_false, oneOf_one, oneOf_two, again_normal, again_exit, again_ret, Bool.and_true, g1, g2, g3, g4, e1, g5, g6, e0, hlen, e3, k1, k4, e11, g7, g8, hl8, e6]
end
end Go.Proofs.Ytdobnaldfmpimaa

set_option linter.unusedSectionVars false
set_option linter.unusedSimpArgs false
set_option linter.unusedVariables false
set_option maxRecDepth 100000
namespace Go.Proofs.Ytdobnaldfmpimaa
open Go.Abs
def cpP (n : Nat) (E : List Ed) (N : List (List Int)) : PlanD := ⟨n, E, 1, 1, 1, 1, 1, 1, [1], 0, N⟩
theorem pthW_core {p : PlanD} {n : Nat} {E : List Ed} {N : List (List Int)} (h1 : p.nodes = (n : Int)) (h2 : p.edges = E) (h3 : p.next = N) (w : Int) : ∀ (q : Nat) (l : List Int) (v : Int), pthW p w q l v = pthW (cpP n E N) w q l v
  | 0, _, _ => rfl
  | q + 1, l, v => by
    have e : nx p v w = nx (cpP n E N) v w := by unfold nx cpP; rw [h3]
    unfold pthW
    rw [e, h1, h2, pthW_core h1 h2 h3 w q]
    rfl
theorem core_eq {p : PlanD} {n : Nat} {E : List Ed} {N : List (List Int)} (h : checkOk p = true) (hc : checkOk (cpP n E N) = true) (h1 : p.nodes = (n : Int)) (h2 : p.edges = E) (h3 : p.next = N) :
    (∀ v w, pathL p v w = pathL (cpP n E N) v w) ∧ (∀ v w, pathR p v w = pathR (cpP n E N) v w) ∧ waitsL p = waitsL (cpP n E N) ∧ errR p = errR (cpP n E N) := by
  have a1 : ∀ v w, pathL p v w = pathL (cpP n E N) v w := fun v w => by
    unfold pathL
    rw [pthW_core h1 h2 h3, h1]
    rfl
  have a2 : ∀ v w, pathR p v w = pathR (cpP n E N) v w := fun v w => by
    unfold pathR
    rw [a1, h, hc, h1]
    rfl
  have e : ∀ v w, nx p v w = nx (cpP n E N) v w := fun v w => by unfold nx cpP; rw [h3]
  have e2 : ∀ a b, wt p n a b = wt (cpP n E N) n a b := fun a b => by
    unfold wt
    congr 1
    funext w
    unfold wtAt
    rw [e, e]
  have e3 : hopsOf p = hopsOf (cpP n E N) := by
    unfold hopsOf hopN
    rw [h1, h2]
    rfl
  have a3 : waitsL p = waitsL (cpP n E N) := by
    unfold waitsL
    rw [h, hc, e3, h1]
    simp only [if_true]
    refine List.map_congr_left fun a _ => ?_
    show wrow p n _ a = wrow (cpP n E N) n _ a
    unfold wrow
    simp only [e2]
  refine ⟨a1, a2, a3, ?_⟩
  unfold errR routeOk
  rw [a3, h, hc, h1]
  have : ∀ m, pathsOk p m = pathsOk (cpP n E N) m := fun m => by
    unfold pathsOk
    simp only [a1]
  rw [this]
  rfl
theorem selE_zero : ∀ L : List (Nat × Nat), selE 0 L = []
  | [] => rfl
  | (a, b) :: L => by unfold selE; rw [if_neg (by decide)]; exact selE_zero L
theorem errR_bad {q : PlanD} (h : checkOk q = false) : errR q = 120 := by unfold errR; rw [if_neg (by simp [h])]
theorem pathR_bad {q : PlanD} (h : checkOk q = false) (v w : Int) : pathR q v w = [] := by unfold pathR; rw [if_neg (by simp [h])]
theorem waits_bad {q : PlanD} (h : checkOk q = false) : waitsL q = [] := by unfold waitsL; rw [if_neg (by simp [h])]
theorem b_eqB (a b : Bool) : bin Try.prog .eql 4 (.bool a) (.bool b) = some (.bool (a == b)) := by cases a <;> cases b <;> kernel_rfl
def rows0 (n : Nat) : List (List Int) := tab n fun _ w => (w : Int)
theorem mk_next (nodes room more joined : Nat) : (mkP nodes room more joined []).next = rows0 (mkN nodes) := rfl
theorem none_core (n : Nat) (h : 2 ≤ n ∧ n ≤ 6) : checkOk (cpP n [] (rows0 n)) = true ∧ errR (cpP n [] (rows0 n)) = 140 := by
  have : n = 2 ∨ n = 3 ∨ n = 4 ∨ n = 5 ∨ n = 6 := by omega
  rcases this with rfl | rfl | rfl | rfl | rfl <;> decide +kernel
theorem none_path (n : Nat) (h : 2 ≤ n ∧ n ≤ 6) (v w : Nat) (hv : v < n) (hw : w < n) : (pathR (cpP n [] (rows0 n)) v w).length = if v = w then 1 else 0 := by
  have hc := (none_core n h).1
  unfold pathR
  rw [if_pos ⟨hc, by omega, by show (v : Int) < n; omega, by omega, by show (w : Int) < n; omega⟩]
  unfold pathL
  have hq : (cpP n [] (rows0 n)).nodes.toNat = n := rfl
  rw [hq]
  obtain ⟨k, rfl⟩ : ∃ k, n = k + 1 := ⟨n - 1, by omega⟩
  unfold pthW
  by_cases hvw : v = w
  · rw [if_pos (by omega), if_pos hvw]; rfl
  · rw [if_neg (by omega), if_neg hvw, if_pos (.inr rfl)]
    rfl
section
variable {H : Heap} {m : Nat} {p : PlanD} {ev wv nv : Value}
theorem routeNone_true (nodes room more a b : Nat) (h1 : nodes < 256) (h2 : room < 256) (h3 : more < 256) (h4 : a < 256) (h5 : b < 256) :
    ∃ H', lvl Try.prog pk12 18014398509481984 (.func 10) [.int .u8 nodes, .int .u8 room, .int .u8 more, .int .u8 a, .int .u8 b] H = some (.bool true, H') ∧ True := by
  obtain ⟨H1, u, g1, hmd⟩ := make_is (m := 18014398509481984 - 1) nodes room more 0 h1 h2 h3 (by omega) (us_nil H) (by simp) (by simp) (by omega)
  obtain ⟨ev, wv, nv, rfl, x1, hp⟩ := hmd.pv
  have hok := mk_ok nodes room more 0 []
  have hn2 := mkN_is nodes
  have hE : (mkP nodes room more 0 []).edges = [] := selE_zero _
  have hn : (mkP nodes room more 0 []).nodes = (mkN nodes : Int) := rfl
  obtain ⟨c1, c2, c3, c4⟩ := core_eq hok (none_core (mkN nodes) hn2).1 hn hE (mk_next nodes room more 0)
  obtain ⟨p, hpp⟩ : ∃ p, p = mkP nodes room more 0 [] := ⟨_, rfl⟩
  obtain ⟨n, hnn⟩ : ∃ n, n = mkN nodes := ⟨_, rfl⟩
  rw [← hpp] at hp g1 hok hn c1 c2 c3 c4
  rw [← hnn] at hn hn2 c1 c2 c3 c4
  rw [(none_core n hn2).2] at c4
  have cp := pl_copy hp H1
  obtain ⟨H2, hH2⟩ : ∃ H2, H2 = H1 ++ [plB p ev wv nv] := ⟨_, rfl⟩
  rw [← hH2] at cp
  have x2 : Ext H1 H2 := by rw [hH2]; exact Fr.app _ _ _
  have b2 : H2[H1.length]? = some (plB p ev wv nv) := by rw [hH2]; exact at_last _ _
  have l2 := ld_pl11 b2
  have l0 := ld_pl b2 0 _ rfl
  rw [hn] at l0
  have hp2 := hp.ext x2
  have a1 := fun H => cvU H a h4
  have a2 := remI a n n rfl (by omega)
  have b1 := fun H => cvU H b h5
  have b3 := remI b n n rfl (by omega)
  obtain ⟨v, hv⟩ : ∃ v, v = a % n := ⟨_, rfl⟩
  obtain ⟨w, hw⟩ : ∃ w, w = b % n := ⟨_, rfl⟩
  rw [← hv] at a2
  rw [← hw] at b3
  have hvn : v < n := by rw [hv]; exact Nat.mod_lt _ (by omega)
  have hwn : w < n := by rw [hw]; exact Nat.mod_lt _ (by omega)
  obtain ⟨H3, lv, g3, x3, q3, _⟩ := Path_is hp2 v w (m := 18014398509481984 - 1) (by omega) (by omega)
  have b33 := ld_of b2 x3
  have l3 := ld_pl11 b33
  obtain ⟨H4, g4, x4⟩ := Check_is (hp2.ext x3) (m := 18014398509481984 - 1) (by omega) (by omega)
  rw [c4] at g4
  have b4 := ld_of b33 x4
  have x14 := (x2.tr x3).tr x4
  have s5 := st_pl (q' := { p with lanes := 9 }) (ev' := ev) (wv' := wv) (nv' := nv) (j := 2) (v := .int .i64 9) b4 rfl rfl (by omega) rfl
  obtain ⟨H5, hH5⟩ : ∃ H5, H5 = H4.set H1.length (plB { p with lanes := 9 } ev wv nv) := ⟨_, rfl⟩
  rw [← hH5] at s5
  have x5 : Ext H1 H5 := by rw [hH5]; exact set_ext x14 (Nat.le_refl _)
  have b5 : H5[H1.length]? = some (plB { p with lanes := 9 } ev wv nv) := by rw [hH5]; exact List.getElem?_set_self (List.getElem?_eq_some_iff.mp b4).1
  have hp5 : PV H5 { p with lanes := 9 } ev wv nv := let h := hp.ext x5; ⟨h.e, h.w, h.n, h.be, h.bw, h.bn⟩
  have bad : checkOk { p with lanes := 9 } = false := ckBad (.inl (by unfold numOk; simp [wi]))
  obtain ⟨H6, g6, x6⟩ := known14_is (H := H5) (m := 18014398509481984 - 1) (by omega) (by omega)
  have hlen := q3.len
  rw [c2, none_path n hn2 v w hvn hwn] at hlen
  have b6 := ld_of b5 x6
  have l6 := ld_pl11 b6
  obtain ⟨H7, g7, x7⟩ := Check_is (hp5.ext x6) (m := 18014398509481984 - 1) (by omega) (by omega)
  rw [errR_bad bad] at g7
  have l7 := ld_pl11 (ld_of b6 x7)
  obtain ⟨H8, lv8, g8, x8, q8, _⟩ := Path_is ((hp5.ext x6).ext x7) v v (m := 18014398509481984 - 1) (by omega) (by omega)
  have hl8 := q8.len
  rw [pathR_bad bad] at hl8
  have l8 := ld_pl11 (ld_of (ld_of b6 x7) x8)
  obtain ⟨H9, wv9, g9, x9, q9⟩ := Waits_is (((hp5.ext x6).ext x7).ext x8) (m := 18014398509481984 - 1) (by omega) (by omega)
  have hl9 := q9.len
  rw [waits_bad bad] at hl9
  have e140 : ((140 : Int) == 140) = true := rfl
  have e120 : ((120 : Int) == 120) = true := rfl
  have e0 : ((([] : List Int).length : Int) == 0) = true := rfl
  have e0' : ((([] : List (List Int)).length : Int) == 0) = true := rfl
  have z0 : ((0 : Nat) : Int) = 0 := rfl
  simp only [z0] at g1
  refine lvl_ex1 (pk_no rfl rfl) (by omega) ?_
  rw [f10_eq]
  unfold f10
  refine ⟨H9, ?_, trivial⟩
  by_cases hvw : v = w
  · rw [if_pos hvw] at hlen
    have d1 : (((1 : Nat) : Int) == 1) = true := rfl
    have d2 : ((v : Int) == (w : Int)) = true := by simp [hvw]
    have d3 : (true == true) = true := rfl
    have d4 : decide (((1 : Nat) : Int) ≤ 1) = true := rfl
    simp -implicitDefEqProofs only [r_opt, r_ret, ob_some, ifB_true, iteV_true, iteV_false, r_gdt, r_gdt2, r_gdtf, r_gdtf2, r_gdff, r_gdff2, r_gdft, r_gdft2, r_gdu, r_gdu2, pick_t, pick_f, ext_0, ext_1, x_newB, r_nil, r_fAddr, Nat.zero_add, b_lss, b_leq, b_gtr, b_geq, b_eql, b_neq, u_not, Bool.not_true, Bool.not_false, oneOf_one, oneOf_two, again_normal, again_exit, again_ret, Bool.and_true, g1, plZ_is, cp, a1, l0, a2, b1, b3, l2, g3, l3, g4, s5, g6, e140, hlen, d1, d2, b_eqB, d3, d4, l6, g7, e120, l7, g8, hl8, e0, l8, g9, hl9, e0']
  · rw [if_neg hvw] at hlen
    have d1 : (((0 : Nat) : Int) == 1) = false := rfl
    have d2 : ((v : Int) == (w : Int)) = false := by simp; omega
    have d3 : (false == false) = true := rfl
    have d4 : decide (((0 : Nat) : Int) ≤ 1) = true := rfl
    simp -implicitDefEqProofs only [r_opt, r_ret, ob_some, ifB_true, iteV_true, iteV_false, r_gdt, r_gdt2, r_gdtf, r_gdtf2, r_gdff, r_gdff2, r_gdft, r_gdft2, r_gdu, r_gdu2, pick_t, pick_f, ext_0, ext_1, x_newB, r_nil, r_fAddr, Nat.zero_add, b_lss, b_leq, b_gtr, b_geq, b_eql, b_neq, u_not, Bool.not_true, Bool.not_false, oneOf_one, oneOf_two, again_normal, again_exit, again_ret, Bool.and_true, g1, plZ_is, cp, a1, l0, a2, b1, b3, l2, g3, l3, g4, s5, g6, e140, hlen, d1, d2, b_eqB, d3, d4, l6, g7, e120, l7, g8, hl8, e0, l8, g9, hl9, e0']
end
end Go.Proofs.Ytdobnaldfmpimaa
