/-
  PARTS OF THIS CLAIM'S PROOF, laid together by a program of mine out of texts written from templates.
-/
import Derived.Test.YtdobnaldfmpimaaAbsM2
set_option linter.unusedSectionVars false
set_option linter.unusedSimpArgs false
set_option linter.unusedVariables false
set_option maxRecDepth 100000
namespace Go.Proofs.Ytdobnaldfmpimaa
open Go.Abs
section
variable {H : Heap} {m : Nat} {p : PlanD} {ev wv nv : Value}
def atV (ab n : Nat) : Value := .slice (some ⟨ab, 0, none⟩) n n
def mkB (ab n : Nat) (wv : Value) : Blk := .cells [atV ab n, wv] 72 .fix
theorem ld_mk0 {mb ab n : Nat} (h : H[mb]? = some (mkB ab n wv)) : ld1 (.pointer (some ⟨mb, 0, none⟩)) H = some (atV ab n, H) := r_ld1 h rfl
theorem ld_mk1 {mb ab n : Nat} (h : H[mb]? = some (mkB ab n wv)) : ld1 (.pointer (some ⟨mb, 1, none⟩)) H = some (wv, H) := r_ld1 h rfl
theorem at_at {ab n k : Nat} (h : k < n) : iAddr 1 (atV ab n) (.int .i64 (k : Nat)) = some (.pointer (some ⟨ab, k, none⟩)) := by
  have := ia (c := ab) (o := 0) (cap := n) h
  rw [Nat.zero_add] at this
  exact this
def Col (C : List Int) : Prop := ∀ x ∈ C, x = 0 ∨ x = 1 ∨ x = 2
theorem Col.set {C : List Int} (h : Col C) (i : Nat) {y : Int} (hy : y = 0 ∨ y = 1 ∨ y = 2) : Col (C.set i y) := fun x hx => by
  rcases List.mem_or_eq_of_mem_set hx with h1 | h1
  · exact h x h1
  · rw [h1]; exact hy
structure Srch (g : List (List Int)) (Hw : Heap) (mb ab : Nat) (wv : Value) (H : Heap) (C : List Int) : Prop where
  ext : Ext Hw H
  mrk : H[mb]? = some (mkB ab g.length wv)
  row : H[ab]? = some (rowB C [])
  len : C.length = g.length
  col : Col C
theorem Srch.st {g : List (List Int)} {Hw : Heap} {mb ab : Nat} {C : List Int} (h : Srch g Hw mb ab wv H C) (hne : mb ≠ ab) (hab : Hw.length ≤ ab) {i : Nat} (hi : i < g.length) (y : Int) (hy : y = 0 ∨ y = 1 ∨ y = 2) :
    ∃ H', stN 1 (.pointer (some ⟨ab, i, none⟩)) (.int .i64 y) H = some (undef, H') ∧ Srch g Hw mb ab wv H' (C.set i y) :=
  ⟨_, st_row y h.row (by have := h.len; omega), set_ext h.ext hab, by rw [List.getElem?_set_ne (Ne.symm hne)]; exact h.mrk, List.getElem?_set_self (List.getElem?_eq_some_iff.mp h.row).1, by simp [h.len], h.col.set i hy⟩
structure Dne (g : List (List Int)) (C C' : List Int) (i : Nat) : Prop where
  i2 : C'[i]? = some 2
  dn : Dn g C'
  gr : ∀ u : Nat, C'[u]? = some 1 ↔ C[u]? = some 1
  bl : ∀ u : Nat, C[u]? = some 2 → C'[u]? = some 2
def RdOk (g : List (List Int)) (Hw : Heap) (mb ab : Nat) (wv : Value) (m q : Nat) : Prop :=
  ∀ (H : Heap) (C : List Int) (i : Nat), Srch g Hw mb ab wv H C → C[i]? = some 0 → Dn g C → (∀ u : Nat, C[u]? = some 1 → Rch g u i) → (∃ L : List Nat, L.length = q ∧ ∀ u : Nat, C[u]? = some 0 → u ∈ L) →
    ∃ H' b C', lvl Try.prog pk12 m (.func 48) [.pointer (some ⟨mb, 0, none⟩), .int .i64 (i : Nat)] H = some (.bool b, H') ∧ Srch g Hw mb ab wv H' C' ∧ (b = true → Cyc g) ∧ (b = false → Dne g C C' i)
theorem round_loop {g : List (List Int)} {Hw : Heap} {mb ab : Nat} {q' : Nat} (hrd : RdOk g Hw mb ab wv m q') (hinn : Inn g) (hne : mb ≠ ab) (hab : Hw.length ≤ ab) {C : List Int} {i : Nat} {r : List Int} {rv : Value} (hr : g[i]? = some r) (hrl : r.length ≤ 100) (hrv : Is Hw rv r) (hgr : ∀ u : Nat, C[u]? = some 1 → Rch g u i) (hci : C[i]? = some 0) {L : List Nat} (hL : L.length = q') :
    ∀ (q j k : Nat) (H : Heap) (D : List Int), r.length - j = q → j ≤ r.length → q < k → Srch g Hw mb ab wv H D → D[i]? = some 1 → Dn g D → (∀ u : Nat, D[u]? = some 1 ↔ (u = i ∨ C[u]? = some 1)) → (∀ u : Nat, C[u]? = some 2 → D[u]? = some 2) → (∀ z ∈ r.take j, D[z.toNat]? = some 2) → (∀ u : Nat, D[u]? = some 0 → u ∈ L) → ∀ (x2 x3 x4 x5 x6 x7 x8 x9 x10 x11 x12 x13 x14 x15 x16 x17 x18 x22 x23 x24 x25 x26 x27 x28 x29 x30 x31 x32 x33 x34 x35 x36 x37 x38 x39 x40 x41 x42 x43 x44 x45 x46 x47 x48 x49 x50 x51 x52 x53 : Value),
    ∃ H' b C', loopN k (runCode Try.prog (lvl Try.prog pk12 m) (loopN m) f48_c0) (f48_k0 (lvl Try.prog pk12 m) (loopN m)) [(.pointer (some ⟨mb, 0, none⟩)), (.int .i64 (i : Nat)), x2, x3, x4, x5, x6, x7, x8, x9, x10, x11, x12, x13, x14, x15, x16, x17, x18, rv, (.int .i64 r.length), (.int .i64 (j : Nat)), x22, x23, x24, x25, x26, x27, x28, x29, x30, x31, x32, x33, x34, x35, x36, x37, x38, x39, x40, x41, x42, x43, x44, x45, x46, x47, x48, x49, x50, x51, x52, x53] H = some (.bool b, H') ∧ Srch g Hw mb ab wv H' C' ∧ (b = true → Cyc g) ∧ (b = false → Dne g C C' i) := by
  intro q
  have hil := (List.getElem?_eq_some_iff.mp hr).1
  induction q with
  | zero =>
    intro j k H D hq hj hk hs hi1 hdn hgray hbl htake hwh
    intros
    obtain ⟨k, rfl⟩ : ∃ n, k = n + 1 := ⟨k - 1, by omega⟩
    obtain rfl : r.length = j := by omega
    have e : decide ((r.length : Int) < (r.length : Int)) = false := by simp
    rw [List.take_of_length_le (Nat.le_refl _)] at htake
    have l0 := ld_mk0 hs.mrk
    have a0 := at_at (ab := ab) hil
    obtain ⟨H', st, hs'⟩ := hs.st hne hab hil 2 (.inr (.inr rfl))
    have fin := hdn.finish hi1 hr (fun k hk => by have := htake k hk; simpa using this)
    refine ⟨H', false, D.set i 2, ?_, hs', fun h => (by cases h), fun _ => ⟨?_, fin, fun u => ?_, fun u hu => ?_⟩⟩
    · rw [loop_succ, f48_b0_eq]
      unfold f48_b0
      simp -implicitDefEqProofs only [r_opt, r_ret, ob_some, ifB_true, iteV_true, iteV_false, r_gdt, r_gdt2, r_gdtf, r_gdtf2, r_gdff, r_gdff2, r_gdft, r_gdft2, r_gdu, r_gdu2, pick_t, pick_f, ext_0, ext_1, x_newB, r_nil, r_fAddr, Nat.zero_add, b_lss, b_leq, b_gtr, b_geq, b_eql, b_neq, u_not, Bool.not_true, Bool.not_false, oneOf_one, oneOf_two, again_normal, again_exit, again_ret, Bool.and_true, e]
      rw [f48_e0_0_eq]
      unfold f48_e0_0
      simp -implicitDefEqProofs only [r_opt, r_ret, ob_some, ifB_true, iteV_true, iteV_false, r_gdt, r_gdt2, r_gdtf, r_gdtf2, r_gdff, r_gdff2, r_gdft, r_gdft2, r_gdu, r_gdu2, pick_t, pick_f, ext_0, ext_1, x_newB, r_nil, r_fAddr, Nat.zero_add, b_lss, b_leq, b_gtr, b_geq, b_eql, b_neq, u_not, Bool.not_true, Bool.not_false, oneOf_one, oneOf_two, again_normal, again_exit, again_ret, Bool.and_true, l0, a0, st]
    · exact List.getElem?_set_self (by have := hs.len; omega)
    · by_cases hui : u = i
      · subst hui
        rw [List.getElem?_set_self (by have := hs.len; omega), hci]
        simp
      · rw [List.getElem?_set_ne (Ne.symm hui), hgray u]
        simp [hui]
    · have := hbl u hu
      by_cases hui : u = i
      · subst hui
        rw [hi1] at this
        cases this
      · rw [List.getElem?_set_ne (Ne.symm hui)]
        exact this
  | succ q ih =>
    intro j k H D hq hj hk hs hi1 hdn hgray hbl htake hwh
    intros
    obtain ⟨k, rfl⟩ : ∃ n, k = n + 1 := ⟨k - 1, by omega⟩
    have e : decide ((j : Int) < (r.length : Int)) = true := decide_eq_true (by omega)
    have e3 : IntKind.i64.wrap ((j : Int) + 1) = ((j + 1 : Nat) : Int) := by rw [wrap_i64 (by omega) (by omega)]; omega
    obtain ⟨z, hz⟩ : ∃ z, r[j]? = some z := ⟨_, List.getElem?_eq_getElem (by omega)⟩
    have hzin := hinn r (List.mem_of_getElem? hr) z (List.mem_of_getElem? hz)
    obtain ⟨b, o, g1, _, g3⟩ := (hrv.ext hs.ext).at_ inC_len hz .i64
    have g4 : ld1 (.pointer (some ⟨b, o, none⟩)) H = some (.int .i64 z, H) := (g3 H rfl).2.1 0 _ rfl
    obtain ⟨t, rfl⟩ : ∃ t : Nat, z = t := ⟨z.toNat, by omega⟩
    have htl : t < g.length := by omega
    have edge : Eg g i t := ⟨r, hr, List.mem_of_getElem? hz⟩
    have l0 := ld_mk0 hs.mrk
    have a0 := at_at (ab := ab) htl
    obtain ⟨x, hx⟩ : ∃ x, D[t]? = some x := ⟨_, List.getElem?_eq_getElem (by have := hs.len; omega)⟩
    have lx := rd_row hs.row hx
    have grs : ∀ u : Nat, D[u]? = some 1 → Rch g u t := fun u hu => by
      rcases (hgray u).mp hu with h | h
      · rw [h]; exact .one edge
      · exact .step (hgr u h) edge
    have htk : r.take (j + 1) = r.take j ++ [(t : Int)] := by rw [List.take_add_one, hz]; rfl
    have next : ∀ (H2 : Heap) (D2 : List Int), Srch g Hw mb ab wv H2 D2 → D2[i]? = some 1 → Dn g D2 → (∀ u : Nat, D2[u]? = some 1 ↔ (u = i ∨ C[u]? = some 1)) → (∀ u : Nat, C[u]? = some 2 → D2[u]? = some 2) → (∀ z ∈ r.take j, D2[z.toNat]? = some 2) → D2[t]? = some 2 → (∀ u : Nat, D2[u]? = some 0 → u ∈ L) → ∀ (x2 x3 x4 x5 x6 x7 x8 x9 x10 x11 x12 x13 x14 x15 x16 x17 x18 x22 x23 x24 x25 x26 x27 x28 x29 x30 x31 x32 x33 x34 x35 x36 x37 x38 x39 x40 x41 x42 x43 x44 x45 x46 x47 x48 x49 x50 x51 x52 x53 : Value),
        ∃ H' b C', loopN k (runCode Try.prog (lvl Try.prog pk12 m) (loopN m) f48_c0) (f48_k0 (lvl Try.prog pk12 m) (loopN m)) [(.pointer (some ⟨mb, 0, none⟩)), (.int .i64 (i : Nat)), x2, x3, x4, x5, x6, x7, x8, x9, x10, x11, x12, x13, x14, x15, x16, x17, x18, rv, (.int .i64 r.length), (.int .i64 (j + 1 : Nat)), x22, x23, x24, x25, x26, x27, x28, x29, x30, x31, x32, x33, x34, x35, x36, x37, x38, x39, x40, x41, x42, x43, x44, x45, x46, x47, x48, x49, x50, x51, x52, x53] H2 = some (.bool b, H') ∧ Srch g Hw mb ab wv H' C' ∧ (b = true → Cyc g) ∧ (b = false → Dne g C C' i) := by
      intro H2 D2 h1 h2 h3 h4 h5 h6 h7 h8
      refine ih (j + 1) k H2 D2 (by omega) (by omega) (by omega) h1 h2 h3 h4 h5 (fun z hz => ?_) h8
      rw [htk, List.mem_append] at hz
      rcases hz with hz | hz
      · exact h6 z hz
      · have : z = (t : Int) := by simpa using hz
        rw [this]
        simpa using h7
    rw [loop_succ, f48_b0_eq]
    unfold f48_b0
    rcases hs.col x (List.mem_of_getElem? hx) with rfl | rfl | rfl
    · have d1 : ((0 : Int) == 1) = false := rfl
      have d2 : ((0 : Int) == 2) = false := rfl
      obtain ⟨H2, bb, D2, c1, hs2, hcyc, hdne⟩ := hrd H D t hs hx hdn grs ⟨L, hL, hwh⟩
      cases bb with
      | true =>
        refine ⟨H2, true, D2, ?_, hs2, fun _ => hcyc rfl, fun h => (by cases h)⟩
        simp -implicitDefEqProofs only [r_opt, r_ret, ob_some, ifB_true, iteV_true, iteV_false, r_gdt, r_gdt2, r_gdtf, r_gdtf2, r_gdff, r_gdff2, r_gdft, r_gdft2, r_gdu, r_gdu2, pick_t, pick_f, ext_0, ext_1, x_newB, r_nil, r_fAddr, Nat.zero_add, b_lss, b_leq, b_gtr, b_geq, b_eql, b_neq, u_not, Bool.not_true, Bool.not_false, oneOf_one, oneOf_two, again_normal, again_exit, again_ret, Bool.and_true, e, g1, g4, l0, a0, lx, d1, d2, c1]
        rw [f48_r0_eq]
        rfl
      | false =>
        have hd := hdne rfl
        simp -implicitDefEqProofs only [r_opt, r_ret, ob_some, ifB_true, iteV_true, iteV_false, r_gdt, r_gdt2, r_gdtf, r_gdtf2, r_gdff, r_gdff2, r_gdft, r_gdft2, r_gdu, r_gdu2, pick_t, pick_f, ext_0, ext_1, x_newB, r_nil, r_fAddr, Nat.zero_add, b_lss, b_leq, b_gtr, b_geq, b_eql, b_neq, u_not, Bool.not_true, Bool.not_false, oneOf_one, oneOf_two, again_normal, again_exit, again_ret, Bool.and_true, e, g1, g4, l0, a0, lx, d1, d2, c1, b_add, e3]
        refine next H2 D2 hs2 ((hd.gr i).mpr hi1) hd.dn (fun u => by rw [hd.gr u]; exact hgray u) (fun u hu => hd.bl u (hbl u hu)) (fun z hz => hd.bl _ (htake z hz)) hd.i2 (fun u hu => hwh u ?_) ..
        have hul : u < g.length := by have := (List.getElem?_eq_some_iff.mp hu).1; have := hs2.len; omega
        obtain ⟨y, hy⟩ : ∃ y, D[u]? = some y := ⟨_, List.getElem?_eq_getElem (by have := hs.len; omega)⟩
        rcases hs.col y (List.mem_of_getElem? hy) with rfl | rfl | rfl
        · exact hy
        · have := (hd.gr u).mpr hy
          rw [hu] at this; cases this
        · have := hd.bl u hy
          rw [hu] at this; cases this
    · have d1 : ((1 : Int) == 1) = true := rfl
      refine ⟨H, true, D, ?_, hs, fun _ => ⟨t, grs t hx⟩, fun h => (by cases h)⟩
      simp -implicitDefEqProofs only [r_opt, r_ret, ob_some, ifB_true, iteV_true, iteV_false, r_gdt, r_gdt2, r_gdtf, r_gdtf2, r_gdff, r_gdff2, r_gdft, r_gdft2, r_gdu, r_gdu2, pick_t, pick_f, ext_0, ext_1, x_newB, r_nil, r_fAddr, Nat.zero_add, b_lss, b_leq, b_gtr, b_geq, b_eql, b_neq, u_not, Bool.not_true, Bool.not_false, oneOf_one, oneOf_two, again_normal, again_exit, again_ret, Bool.and_true, e, g1, g4, l0, a0, lx, d1]
      rw [f48_r0_eq]
      rfl
    · have d1 : ((2 : Int) == 1) = false := rfl
      have d2 : ((2 : Int) == 2) = true := rfl
      simp -implicitDefEqProofs only [r_opt, r_ret, ob_some, ifB_true, iteV_true, iteV_false, r_gdt, r_gdt2, r_gdtf, r_gdtf2, r_gdff, r_gdff2, r_gdft, r_gdft2, r_gdu, r_gdu2, pick_t, pick_f, ext_0, ext_1, x_newB, r_nil, r_fAddr, Nat.zero_add, b_lss, b_leq, b_gtr, b_geq, b_eql, b_neq, u_not, Bool.not_true, Bool.not_false, oneOf_one, oneOf_two, again_normal, again_exit, again_ret, Bool.and_true, e, g1, g4, l0, a0, lx, d1, d2, b_add, e3]
      exact next H D hs hi1 hdn hgray hbl htake hx hwh ..
theorem round_is {g : List (List Int)} {Hw : Heap} {mb ab : Nat} (hg : Rows Hw wv g) (hinn : Inn g) (hrl : ∀ r ∈ g, r.length ≤ 100) (hne : mb ≠ ab) (hab : Hw.length ≤ ab) : ∀ (q m : Nat), 200 + q < m → RdOk g Hw mb ab wv m q := by
  intro q
  induction q with
  | zero =>
    intro m hm H C i hs hi hdn hgr ⟨L, hL, hw⟩
    have := hw i hi
    rw [List.length_eq_zero_iff.mp hL] at this
    cases this
  | succ q ih =>
    intro m hm H C i hs hi hdn hgr ⟨L, hL, hw⟩
    have hil : i < g.length := by have := (List.getElem?_eq_some_iff.mp hi).1; have := hs.len; omega
    have l0 := ld_mk0 hs.mrk
    have a0 := at_at (ab := ab) hil
    obtain ⟨H1, st, hs1⟩ := hs.st hne hab hil 1 (.inr (.inl rfl))
    have l1 := ld_mk1 hs1.mrk
    obtain ⟨r, hr⟩ : ∃ r, g[i]? = some r := ⟨_, List.getElem?_eq_getElem hil⟩
    obtain ⟨a1, rv, g1, g2, g3⟩ := hg.at_ hr .i64
    have g2' := ld1_ext hs1.ext g2
    have hlen := g3.len
    have hr100 := hrl r (List.mem_of_getElem? hr)
    have hcl : C.length = g.length := hs.len
    have other : ∀ u : Nat, u ≠ i → (C.set i 1)[u]? = C[u]? := fun u hu => List.getElem?_set_ne (Ne.symm hu)
    have self : (C.set i 1)[i]? = some 1 := List.getElem?_set_self (by omega)
    obtain ⟨m, rfl⟩ : ∃ n, m = n + 1 := ⟨m - 1, by omega⟩
    rw [lvl_body (pk_no rfl rfl), f48_eq]
    unfold f48
    simp -implicitDefEqProofs only [r_opt, r_ret, ob_some, ifB_true, iteV_true, iteV_false, r_gdt, r_gdt2, r_gdtf, r_gdtf2, r_gdff, r_gdff2, r_gdft, r_gdft2, r_gdu, r_gdu2, pick_t, pick_f, ext_0, ext_1, x_newB, r_nil, r_fAddr, Nat.zero_add, b_lss, b_leq, b_gtr, b_geq, b_eql, b_neq, u_not, Bool.not_true, Bool.not_false, oneOf_one, oneOf_two, again_normal, again_exit, again_ret, Bool.and_true, l0, a0, st, l1, g1, g2', hlen]
    have hiL := hw i hi
    refine round_loop (ih m (by omega)) hinn hne hab hr hr100 g3 hgr hi (L := L.erase i) (by rw [List.length_erase_of_mem hiL]; omega) r.length 0 m H1 (C.set i 1) (by omega) (by omega) (by omega) hs1 self ?_ (fun u => ?_) (fun u hu => ?_) (fun z hz => by simp at hz) (fun u hu => ?_) ..
    · intro u hu
      have hui : u ≠ i := fun hh => by rw [hh, self] at hu; cases hu
      rw [other u hui] at hu
      refine ⟨fun k hk => ?_, (hdn u hu).2⟩
      have := (hdn u hu).1 k hk
      have hki : k ≠ i := fun hh => by rw [hh, hi] at this; cases this
      rw [other k hki]
      exact this
    · by_cases hui : u = i
      · rw [hui, self]; simp
      · rw [other u hui]; simp [hui]
    · have hui : u ≠ i := fun hh => by rw [hh, hi] at hu; cases hu
      rw [other u hui]
      exact hu
    · have hui : u ≠ i := fun hh => by rw [hh, self] at hu; cases hu
      rw [other u hui] at hu
      exact (List.mem_erase_of_ne hui).mpr (hw u hu)
def pathsOk (p : PlanD) (n : Nat) : Bool := (List.range n).all fun v => (List.range n).all fun w => (pathL p v w).isSome
def routeOk (p : PlanD) : Bool := checkOk p && (pathsOk p p.nodes.toNat && !cycB (waitsL p))
def errR (p : PlanD) : Int := if checkOk p = true then (if routeOk p = true then 0 else 140) else 120
theorem Check_loop2 {g : List (List Int)} {Hw : Heap} {mb ab : Nat} (hrd : RdOk g Hw mb ab wv m g.length) (hgl : g.length ≤ 100) (hinn : Inn g) :
    ∀ (q i k : Nat) (H : Heap) (C : List Int), g.length - i = q → i ≤ g.length → q < k → Srch g Hw mb ab wv H C → Dn g C → (∀ u : Nat, C[u]? ≠ some 1) → (∀ u : Nat, u < i → C[u]? = some 2) → ∀ (x0 x1 x2 x3 x4 x5 x6 x7 x9 x10 x11 x12 x13 x14 x15 x16 x17 x18 x19 x20 x21 x22 x23 x24 x25 x26 x27 x28 x29 x30 x31 x32 x33 x34 x35 x36 x37 x38 x39 x40 x41 x42 x43 x44 x45 x46 x47 x48 x49 x50 x51 x52 x55 x56 x57 x58 x59 x60 x61 x62 x63 x64 x65 x66 x67 x68 x69 x70 : Value),
    ∃ H', loopN k (runCode Try.prog (lvl Try.prog pk12 m) (loopN m) f24_c2) (f24_k2 (lvl Try.prog pk12 m) (loopN m)) [x0, x1, x2, x3, x4, x5, x6, x7, (.pointer (some ⟨mb, 0, none⟩)), x9, x10, x11, x12, x13, x14, x15, x16, x17, x18, x19, x20, x21, x22, x23, x24, x25, x26, x27, x28, x29, x30, x31, x32, x33, x34, x35, x36, x37, x38, x39, x40, x41, x42, x43, x44, x45, x46, x47, x48, x49, x50, x51, x52, (.int .i64 g.length), (.int .i64 (i : Nat)), x55, x56, x57, x58, x59, x60, x61, x62, x63, x64, x65, x66, x67, x68, x69, x70] H = some (.int .u16 (if cycB g = true then 140 else 0), H') ∧ Ext Hw H' := by
  intro q
  induction q with
  | zero =>
    intro i k H C hq hi hk hs hdn hgr hbl
    intros
    obtain ⟨k, rfl⟩ : ∃ n, k = n + 1 := ⟨k - 1, by omega⟩
    obtain rfl : g.length = i := by omega
    have e : decide ((g.length : Int) < (g.length : Int)) = false := by simp
    have hno : ¬ cycB g = true := by
      rw [cycB_iff hinn]
      rintro ⟨i, hc⟩
      have hil : i < g.length := by
        cases hc with
        | one e => obtain ⟨r, h1, _⟩ := e; exact (List.getElem?_eq_some_iff.mp h1).1
        | step h1 e =>
          obtain ⟨r, h2, h3⟩ := e
          have := (hinn r (List.mem_of_getElem? h2) i h3).2
          omega
      exact (hdn i (hbl i hil)).2 hc
    rw [if_neg hno, loop_succ, f24_b2_eq]
    unfold f24_b2
    simp -implicitDefEqProofs only [r_opt, r_ret, ob_some, ifB_true, iteV_true, iteV_false, r_gdt, r_gdt2, r_gdtf, r_gdtf2, r_gdff, r_gdff2, r_gdft, r_gdft2, r_gdu, r_gdu2, pick_t, pick_f, ext_0, ext_1, x_newB, r_nil, r_fAddr, Nat.zero_add, b_lss, b_leq, b_gtr, b_geq, b_eql, b_neq, u_not, Bool.not_true, Bool.not_false, oneOf_one, oneOf_two, again_normal, again_exit, again_ret, Bool.and_true, e]
    rw [f24_e2_4_eq]
    exact ⟨H, rfl, hs.ext⟩
  | succ q ih =>
    intro i k H C hq hi hk hs hdn hgr hbl
    intros
    obtain ⟨k, rfl⟩ : ∃ n, k = n + 1 := ⟨k - 1, by omega⟩
    have hil : i < g.length := by omega
    have e : decide ((i : Int) < (g.length : Int)) = true := decide_eq_true (by omega)
    have e3 : IntKind.i64.wrap ((i : Int) + 1) = ((i + 1 : Nat) : Int) := by rw [wrap_i64 (by omega) (by omega)]; omega
    have l0 := ld_mk0 hs.mrk
    have a0 := at_at (ab := ab) hil
    obtain ⟨x, hx⟩ : ∃ x, C[i]? = some x := ⟨_, List.getElem?_eq_getElem (by have := hs.len; omega)⟩
    have lx := rd_row hs.row hx
    rw [loop_succ, f24_b2_eq]
    unfold f24_b2
    rcases hs.col x (List.mem_of_getElem? hx) with rfl | rfl | rfl
    · have d1 : ((0 : Int) == 0) = true := rfl
      obtain ⟨H2, bb, D2, c1, hs2, hcyc, hdne⟩ := hrd H C i hs hx hdn (fun u hu => absurd hu (hgr u)) ⟨List.range g.length, by simp, fun u hu => List.mem_range.mpr (by have := (List.getElem?_eq_some_iff.mp hu).1; have := hs.len; omega)⟩
      cases bb with
      | true =>
        have hyes : cycB g = true := (cycB_iff hinn).mpr (hcyc rfl)
        rw [if_pos hyes]
        simp -implicitDefEqProofs only [r_opt, r_ret, ob_some, ifB_true, iteV_true, iteV_false, r_gdt, r_gdt2, r_gdtf, r_gdtf2, r_gdff, r_gdff2, r_gdft, r_gdft2, r_gdu, r_gdu2, pick_t, pick_f, ext_0, ext_1, x_newB, r_nil, r_fAddr, Nat.zero_add, b_lss, b_leq, b_gtr, b_geq, b_eql, b_neq, u_not, Bool.not_true, Bool.not_false, oneOf_one, oneOf_two, again_normal, again_exit, again_ret, Bool.and_true, e, l0, a0, lx, d1, c1]
        rw [f24_r2_eq]
        exact ⟨H2, rfl, hs2.ext⟩
      | false =>
        have hd := hdne rfl
        simp -implicitDefEqProofs only [r_opt, r_ret, ob_some, ifB_true, iteV_true, iteV_false, r_gdt, r_gdt2, r_gdtf, r_gdtf2, r_gdff, r_gdff2, r_gdft, r_gdft2, r_gdu, r_gdu2, pick_t, pick_f, ext_0, ext_1, x_newB, r_nil, r_fAddr, Nat.zero_add, b_lss, b_leq, b_gtr, b_geq, b_eql, b_neq, u_not, Bool.not_true, Bool.not_false, oneOf_one, oneOf_two, again_normal, again_exit, again_ret, Bool.and_true, e, l0, a0, lx, d1, c1, b_add, e3]
        refine ih (i + 1) k H2 D2 (by omega) (by omega) (by omega) hs2 hd.dn (fun u hu => hgr u ((hd.gr u).mp hu)) (fun u hu => ?_) ..
        by_cases hui : u = i
        · rw [hui]; exact hd.i2
        · exact hd.bl u (hbl u (by omega))
    · exact absurd hx (hgr i)
    · have d1 : ((2 : Int) == 0) = false := rfl
      simp -implicitDefEqProofs only [r_opt, r_ret, ob_some, ifB_true, iteV_true, iteV_false, r_gdt, r_gdt2, r_gdtf, r_gdtf2, r_gdff, r_gdff2, r_gdft, r_gdft2, r_gdu, r_gdu2, pick_t, pick_f, ext_0, ext_1, x_newB, r_nil, r_fAddr, Nat.zero_add, b_lss, b_leq, b_gtr, b_geq, b_eql, b_neq, u_not, Bool.not_true, Bool.not_false, oneOf_one, oneOf_two, again_normal, again_exit, again_ret, Bool.and_true, e, l0, a0, lx, d1, b_add, e3]
      refine ih (i + 1) k H C (by omega) (by omega) (by omega) hs hdn hgr (fun u hu => ?_) ..
      by_cases hui : u = i
      · rw [hui]; exact hx
      · exact hbl u (by omega)
theorem Check_loop1 {n : Nat} (hk : OkP p n) {H0 : Heap} {a v : Nat} (hv : v < n) {K : Ex → K (Value × Heap)} {Q : Heap → Value → Prop} (hp : PV H0 p ev wv nv) (hb : H0[a]? = some (plB p ev wv nv)) (hm : 400 < m) (hm2 : m ≤ 72057594037927936) :
    ∀ (q i k : Nat) (H1 : Heap), n - i = q → i ≤ n → q < k → Ext H0 H1 →
    (∀ H', Ext H0 H' → ((List.range' i q).all fun w => (pathL p v w).isSome) = true → ∀ (x0 x2 x3 x4 x5 x6 x7 x8 x9 x10 x11 x12 x13 x14 x15 x18 x19 x20 x21 x22 x23 x24 x25 x26 x27 x28 x29 x30 x31 x32 x33 x34 x35 x36 x37 x38 x39 x40 x41 x42 x43 x44 x45 x46 x47 x48 x49 x50 x51 x52 x53 x54 x55 x56 x57 x58 x59 x60 x61 x62 x63 x64 x65 x66 x67 x68 x69 x70 : Value), ∃ H2 r, K .normal [x0, (.pointer (some ⟨a, 0, none⟩)), x2, x3, x4, x5, x6, x7, x8, x9, x10, x11, x12, x13, x14, x15, (.int .i64 n), (.int .i64 (v + 1 : Nat)), x18, x19, x20, x21, x22, x23, x24, x25, x26, x27, x28, x29, x30, x31, x32, x33, x34, x35, x36, x37, x38, x39, x40, x41, x42, x43, x44, x45, x46, x47, x48, x49, x50, x51, x52, x53, x54, x55, x56, x57, x58, x59, x60, x61, x62, x63, x64, x65, x66, x67, x68, x69, x70] H' = some (r, H2) ∧ Q H2 r) →
    (∀ H', Ext H0 H' → ((List.range' i q).all fun w => (pathL p v w).isSome) = false → ∀ (x0 x1 x3 x4 x5 x6 x7 x8 x9 x10 x11 x12 x13 x14 x15 x16 x17 x18 x19 x20 x21 x22 x23 x24 x25 x26 x27 x28 x29 x30 x31 x32 x33 x34 x35 x36 x37 x38 x39 x40 x41 x42 x43 x44 x45 x46 x47 x48 x49 x50 x51 x52 x53 x54 x55 x56 x57 x58 x59 x60 x61 x62 x63 x64 x65 x66 x67 x68 x69 x70 : Value), ∃ H2 r, K .ret [x0, x1, (.int .u16 140), x3, x4, x5, x6, x7, x8, x9, x10, x11, x12, x13, x14, x15, x16, x17, x18, x19, x20, x21, x22, x23, x24, x25, x26, x27, x28, x29, x30, x31, x32, x33, x34, x35, x36, x37, x38, x39, x40, x41, x42, x43, x44, x45, x46, x47, x48, x49, x50, x51, x52, x53, x54, x55, x56, x57, x58, x59, x60, x61, x62, x63, x64, x65, x66, x67, x68, x69, x70] H' = some (r, H2) ∧ Q H2 r) → ∀ (x0 x2 x3 x5 x6 x7 x8 x9 x10 x11 x12 x13 x14 x15 x18 x19 x20 x23 x24 x25 x26 x27 x28 x29 x30 x31 x32 x33 x34 x35 x36 x37 x38 x39 x40 x41 x42 x43 x44 x45 x46 x47 x48 x49 x50 x51 x52 x53 x54 x55 x56 x57 x58 x59 x60 x61 x62 x63 x64 x65 x66 x67 x68 x69 x70 : Value),
    ∃ H' r, loopN k (runCode Try.prog (lvl Try.prog pk12 m) (loopN m) f24_c1) (f24_k1 (lvl Try.prog pk12 m) (loopN m) K) [x0, (.pointer (some ⟨a, 0, none⟩)), x2, x3, (.int .i64 (v : Nat)), x5, x6, x7, x8, x9, x10, x11, x12, x13, x14, x15, (.int .i64 n), (.int .i64 (v : Nat)), x18, x19, x20, (.int .i64 n), (.int .i64 (i : Nat)), x23, x24, x25, x26, x27, x28, x29, x30, x31, x32, x33, x34, x35, x36, x37, x38, x39, x40, x41, x42, x43, x44, x45, x46, x47, x48, x49, x50, x51, x52, x53, x54, x55, x56, x57, x58, x59, x60, x61, x62, x63, x64, x65, x66, x67, x68, x69, x70] H1 = some (r, H') ∧ Q H' r := by
  intro q
  have h6 := hk.h6
  induction q with
  | zero =>
    intro i k H1 hr hi hk2 he hK hR
    intros
    obtain ⟨k, rfl⟩ : ∃ n, k = n + 1 := ⟨k - 1, by omega⟩
    have e : decide ((i : Int) < (n : Int)) = false := decide_eq_false (by omega)
    have e3 : IntKind.i64.wrap ((v : Int) + 1) = ((v + 1 : Nat) : Int) := by rw [wrap_i64 (by omega) (by omega)]; omega
    rw [loop_succ, f24_b1_eq]
    unfold f24_b1
    simp -implicitDefEqProofs only [r_opt, r_ret, ob_some, ifB_true, iteV_true, iteV_false, r_gdt, r_gdt2, r_gdtf, r_gdtf2, r_gdff, r_gdff2, r_gdft, r_gdft2, r_gdu, r_gdu2, pick_t, pick_f, ext_0, ext_1, x_newB, r_nil, r_fAddr, Nat.zero_add, b_lss, b_leq, b_gtr, b_geq, b_eql, b_neq, u_not, Bool.not_true, Bool.not_false, oneOf_one, oneOf_two, again_normal, again_exit, again_ret, Bool.and_true, e]
    rw [f24_e1_2_eq]
    unfold f24_e1_2
    simp -implicitDefEqProofs only [r_opt, r_ret, ob_some, ifB_true, iteV_true, iteV_false, r_gdt, r_gdt2, r_gdtf, r_gdtf2, r_gdff, r_gdff2, r_gdft, r_gdft2, r_gdu, r_gdu2, pick_t, pick_f, ext_0, ext_1, x_newB, r_nil, r_fAddr, Nat.zero_add, b_lss, b_leq, b_gtr, b_geq, b_eql, b_neq, u_not, Bool.not_true, Bool.not_false, oneOf_one, oneOf_two, again_normal, again_exit, again_ret, Bool.and_true, b_add, e3]
    exact hK H1 he rfl ..
  | succ q ih =>
    intro i k H1 hr hi hk2 he hK hR
    intros
    obtain ⟨k, rfl⟩ : ∃ n, k = n + 1 := ⟨k - 1, by omega⟩
    have e : decide ((i : Int) < (n : Int)) = true := decide_eq_true (by omega)
    have e3 : IntKind.i64.wrap ((i : Int) + 1) = ((i + 1 : Nat) : Int) := by rw [wrap_i64 (by omega) (by omega)]; omega
    have l11 := ld_pl11 (ld_of hb he)
    obtain ⟨H2, r, g1, x2, lv, rfl, _, _⟩ := path_is hk (hp.ext he) (v := v) (w := i) (by omega) (by omega) (m := m) (by omega) (by omega)
    rw [loop_succ, f24_b1_eq]
    unfold f24_b1
    rw [List.range'_succ, List.all_cons] at hK hR
    cases c : (pathL p v i).isSome with
    | true =>
      rw [c] at g1 hK hR
      simp -implicitDefEqProofs only [r_opt, r_ret, ob_some, ifB_true, iteV_true, iteV_false, r_gdt, r_gdt2, r_gdtf, r_gdtf2, r_gdff, r_gdff2, r_gdft, r_gdft2, r_gdu, r_gdu2, pick_t, pick_f, ext_0, ext_1, x_newB, r_nil, r_fAddr, Nat.zero_add, b_lss, b_leq, b_gtr, b_geq, b_eql, b_neq, u_not, Bool.not_true, Bool.not_false, oneOf_one, oneOf_two, again_normal, again_exit, again_ret, Bool.and_true, e, l11, g1, b_add, e3]
      exact ih (i + 1) k H2 (by omega) (by omega) (by omega) (he.tr x2) (fun H' h1 h2 => hK H' h1 (by simpa using h2)) (fun H' h1 h2 => hR H' h1 (by simpa using h2)) ..
    | false =>
      rw [c] at g1 hR
      simp -implicitDefEqProofs only [r_opt, r_ret, ob_some, ifB_true, iteV_true, iteV_false, r_gdt, r_gdt2, r_gdtf, r_gdtf2, r_gdff, r_gdff2, r_gdft, r_gdft2, r_gdu, r_gdu2, pick_t, pick_f, ext_0, ext_1, x_newB, r_nil, r_fAddr, Nat.zero_add, b_lss, b_leq, b_gtr, b_geq, b_eql, b_neq, u_not, Bool.not_true, Bool.not_false, oneOf_one, oneOf_two, again_normal, again_exit, again_ret, Bool.and_true, e, l11, g1]
      rw [f24_r1_eq]
      unfold f24_r1
      exact hR H2 (he.tr x2) rfl ..
theorem zeros (n : Nat) : Blk.cells (List.replicate n [Value.int .i64 0]).flatten 3 .row = rowB (List.replicate n 0) [] := by
  unfold rowB
  congr 1
  rw [List.append_nil, List.map_replicate]
  induction n with
  | zero => rfl
  | succ n ih => rw [List.replicate_succ, List.replicate_succ, List.flatten_cons, ih]; rfl
theorem bMarks {v : Value} {us : List Value} (h : Rs vC 24 H v us) : bld Try.prog 72 [(1, v)] = some (.agg #[.slice none 0 0, v]) ∧ Blk.cells (Value.agg #[.slice none 0 0, v]).cells.toList 72 .fix = .cells [.slice none 0 0, v] 72 .fix := by
  rcases h with ⟨rfl, _⟩ | ⟨b, o, cap, rfl, _⟩
  · exact ⟨by kernel_rfl, rfl⟩
  · have : ∀ b o n c : Nat, bld Try.prog 72 [(1, .slice (some ⟨b, o, none⟩) n c)] = some (.agg #[.slice none 0 0, .slice (some ⟨b, o, none⟩) n c]) := fun b o n c => by kernel_rfl
    exact ⟨this _ _ _ _, rfl⟩
theorem Check_end {n : Nat} (hk : OkP p n) {H0 : Heap} {a : Nat} (hp : PV H0 p ev wv nv) (hb : H0[a]? = some (plB p ev wv nv)) (hm : 17592186045300 < m) (hm2 : m ≤ 72057594037927936) (x0 x2 x3 x4 x5 x6 x7 x8 x9 x10 x11 x12 x13 x14 x15 x16 x17 x18 x19 x20 x21 x22 x23 x24 x25 x26 x27 x28 x29 x30 x31 x32 x33 x34 x35 x36 x37 x38 x39 x40 x41 x42 x43 x44 x45 x46 x47 x48 x49 x50 x51 x52 x53 x54 x55 x56 x57 x58 x59 x60 x61 x62 x63 x64 x65 x66 x67 x68 x69 x70 : Value) :
    ∃ H', f24_e0_0 (lvl Try.prog pk12 m) (loopN m) x0 (.pointer (some ⟨a, 0, none⟩)) x2 x3 x4 x5 x6 x7 x8 x9 x10 x11 x12 x13 x14 x15 x16 x17 x18 x19 x20 x21 x22 x23 x24 x25 x26 x27 x28 x29 x30 x31 x32 x33 x34 x35 x36 x37 x38 x39 x40 x41 x42 x43 x44 x45 x46 x47 x48 x49 x50 x51 x52 x53 x54 x55 x56 x57 x58 x59 x60 x61 x62 x63 x64 x65 x66 x67 x68 x69 x70 H0 = some (.int .u16 (if cycB (waitsL p) = true then 140 else 0), H') ∧ Ext H0 H' := by
  have l11 := ld_pl11 hb
  obtain ⟨H1, wvv, g1, x1, hg⟩ := Waits_is hp (m := m) (by omega) (by omega)
  have hgl := waits_len p
  obtain ⟨us, hus, hul, _⟩ := id hg
  obtain ⟨bm, bc⟩ := bMarks hus
  obtain ⟨g, hgg⟩ : ∃ g, g = waitsL p := ⟨_, rfl⟩
  have hinn := waits_inn p
  have hrow := waits_row p
  rw [← hgg] at hg hgl hinn hrow ⊢
  obtain ⟨H2, hH2⟩ : ∃ H2, H2 = H1 ++ [Blk.cells [.slice none 0 0, wvv] 72 .fix] := ⟨_, rfl⟩
  have x2 : Ext H1 H2 := by rw [hH2]; exact Fr.app _ _ _
  have b2 : H2[H1.length]? = some (.cells [.slice none 0 0, wvv] 72 .fix) := by rw [hH2]; exact at_last _ _
  have l2 : ld1 (.pointer (some ⟨H1.length, 1, none⟩)) H2 = some (wvv, H2) := r_ld1 b2 rfl
  have hlen := hg.len
  have mk := x_mkSlice (H := H2) 3 1 8 [.int .i64 0] .i64 .i64 (g.length : Int) (by omega) (by omega) (by omega) rfl
  simp only [Int.toNat_natCast] at mk
  rw [zeros] at mk
  obtain ⟨H3, hH3⟩ : ∃ H3, H3 = H2 ++ [rowB (List.replicate g.length 0) []] := ⟨_, rfl⟩
  rw [← hH3] at mk
  have x3 : Ext H2 H3 := by rw [hH3]; exact Fr.app _ _ _
  have b3 := ld_of b2 x3
  have st : stN 1 (.pointer (some ⟨H1.length, 0, none⟩)) (.slice (some ⟨H2.length, 0, none⟩) g.length g.length) H3 = some (undef, H3.set H1.length (mkB H2.length g.length wvv)) := by
    rw [x_stN 1 _ _ _ rfl, b3, x_stC _ _ _ _ _ _ (by decide) (by show 0 + 1 ≤ 2; omega) rfl]
    rfl
  obtain ⟨H4, hH4⟩ : ∃ H4, H4 = H3.set H1.length (mkB H2.length g.length wvv) := ⟨_, rfl⟩
  rw [← hH4] at st
  have h12 : H2.length = H1.length + 1 := by rw [hH2]; simp
  have hs : Srch g H1 H1.length H2.length wvv H4 (List.replicate g.length 0) := by
    refine ⟨?_, ?_, ?_, by simp, fun x hx => .inl (by simp at hx; exact hx.2)⟩
    · rw [hH4]; exact set_ext (x2.tr x3) (Nat.le_refl _)
    · rw [hH4]; exact List.getElem?_set_self (List.getElem?_eq_some_iff.mp b3).1
    · rw [hH4, List.getElem?_set_ne (by omega), hH3]; exact at_last _ _
  have l4 := ld_mk0 hs.mrk
  have hlen4 : lenSl (atV H2.length g.length) = some (.int .i64 g.length) := rfl
  have hrd := round_is hg hinn (fun r hr => by have := hrow r hr; omega) (show H1.length ≠ H2.length by omega) (show H1.length ≤ H2.length by omega) g.length m (by omega)
  unfold f24_e0_0
  simp -implicitDefEqProofs only [r_opt, r_ret, ob_some, ifB_true, iteV_true, iteV_false, r_gdt, r_gdt2, r_gdtf, r_gdtf2, r_gdff, r_gdff2, r_gdft, r_gdft2, r_gdu, r_gdu2, pick_t, pick_f, ext_0, ext_1, x_newB, r_nil, r_fAddr, Nat.zero_add, b_lss, b_leq, b_gtr, b_geq, b_eql, b_neq, u_not, Bool.not_true, Bool.not_false, oneOf_one, oneOf_two, again_normal, again_exit, again_ret, Bool.and_true, l11, g1, bm, bc, ← hH2, l2, hlen, mk, st, l4, hlen4]
  exact Exists.imp (fun H' h => ⟨h.1, x1.tr h.2⟩) (Check_loop2 hrd (by omega) hinn g.length 0 m H4 (List.replicate g.length 0) (by omega) (by omega) (by omega) hs (fun u hu => by simp [List.getElem?_replicate] at hu) (fun u hu => by simp [List.getElem?_replicate] at hu) (fun u hu => absurd hu (by omega)) ..)
theorem Check_loop0 {n : Nat} (hk : OkP p n) {H0 : Heap} {a : Nat} {Q : Heap → Value → Prop} (hp : PV H0 p ev wv nv) (hb : H0[a]? = some (plB p ev wv nv)) (hm : 17592186045300 < m) (hm2 : m ≤ 72057594037927936) (hQ : ∀ H', Ext H0 H' → Q H' (.int .u16 (if pathsOk p n = true ∧ cycB (waitsL p) = false then 0 else 140))) :
    ∀ (q i k : Nat) (H1 : Heap), n - i = q → i ≤ n → q < k → Ext H0 H1 → (∀ v, v < i → ((List.range n).all fun w => (pathL p v w).isSome) = true) → ∀ (x0 x2 x3 x4 x5 x6 x7 x8 x9 x10 x11 x12 x13 x14 x15 x18 x19 x20 x21 x22 x23 x24 x25 x26 x27 x28 x29 x30 x31 x32 x33 x34 x35 x36 x37 x38 x39 x40 x41 x42 x43 x44 x45 x46 x47 x48 x49 x50 x51 x52 x53 x54 x55 x56 x57 x58 x59 x60 x61 x62 x63 x64 x65 x66 x67 x68 x69 x70 : Value),
    ∃ H' r, loopN k (runCode Try.prog (lvl Try.prog pk12 m) (loopN m) f24_c0) (f24_k0 (lvl Try.prog pk12 m) (loopN m)) [x0, (.pointer (some ⟨a, 0, none⟩)), x2, x3, x4, x5, x6, x7, x8, x9, x10, x11, x12, x13, x14, x15, (.int .i64 n), (.int .i64 (i : Nat)), x18, x19, x20, x21, x22, x23, x24, x25, x26, x27, x28, x29, x30, x31, x32, x33, x34, x35, x36, x37, x38, x39, x40, x41, x42, x43, x44, x45, x46, x47, x48, x49, x50, x51, x52, x53, x54, x55, x56, x57, x58, x59, x60, x61, x62, x63, x64, x65, x66, x67, x68, x69, x70] H1 = some (r, H') ∧ Q H' r := by
  intro q
  have h6 := hk.h6
  induction q with
  | zero =>
    intro i k H1 hr hi hk2 he hpre
    intros
    obtain ⟨k, rfl⟩ : ∃ n, k = n + 1 := ⟨k - 1, by omega⟩
    have e : decide ((i : Int) < (n : Int)) = false := decide_eq_false (by omega)
    have hall : pathsOk p n = true := by
      unfold pathsOk
      rw [List.all_eq_true]
      intro v hv
      exact hpre v (by have := List.mem_range.mp hv; omega)
    rw [loop_succ, f24_b0_eq]
    unfold f24_b0
    simp -implicitDefEqProofs only [r_opt, r_ret, ob_some, ifB_true, iteV_true, iteV_false, r_gdt, r_gdt2, r_gdtf, r_gdtf2, r_gdff, r_gdff2, r_gdft, r_gdft2, r_gdu, r_gdu2, pick_t, pick_f, ext_0, ext_1, x_newB, r_nil, r_fAddr, Nat.zero_add, b_lss, b_leq, b_gtr, b_geq, b_eql, b_neq, u_not, Bool.not_true, Bool.not_false, oneOf_one, oneOf_two, again_normal, again_exit, again_ret, Bool.and_true, e]
    rw [f24_e0_0_eq]
    refine Exists.imp (fun H' h => ⟨_, h.1, ?_⟩) (Check_end hk (hp.ext he) (ld_of hb he) hm hm2 ..)
    have := hQ H' (he.tr h.2)
    rw [hall] at this
    cases hc : cycB (waitsL p) with
    | true => rw [hc] at this; simpa using this
    | false => rw [hc] at this; simpa using this
  | succ q ih =>
    intro i k H1 hr hi hk2 he hpre
    intros
    obtain ⟨k, rfl⟩ : ∃ n, k = n + 1 := ⟨k - 1, by omega⟩
    have e : decide ((i : Int) < (n : Int)) = true := decide_eq_true (by omega)
    have b1 := ld_of hb he
    have l0 := ld_pl b1 0 _ rfl
    rw [hk.hn] at l0
    have hrr : ∀ v : Nat, ((List.range' 0 n).all fun w => (pathL p v w).isSome) = ((List.range n).all fun w => (pathL p v w).isSome) := fun v => by rw [List.range_eq_range']
    rw [loop_succ, f24_b0_eq]
    unfold f24_b0
    simp -implicitDefEqProofs only [r_opt, r_ret, ob_some, ifB_true, iteV_true, iteV_false, r_gdt, r_gdt2, r_gdtf, r_gdtf2, r_gdff, r_gdff2, r_gdft, r_gdft2, r_gdu, r_gdu2, pick_t, pick_f, ext_0, ext_1, x_newB, r_nil, r_fAddr, Nat.zero_add, b_lss, b_leq, b_gtr, b_geq, b_eql, b_neq, u_not, Bool.not_true, Bool.not_false, oneOf_one, oneOf_two, again_normal, again_exit, again_ret, Bool.and_true, e, l0]
    refine Check_loop1 hk (v := i) (by omega) (hp.ext he) b1 (Q := Q) (by omega) hm2 n 0 m H1 (by omega) (by omega) (by omega) (Fr.refl _ _) (fun H' hx hall => ?_) (fun H' hx hall => ?_) ..
    · rw [hrr] at hall
      intros
      simp -implicitDefEqProofs only [r_opt, r_ret, ob_some, ifB_true, iteV_true, iteV_false, r_gdt, r_gdt2, r_gdtf, r_gdtf2, r_gdff, r_gdff2, r_gdft, r_gdft2, r_gdu, r_gdu2, pick_t, pick_f, ext_0, ext_1, x_newB, r_nil, r_fAddr, Nat.zero_add, b_lss, b_leq, b_gtr, b_geq, b_eql, b_neq, u_not, Bool.not_true, Bool.not_false, oneOf_one, oneOf_two, again_normal, again_exit, again_ret, Bool.and_true]
      refine ih (i + 1) k H' (by omega) (by omega) (by omega) (he.tr hx) (fun v hv => ?_) ..
      by_cases hvi : v = i
      · rw [hvi]; exact hall
      · exact hpre v (by omega)
    · rw [hrr] at hall
      intros
      simp -implicitDefEqProofs only [r_opt, r_ret, ob_some, ifB_true, iteV_true, iteV_false, r_gdt, r_gdt2, r_gdtf, r_gdtf2, r_gdff, r_gdff2, r_gdft, r_gdft2, r_gdu, r_gdu2, pick_t, pick_f, ext_0, ext_1, x_newB, r_nil, r_fAddr, Nat.zero_add, b_lss, b_leq, b_gtr, b_geq, b_eql, b_neq, u_not, Bool.not_true, Bool.not_false, oneOf_one, oneOf_two, again_normal, again_exit, again_ret, Bool.and_true]
      rw [f24_r0_eq]
      unfold f24_r0
      refine ⟨H', _, rfl, ?_⟩
      have hno : pathsOk p n = false := by
        rw [← Bool.not_eq_true]
        unfold pathsOk
        rw [List.all_eq_true]
        intro hh
        rw [hh i (List.mem_range.mpr (by omega))] at hall
        cases hall
      have := hQ H' (he.tr hx)
      rw [hno] at this
      simpa using this
theorem Check_is (hp : PV H p ev wv nv) (hm : 17592186045400 < m) (hm2 : m ≤ 72057594037927936) :
    ∃ H', lvl Try.prog pk12 m (.func 24) [plV p ev wv nv] H = some (.int .u16 (errR p), H') ∧ Ext H H' := by
  obtain ⟨H0, hH0⟩ : ∃ H0, H0 = H ++ [plB p ev wv nv] := ⟨_, rfl⟩
  have x0 : Ext H H0 := by rw [hH0]; exact Fr.app _ _ _
  have b0 : H0[H.length]? = some (plB p ev wv nv) := by rw [hH0]; exact at_last _ _
  have p0 := hp.ext x0
  have l11 := ld_pl11 b0
  obtain ⟨H1, g1, x1⟩ := check_is p0 (m := m - 1) (by omega) (by omega)
  have b1 := ld_of b0 x1
  have p1 := p0.ext x1
  have main : ∃ H' r, lvl Try.prog pk12 m (.func 24) [plV p ev wv nv] H = some (r, H') ∧ (r = .int .u16 (errR p) ∧ Ext H H') := by
    refine lvl_ex (Q := fun H' r => r = .int .u16 (errR p) ∧ Ext H H') (pk_no rfl rfl) (by omega) ?_
    rw [f24_eq]
    unfold f24
    cases hc : checkOk p with
    | false =>
      rw [hc] at g1
      have en : (errno false != 0) = true := rfl
      have e : errR p = errno false := by unfold errR; rw [if_neg (by simp [hc])]; rfl
      simp -implicitDefEqProofs only [r_opt, r_ret, ob_some, ifB_true, iteV_true, iteV_false, r_gdt, r_gdt2, r_gdtf, r_gdtf2, r_gdff, r_gdff2, r_gdft, r_gdft2, r_gdu, r_gdu2, pick_t, pick_f, ext_0, ext_1, x_newB, r_nil, r_fAddr, Nat.zero_add, b_lss, b_leq, b_gtr, b_geq, b_eql, b_neq, u_not, Bool.not_true, Bool.not_false, oneOf_one, oneOf_two, again_normal, again_exit, again_ret, Bool.and_true, plV_cells, ← hH0, l11, g1, en]
      exact ⟨H1, _, rfl, by rw [e], x0.tr x1⟩
    | true =>
      rw [hc] at g1
      have en : (errno true != 0) = false := rfl
      obtain ⟨n, hk⟩ := ok_of hc
      have h6 := hk.h6
      have l0 := ld_pl b1 0 _ rfl
      rw [hk.hn] at l0
      simp -implicitDefEqProofs only [r_opt, r_ret, ob_some, ifB_true, iteV_true, iteV_false, r_gdt, r_gdt2, r_gdtf, r_gdtf2, r_gdff, r_gdff2, r_gdft, r_gdft2, r_gdu, r_gdu2, pick_t, pick_f, ext_0, ext_1, x_newB, r_nil, r_fAddr, Nat.zero_add, b_lss, b_leq, b_gtr, b_geq, b_eql, b_neq, u_not, Bool.not_true, Bool.not_false, oneOf_one, oneOf_two, again_normal, again_exit, again_ret, Bool.and_true, plV_cells, ← hH0, l11, g1, en, l0]
      refine Check_loop0 hk (Q := fun H' r => r = .int .u16 (errR p) ∧ Ext H H') p1 b1 (m := m - 1) (by omega) (by omega) (fun H' hx => ⟨?_, (x0.tr x1).tr hx⟩) n 0 (m - 1) H1 (by omega) (by omega) (by omega) (Fr.refl _ _) (fun v hv => absurd hv (by omega)) ..
      congr 1
      unfold errR routeOk
      have hq : p.nodes.toNat = n := by rw [hk.hn]; rfl
      rw [if_pos hc, hc, hq]
      cases cycB (waitsL p) <;> cases pathsOk p n <;> simp
  obtain ⟨H', r, h1, rfl, h2⟩ := main
  exact ⟨H', h1, h2⟩
end
end Go.Proofs.Ytdobnaldfmpimaa

set_option linter.unusedSectionVars false
set_option linter.unusedSimpArgs false
set_option linter.unusedVariables false
set_option maxRecDepth 100000
namespace Go.Proofs.Ytdobnaldfmpimaa
open Go.Abs
section
variable {H : Heap} {m : Nat} {p : PlanD} {ev wv nv : Value}
structure Sn (g : List (List Int)) (Hw : Heap) (ab : Nat) (H : Heap) (s : List Int) : Prop where
  ext : Ext Hw H
  row : H[ab]? = some (rowB s [])
  len : s.length = g.length
theorem Sn.st {g : List (List Int)} {Hw : Heap} {ab : Nat} {s : List Int} (h : Sn g Hw ab H s) (hab : Hw.length ≤ ab) {i : Nat} (hi : i < g.length) (y : Int) :
    ∃ H', stN 1 (.pointer (some ⟨ab, i, none⟩)) (.int .i64 y) H = some (undef, H') ∧ Sn g Hw ab H' (s.set i y) :=
  ⟨_, st_row y h.row (by have := h.len; omega), set_ext h.ext hab, List.getElem?_set_self (List.getElem?_eq_some_iff.mp h.row).1, by simp [h.len]⟩
end
end Go.Proofs.Ytdobnaldfmpimaa

set_option linter.unusedSectionVars false
set_option linter.unusedSimpArgs false
set_option linter.unusedVariables false
set_option maxRecDepth 100000
namespace Go.Proofs.Ytdobnaldfmpimaa
open Go.Abs
theorem nat_u8 {a : Int} (h : (Lit.int .u8 a).wf = true) : ∃ n : Nat, a = n ∧ n < 256 := by
  have := wf_u8 h
  exact ⟨a.toNat, by omega, by omega⟩
end Go.Proofs.Ytdobnaldfmpimaa

set_option linter.unusedSectionVars false
set_option linter.unusedSimpArgs false
set_option linter.unusedVariables false
set_option maxRecDepth 100000
namespace Go.Proofs.Ytdobnaldfmpimaa
open Go.Abs
section
variable {H : Heap} {m : Nat} {p : PlanD} {ev wv nv : Value}
end
theorem Sl.rs' {α : Type} {el : α → List Value} {e : TypeId} {sz b : Nat} {G : Heap} {u : Value} {xs : List α} (hsz : ∀ x, (el x).length = sz) (h2 : Sl G u sz b (xs.map el)) (h4 : u = .slice none 0 0 ∨ ∃ c, u = .slice (some ⟨c, 0, none⟩) xs.length xs.length) : Rs el e G u xs := by
  rcases h4 with rfl | ⟨c, rfl⟩
  · have h0 : xs = [] := by
      have := h2.len
      have hl : lenSl (Value.slice none 0 0) = some (.int .i64 0) := rfl
      rw [hl] at this
      simp at this
      exact List.length_eq_zero_iff.mp (by omega)
    subst h0
    exact .inl ⟨rfl, rfl⟩
  · exact h2.rs hsz (c := c) (.inr rfl)
end Go.Proofs.Ytdobnaldfmpimaa

set_option linter.unusedSectionVars false
set_option linter.unusedSimpArgs false
set_option linter.unusedVariables false
set_option maxRecDepth 100000
namespace Go.Proofs.Ytdobnaldfmpimaa
open Go.Abs
section
variable {H H0 : Heap} {m : Nat} {p : PlanD} {ev wv nv : Value}
def tab (n : Nat) (F : Nat → Nat → Int) : List (List Int) := (List.range n).map fun v => (List.range n).map (F v)
theorem tab_at {n : Nat} {F : Nat → Nat → Int} {v : Nat} (h : v < n) : (tab n F)[v]? = some ((List.range n).map (F v)) := by
  unfold tab
  rw [List.getElem?_map, List.getElem?_range h]
  rfl
theorem tab_len (n : Nat) (F : Nat → Nat → Int) : (tab n F).length = n := by simp [tab]
theorem tab_ext {n : Nat} {F G : Nat → Nat → Int} (h : ∀ v w, v < n → w < n → F v w = G v w) : tab n F = tab n G := by
  unfold tab
  refine List.map_congr_left fun v hv => List.map_congr_left fun w hw => ?_
  exact h v w (List.mem_range.mp hv) (List.mem_range.mp hw)
theorem tab_set {n : Nat} {F : Nat → Nat → Int} {v w : Nat} (hv : v < n) (hw : w < n) (x : Int) : (tab n F).set v (((List.range n).map (F v)).set w x) = tab n fun v' w' => if v' = v ∧ w' = w then x else F v' w' := by
  apply List.ext_getElem?
  intro i
  by_cases hi : i < n
  · rw [tab_at hi, List.getElem?_set]
    by_cases hvi : v = i
    · subst hvi
      rw [if_pos rfl, if_pos (by rw [tab_len]; exact hv)]
      congr 1
      apply List.ext_getElem?
      intro j
      by_cases hj : j < n
      · rw [List.getElem?_map, List.getElem?_range hj, List.getElem?_set]
        by_cases hwj : w = j
        · subst hwj
          rw [if_pos rfl, if_pos (by simp; exact hw)]
          simp
        · rw [if_neg hwj, List.getElem?_map, List.getElem?_range hj]
          simp only [Option.map_some, true_and]
          rw [if_neg (Ne.symm hwj)]
      · rw [List.getElem?_eq_none (by simp; omega), List.getElem?_eq_none (by simp; omega)]
    · rw [if_neg hvi, tab_at hi]
      congr 1
      refine List.map_congr_left fun j _ => ?_
      rw [if_neg (by omega)]
  · rw [List.getElem?_eq_none (by simp [tab]; omega), List.getElem?_eq_none (by simp [tab]; omega)]
theorem RowsA.set {N : List (List Int)} (h : RowsA H0 H nv N wv) {v w : Nat} {r : List Int} (hr : N[v]? = some r) (hw : w < r.length) (x : Int) :
    ∃ a u a2 c rest, iAddr 1 nv (.int .i64 (v : Nat)) = some a ∧ ld1 a H = some (u, H) ∧ lenSl u = some (.int .i64 r.length) ∧ iAddr 1 u (.int .i64 (w : Nat)) = some a2 ∧ stN 1 a2 (.int .i64 x) H = some (undef, H.set c (rowB (r.set w x) rest)) ∧ RowsA H0 (H.set c (rowB (r.set w x) rest)) nv (N.set v (r.set w x)) wv ∧
      H[c]? = some (rowB r rest) ∧ ¬ home wv c ∧ H0.length ≤ c := by
  obtain ⟨us, hi, ha⟩ := h
  have hvl := (List.getElem?_eq_some_iff.mp hr).1
  obtain ⟨s, hs⟩ : ∃ s, us[v]? = some s := ⟨_, List.getElem?_eq_getElem (by rw [hi.len]; exact hvl)⟩
  have hrow := hi.el v s r hs hr
  obtain ⟨b, o, g1, _, g3⟩ := hi.row.rs.at_ sC_len hs .i64
  have g4 : ld1 (.pointer (some ⟨b, o, none⟩)) H = some (s.1, H) := (g3 H rfl).2.1 0 _ rfl
  have hlen := hrow.len
  obtain ⟨hcs, ⟨hv, h0⟩ | ⟨c, cap, rest, hv, h1, h2, h3⟩⟩ := id hrow
  · rw [h0] at hw; exact absurd hw (Nat.not_lt_zero _)
  · have hb : H[c]? = some (rowB r rest) := by rw [h3, inC_flat]; rfl
    have hcl := (List.getElem?_eq_some_iff.mp hb).1
    have hhome : home s.1 c := ⟨0, _, _, hv⟩
    have hac := ha s (List.mem_of_getElem? hs) c hhome
    have new : Iw (H.set c (rowB (r.set w x) rest)) s.1 (r.set w x) := by
      refine ⟨by rw [inC_flat]; simp, .inr ⟨c, cap, rest, by rw [List.length_set]; exact hv, by rw [List.length_set]; exact h1, by rw [List.length_set]; exact h2, ?_⟩⟩
      rw [List.getElem?_set_self hcl, inC_flat]
      rfl
    refine ⟨_, s.1, .pointer (some ⟨c, w, none⟩), c, rest, g1, g4, hlen, ?_, st_row x hb hw, ⟨us, ⟨?_, by rw [List.length_set]; exact hi.len, fun j u xs hu hxs => ?_, hi.ap⟩, ha⟩, hb, hac.1, hac.2⟩
    · rw [hv]
      have := ia (c := c) (o := 0) (cap := cap) hw
      rw [Nat.zero_add] at this
      exact this
    · refine hi.row.keep fun b hb' => List.getElem?_set_ne fun hh => ?_
      subst hh
      obtain ⟨cs, hc⟩ := hi.row.blk hb'
      rw [hb] at hc
      simp [rowB] at hc
    · by_cases hj : j = v
      · subst hj
        rw [hs] at hu
        cases hu
        rw [List.getElem?_set_self hvl] at hxs
        cases hxs
        exact new
      · rw [List.getElem?_set_ne (Ne.symm hj)] at hxs
        refine (hi.el j u xs hu hxs).keep fun b hb' => List.getElem?_set_ne fun hh => ?_
        subst hh
        rcases Nat.lt_or_gt_of_ne hj with h | h
        · exact hi.ap j v u s h hu hs _ hb' hhome
        · exact hi.ap v j s u h hs hu _ hhome hb'
structure PA (H0 H : Heap) (a : Nat) (p : PlanD) (ev wv nv : Value) : Prop where
  ext : Ext H0 H
  blk : H[a]? = some (plB p ev wv nv)
  ha : H0.length ≤ a
  e : Ew H ev p.edges
  w : Iw H wv p.weights
  nx : RowsA H0 H nv p.next wv
  be : p.edges.length ≤ 1000
  bw : p.weights.length ≤ 1000
  bn : p.next.length ≤ 1000
variable {a : Nat}
theorem PA.pv (h : PA H0 H a p ev wv nv) : PV H p ev wv nv := ⟨h.e.rs, h.w.rs, h.nx.rw.rows, by have := h.be; omega, by have := h.bw; omega, by have := h.bn; omega⟩
theorem PA.on {H' : Heap} (h : PA H0 H a p ev wv nv) (he : Ext H H') : PA H0 H' a p ev wv nv :=
  ⟨h.ext.tr he, ld_of h.blk he, h.ha, h.e.keep fun b hb => he.2 b (h.e.lt hb) id, h.w.keep fun b hb => he.2 b (h.w.lt hb) id, h.nx.ext he, h.be, h.bw, h.bn⟩
theorem PA.set (h : PA H0 H a p ev wv nv) {n : Nat} {F : Nat → Nat → Int} (hp : p.next = tab n F) {v w : Nat} (hv : v < n) (hw : w < n) (x : Int) :
    ∃ a1 u a2 H', iAddr 1 nv (.int .i64 (v : Nat)) = some a1 ∧ ld1 a1 H = some (u, H) ∧ lenSl u = some (.int .i64 n) ∧ iAddr 1 u (.int .i64 (w : Nat)) = some a2 ∧ stN 1 a2 (.int .i64 x) H = some (undef, H') ∧ PA H0 H' a { p with next := tab n fun v' w' => if v' = v ∧ w' = w then x else F v' w' } ev wv nv := by
  have hr : p.next[v]? = some ((List.range n).map (F v)) := by rw [hp]; exact tab_at hv
  obtain ⟨a1, u, a2, c, rest, g1, g2, g3, g4, g5, g6, g7, g8, g9⟩ := h.nx.set hr (w := w) (by simp; exact hw) x
  rw [hp, tab_set hv hw] at g6
  have other : ∀ b, b ≠ c → (H.set c (rowB (((List.range n).map (F v)).set w x) rest))[b]? = H[b]? := fun b hb => List.getElem?_set_ne (Ne.symm hb)
  refine ⟨a1, u, a2, _, g1, g2, by rw [g3]; simp, g4, g5, ⟨⟨by rw [List.length_set]; exact h.ext.1, fun b hb _ => ?_⟩, ?_, h.ha, ?_, ?_, g6, h.be, h.bw, by rw [tab_len]; have := h.bn; rw [hp, tab_len] at this; exact this⟩⟩
  · rw [other b (by omega), h.ext.2 b hb id]
  · have hac : a ≠ c := fun hh => by
      subst hh
      have := h.blk
      rw [g7] at this
      simp [rowB, plB] at this
    rw [other a hac]
    exact h.blk
  · refine h.e.keep fun b hb => other b fun hh => ?_
    subst hh
    obtain ⟨cs, hc⟩ := h.e.blk hb
    rw [g7] at hc
    simp [rowB] at hc
  · exact h.w.keep fun b hb => other b fun hh => g8 (hh ▸ hb)
theorem PA.row (h : PA H0 H a p ev wv nv) {n : Nat} {F : Nat → Nat → Int} (hp : p.next = tab n F) {v : Nat} (hv : v < n) : ∃ a1 u, iAddr 1 nv (.int .i64 (v : Nat)) = some a1 ∧ ld1 a1 H = some (u, H) ∧ lenSl u = some (.int .i64 n) := by
  have hr : p.next[v]? = some ((List.range n).map (F v)) := by rw [hp]; exact tab_at hv
  obtain ⟨a1, u, g1, g2, g3⟩ := h.nx.rw.rows.at_ hr .i64
  exact ⟨a1, u, g1, g2, by rw [g3.len]; simp⟩
theorem made_pa {H2 : Heap} {nodes room more joined : Nat} {next : List Nat} (h : RowsA H0 H2 nv (mkP nodes room more joined next).next wv) (hx : Ext H0 H2) (he : Ew H2 ev (mkP nodes room more joined next).edges) (hw : Iw H2 wv (mkP nodes room more joined next).weights) :
    PA H0 (H2 ++ [plB (mkP nodes room more joined next) ev wv nv]) H2.length (mkP nodes room more joined next) ev wv nv := by
  have x2 : Ext H2 (H2 ++ [plB (mkP nodes room more joined next) ev wv nv]) := Fr.app _ _ _
  have := mk_e15 nodes room more joined next
  have hn := mkN_is nodes
  exact ⟨hx.tr x2, at_last _ _, hx.1, he.on _, hw.on _, h.ext x2, by omega, by simp [mkP]; omega, by simp [mkP]; omega⟩
def ringF (F : Nat → Nat → Int) (i j v w : Nat) : Int := if (v < i ∨ (v = i ∧ w < j)) ∧ v ≠ w then (((v + 1) % 3 : Nat) : Int) else F v w
def ringP (on : Bool) : PlanD := if on = true then { mkP 1 0 0 7 [] with next := tab 3 fun v w => if v ≠ w then (((v + 1) % 3 : Nat) : Int) else w } else mkP 1 0 0 7 []
theorem ring_loop1 {i : Nat} (hi : i < 3) {K : Ex → K (Value × Heap)} {q0 : PlanD} {rb : Nat} (hm : 100 < m) {Q : Heap → Value → Prop} :
    ∀ (q j k : Nat) (H : Heap), 3 - j = q → j ≤ 3 → q < k → PA H0 H a { q0 with next := tab 3 (ringF (fun _ w => (w : Int)) i j) } ev wv nv →
    (∀ H', PA H0 H' a { q0 with next := tab 3 (ringF (fun _ w => (w : Int)) i 3) } ev wv nv → ∀ (x1 x5 x6 x7 x8 x9 x10 x11 x12 x13 x14 x15 x16 x17 x18 x19 x20 x21 x22 x23 x24 x25 x26 x27 x28 x29 x30 x31 x32 x33 x34 x35 x36 x37 x38 x39 x40 : Value), ∃ H2 rr, K .normal [(.bool true), x1, (.pointer (some ⟨rb, 0, none⟩)), (.pointer (some ⟨a, 0, none⟩)), (.int .i64 (i + 1 : Nat)), x5, x6, x7, x8, x9, x10, x11, x12, x13, x14, x15, x16, x17, x18, x19, x20, x21, x22, x23, x24, x25, x26, x27, x28, x29, x30, x31, x32, x33, x34, x35, x36, x37, x38, x39, x40] H' = some (rr, H2) ∧ Q H2 rr) → ∀ (x1 x6 x7 x8 x9 x10 x11 x12 x13 x14 x15 x16 x17 x18 x19 x20 x21 x22 x23 x24 x25 x26 x27 x28 x29 x30 x31 x32 x33 x34 x35 x36 x37 x38 x39 x40 : Value),
    ∃ H' rr, loopN k (runCode Try.prog (lvl Try.prog pk12 m) (loopN m) f46_c1) (f46_k1 (lvl Try.prog pk12 m) (loopN m) K) [(.bool true), x1, (.pointer (some ⟨rb, 0, none⟩)), (.pointer (some ⟨a, 0, none⟩)), (.int .i64 (i : Nat)), (.int .i64 (j : Nat)), x6, x7, x8, x9, x10, x11, x12, x13, x14, x15, x16, x17, x18, x19, x20, x21, x22, x23, x24, x25, x26, x27, x28, x29, x30, x31, x32, x33, x34, x35, x36, x37, x38, x39, x40] H = some (rr, H') ∧ Q H' rr := by
  intro q
  induction q with
  | zero =>
    intro j k H hq hj hk hA hK
    intros
    obtain ⟨k, rfl⟩ : ∃ n, k = n + 1 := ⟨k - 1, by omega⟩
    obtain rfl : j = 3 := by omega
    have e : decide (((3 : Nat) : Int) < ((3 : Nat) : Int)) = false := by simp
    have e3 : IntKind.i64.wrap ((i : Int) + 1) = ((i + 1 : Nat) : Int) := by rw [wrap_i64 (by omega) (by omega)]; omega
    have l10 := ld_pl hA.blk 10 _ rfl
    obtain ⟨a1, u, g1, g2, g3⟩ := hA.row rfl hi
    rw [loop_succ, f46_b1_eq]
    unfold f46_b1
    simp -implicitDefEqProofs only [r_opt, r_ret, ob_some, ifB_true, iteV_true, iteV_false, r_gdt, r_gdt2, r_gdtf, r_gdtf2, r_gdff, r_gdff2, r_gdft, r_gdft2, r_gdu, r_gdu2, pick_t, pick_f, ext_0, ext_1, x_newB, r_nil, r_fAddr, Nat.zero_add, b_lss, b_leq, b_gtr, b_geq, b_eql, b_neq, u_not, Bool.not_true, Bool.not_false, oneOf_one, oneOf_two, again_normal, again_exit, again_ret, Bool.and_true, l10, g1, g2, g3, e]
    rw [f46_e1_2_eq]
    unfold f46_e1_2
    simp -implicitDefEqProofs only [r_opt, r_ret, ob_some, ifB_true, iteV_true, iteV_false, r_gdt, r_gdt2, r_gdtf, r_gdtf2, r_gdff, r_gdff2, r_gdft, r_gdft2, r_gdu, r_gdu2, pick_t, pick_f, ext_0, ext_1, x_newB, r_nil, r_fAddr, Nat.zero_add, b_lss, b_leq, b_gtr, b_geq, b_eql, b_neq, u_not, Bool.not_true, Bool.not_false, oneOf_one, oneOf_two, again_normal, again_exit, again_ret, Bool.and_true, b_add, e3]
    exact hK H hA ..
  | succ q ih =>
    intro j k H hq hj hk hA hK
    intros
    obtain ⟨k, rfl⟩ : ∃ n, k = n + 1 := ⟨k - 1, by omega⟩
    have e : decide ((j : Int) < ((3 : Nat) : Int)) = true := decide_eq_true (by omega)
    have e3 : IntKind.i64.wrap ((j : Int) + 1) = ((j + 1 : Nat) : Int) := by rw [wrap_i64 (by omega) (by omega)]; omega
    have e4 : IntKind.i64.wrap ((i : Int) + 1) = ((i + 1 : Nat) : Int) := by rw [wrap_i64 (by omega) (by omega)]; omega
    have e5 := remI (i + 1) 3 3 rfl (by omega)
    have l10 := ld_pl hA.blk 10 _ rfl
    obtain ⟨a0, u0, g1', g2', g3'⟩ := hA.row rfl hi
    obtain ⟨a1, u, a2, H', g1, g2, g3, g4, g5, g6⟩ := hA.set rfl hi (w := j) (by omega) (((i + 1) % 3 : Nat) : Int)
    rw [g1] at g1'
    cases g1'
    rw [g2] at g2'
    cases g2'
    rw [loop_succ, f46_b1_eq]
    unfold f46_b1
    cases c : ((i : Int) != (j : Int)) with
    | true =>
      have hne : i ≠ j := by simp at c; omega
      simp -implicitDefEqProofs only [r_opt, r_ret, ob_some, ifB_true, iteV_true, iteV_false, r_gdt, r_gdt2, r_gdtf, r_gdtf2, r_gdff, r_gdff2, r_gdft, r_gdft2, r_gdu, r_gdu2, pick_t, pick_f, ext_0, ext_1, x_newB, r_nil, r_fAddr, Nat.zero_add, b_lss, b_leq, b_gtr, b_geq, b_eql, b_neq, u_not, Bool.not_true, Bool.not_false, oneOf_one, oneOf_two, again_normal, again_exit, again_ret, Bool.and_true, l10, g1, g2, g3, e, c, b_add, e4, e5, g4, g5, e3]
      refine ih (j + 1) k H' (by omega) (by omega) (by omega) ?_ hK ..
      have : (tab 3 fun v' w' => if v' = i ∧ w' = j then (((i + 1) % 3 : Nat) : Int) else ringF (fun _ w => (w : Int)) i j v' w') = tab 3 (ringF (fun _ w => (w : Int)) i (j + 1)) := tab_ext fun v w hv hw => by
        unfold ringF
        by_cases h1 : v = i ∧ w = j
        · obtain ⟨rfl, rfl⟩ := h1
          rw [if_pos ⟨rfl, rfl⟩, if_pos ⟨.inr ⟨rfl, by omega⟩, hne⟩]
        · rw [if_neg h1]
          by_cases h2 : (v < i ∨ (v = i ∧ w < j)) ∧ v ≠ w
          · rw [if_pos h2, if_pos (by omega)]
          · rw [if_neg h2, if_neg (by omega)]
      rw [← this]
      exact g6
    | false =>
      have hne : i = j := by simp at c; omega
      simp -implicitDefEqProofs only [r_opt, r_ret, ob_some, ifB_true, iteV_true, iteV_false, r_gdt, r_gdt2, r_gdtf, r_gdtf2, r_gdff, r_gdff2, r_gdft, r_gdft2, r_gdu, r_gdu2, pick_t, pick_f, ext_0, ext_1, x_newB, r_nil, r_fAddr, Nat.zero_add, b_lss, b_leq, b_gtr, b_geq, b_eql, b_neq, u_not, Bool.not_true, Bool.not_false, oneOf_one, oneOf_two, again_normal, again_exit, again_ret, Bool.and_true, l10, g1, g2, g3, e, c, b_add, e3]
      refine ih (j + 1) k H (by omega) (by omega) (by omega) ?_ hK ..
      have : tab 3 (ringF (fun _ w => (w : Int)) i j) = tab 3 (ringF (fun _ w => (w : Int)) i (j + 1)) := tab_ext fun v w hv hw => by
        unfold ringF
        by_cases h2 : (v < i ∨ (v = i ∧ w < j)) ∧ v ≠ w
        · rw [if_pos h2, if_pos (by omega)]
        · rw [if_neg h2, if_neg (by omega)]
      rw [← this]
      exact hA
theorem PA.put (h : PA H0 H a p ev wv nv) {rb : Nat} (hrb : H[rb]? = some plZ) {Hb : Heap} (hb : Ext Hb H0) (hl : Hb.length ≤ rb) :
    stN 11 (.pointer (some ⟨rb, 0, none⟩)) (plV p ev wv nv) H = some (undef, H.set rb (plB p ev wv nv)) ∧ ldN 11 (.pointer (some ⟨rb, 0, none⟩)) (H.set rb (plB p ev wv nv)) = some (plV p ev wv nv, H.set rb (plB p ev wv nv)) ∧ PV (H.set rb (plB p ev wv nv)) p ev wv nv ∧ Ext Hb (H.set rb (plB p ev wv nv)) := by
  have hrl := (List.getElem?_eq_some_iff.mp hrb).1
  have hall := h.pv.all
  have st : stN 11 (.pointer (some ⟨rb, 0, none⟩)) (plV p ev wv nv) H = some (undef, H.set rb (plB p ev wv nv)) := by
    have e1 : (plV p ev wv nv).cells.toList = plC p ev wv nv := rfl
    rw [x_stN 11 _ _ _ rfl, hrb, e1]
    unfold plZ
    rw [x_stC _ _ _ _ _ _ (by decide) (by simp [plC]) hall]
    rfl
  have kp : ∀ (b : Nat) (cs : List Value) (e : TypeId), H[b]? = some (.cells cs e .row) → (H.set rb (plB p ev wv nv))[b]? = H[b]? := fun b cs e hb => by
    refine List.getElem?_set_ne fun hh => ?_
    subst hh
    rw [hrb] at hb
    simp [plZ] at hb
  refine ⟨st, ld_pl11 (List.getElem?_set_self hrl), ⟨(h.e.keep fun b hb => ?_).rs, (h.w.keep fun b hb => ?_).rs, ?_, by have := h.be; omega, by have := h.bw; omega, by have := h.bn; omega⟩, set_ext (hb.tr h.ext) hl⟩
  · obtain ⟨cs, hc⟩ := h.e.blk hb
    exact kp b cs _ hc
  · obtain ⟨cs, hc⟩ := h.w.blk hb
    exact kp b cs _ hc
  · obtain ⟨us, hi, _⟩ := h.nx
    refine RowsW.rows ⟨us, hi.keep (fun b hb => ?_) fun u hu b hb => ?_⟩
    · obtain ⟨cs, hc⟩ := hi.row.blk hb
      exact kp b cs _ hc
    · obtain ⟨cs, hc⟩ := hi.blk hu hb
      exact kp b cs _ hc
def Rung (Hb : Heap) (q : PlanD) (H' : Heap) (r : Value) : Prop := ∃ ev wv nv, r = plV q ev wv nv ∧ PV H' q ev wv nv ∧ Ext Hb H'
theorem ring_end {rb : Nat} {q : PlanD} (h : PA H0 H a q ev wv nv) (hrb : H[rb]? = some plZ) {Hb : Heap} (hb : Ext Hb H0) (hl : Hb.length ≤ rb) (x0 x1 x4 x5 x6 x7 x8 x9 x10 x11 x12 x13 x14 x15 x16 x17 x18 x19 x20 x21 x22 x23 x24 x25 x26 x27 x28 x29 x30 x31 x32 x33 x34 x35 x36 x37 x38 x39 x40 : Value) :
    ∃ H' rr, f46_e0_0 (lvl Try.prog pk12 m) (loopN m) x0 x1 (.pointer (some ⟨rb, 0, none⟩)) (.pointer (some ⟨a, 0, none⟩)) x4 x5 x6 x7 x8 x9 x10 x11 x12 x13 x14 x15 x16 x17 x18 x19 x20 x21 x22 x23 x24 x25 x26 x27 x28 x29 x30 x31 x32 x33 x34 x35 x36 x37 x38 x39 x40 H = some (rr, H') ∧ Rung Hb q H' rr := by
  obtain ⟨p1, p2, p3, p4⟩ := h.put hrb hb hl
  have l11 := ld_pl11 h.blk
  unfold f46_e0_0
  simp -implicitDefEqProofs only [r_opt, r_ret, ob_some, ifB_true, iteV_true, iteV_false, r_gdt, r_gdt2, r_gdtf, r_gdtf2, r_gdff, r_gdff2, r_gdft, r_gdft2, r_gdu, r_gdu2, pick_t, pick_f, ext_0, ext_1, x_newB, r_nil, r_fAddr, Nat.zero_add, b_lss, b_leq, b_gtr, b_geq, b_eql, b_neq, u_not, Bool.not_true, Bool.not_false, oneOf_one, oneOf_two, again_normal, again_exit, again_ret, Bool.and_true, l11, p1, p2]
  exact ⟨_, _, rfl, ev, wv, nv, rfl, p3, p4⟩
theorem ring_loop0 {q0 : PlanD} {rb : Nat} (hm : 200 < m) {Hb : Heap} (hb : Ext Hb H0) (hl : Hb.length ≤ rb) (hrb : H0[rb]? = some plZ) :
    ∀ (q i k : Nat) (H : Heap), 3 - i = q → i ≤ 3 → q < k → PA H0 H a { q0 with next := tab 3 (ringF (fun _ w => (w : Int)) i 0) } ev wv nv → ∀ (x1 x5 x6 x7 x8 x9 x10 x11 x12 x13 x14 x15 x16 x17 x18 x19 x20 x21 x22 x23 x24 x25 x26 x27 x28 x29 x30 x31 x32 x33 x34 x35 x36 x37 x38 x39 x40 : Value),
    ∃ H' rr, loopN k (runCode Try.prog (lvl Try.prog pk12 m) (loopN m) f46_c0) (f46_k0 (lvl Try.prog pk12 m) (loopN m)) [(.bool true), x1, (.pointer (some ⟨rb, 0, none⟩)), (.pointer (some ⟨a, 0, none⟩)), (.int .i64 (i : Nat)), x5, x6, x7, x8, x9, x10, x11, x12, x13, x14, x15, x16, x17, x18, x19, x20, x21, x22, x23, x24, x25, x26, x27, x28, x29, x30, x31, x32, x33, x34, x35, x36, x37, x38, x39, x40] H = some (rr, H') ∧ Rung Hb { q0 with next := tab 3 (ringF (fun _ w => (w : Int)) 3 0) } H' rr := by
  intro q
  induction q with
  | zero =>
    intro i k H hq hi hk hA
    intros
    obtain ⟨k, rfl⟩ : ∃ n, k = n + 1 := ⟨k - 1, by omega⟩
    obtain rfl : i = 3 := by omega
    have e : decide (((3 : Nat) : Int) < ((3 : Nat) : Int)) = false := by simp
    have l10 := ld_pl hA.blk 10 _ rfl
    have hlen := hA.pv.n.len
    have h3 : (tab 3 (ringF (fun _ w => (w : Int)) 3 0)).length = 3 := tab_len _ _
    simp only [h3] at hlen
    rw [loop_succ, f46_b0_eq]
    unfold f46_b0
    simp -implicitDefEqProofs only [r_opt, r_ret, ob_some, ifB_true, iteV_true, iteV_false, r_gdt, r_gdt2, r_gdtf, r_gdtf2, r_gdff, r_gdff2, r_gdft, r_gdft2, r_gdu, r_gdu2, pick_t, pick_f, ext_0, ext_1, x_newB, r_nil, r_fAddr, Nat.zero_add, b_lss, b_leq, b_gtr, b_geq, b_eql, b_neq, u_not, Bool.not_true, Bool.not_false, oneOf_one, oneOf_two, again_normal, again_exit, again_ret, Bool.and_true, l10, hlen, e]
    rw [f46_e0_0_eq]
    exact ring_end hA (ld_of hrb hA.ext) hb hl ..
  | succ q ih =>
    intro i k H hq hi hk hA
    intros
    obtain ⟨k, rfl⟩ : ∃ n, k = n + 1 := ⟨k - 1, by omega⟩
    have e : decide ((i : Int) < ((3 : Nat) : Int)) = true := decide_eq_true (by omega)
    have l10 := ld_pl hA.blk 10 _ rfl
    have hlen := hA.pv.n.len
    have h3 : (tab 3 (ringF (fun _ w => (w : Int)) i 0)).length = 3 := tab_len _ _
    simp only [h3] at hlen
    rw [loop_succ, f46_b0_eq]
    unfold f46_b0
    simp -implicitDefEqProofs only [r_opt, r_ret, ob_some, ifB_true, iteV_true, iteV_false, r_gdt, r_gdt2, r_gdtf, r_gdtf2, r_gdff, r_gdff2, r_gdft, r_gdft2, r_gdu, r_gdu2, pick_t, pick_f, ext_0, ext_1, x_newB, r_nil, r_fAddr, Nat.zero_add, b_lss, b_leq, b_gtr, b_geq, b_eql, b_neq, u_not, Bool.not_true, Bool.not_false, oneOf_one, oneOf_two, again_normal, again_exit, again_ret, Bool.and_true, l10, hlen, e]
    refine ring_loop1 (q0 := q0) (rb := rb) (i := i) (by omega) (by omega) (Q := Rung Hb { q0 with next := tab 3 (ringF (fun _ w => (w : Int)) 3 0) }) 3 0 m H (by omega) (by omega) (by omega) hA (fun H' hA' => ?_) ..
    intros
    simp -implicitDefEqProofs only [r_opt, r_ret, ob_some, ifB_true, iteV_true, iteV_false, r_gdt, r_gdt2, r_gdtf, r_gdtf2, r_gdff, r_gdff2, r_gdft, r_gdft2, r_gdu, r_gdu2, pick_t, pick_f, ext_0, ext_1, x_newB, r_nil, r_fAddr, Nat.zero_add, b_lss, b_leq, b_gtr, b_geq, b_eql, b_neq, u_not, Bool.not_true, Bool.not_false, oneOf_one, oneOf_two, again_normal, again_exit, again_ret, Bool.and_true]
    refine ih (i + 1) k H' (by omega) (by omega) (by omega) ?_ ..
    have : tab 3 (ringF (fun _ w => (w : Int)) i 3) = tab 3 (ringF (fun _ w => (w : Int)) (i + 1) 0) := tab_ext fun v w hv hw => by
      unfold ringF
      by_cases h2 : (v < i ∨ (v = i ∧ w < 3)) ∧ v ≠ w
      · rw [if_pos h2, if_pos (by omega)]
      · rw [if_neg h2, if_neg (by omega)]
    rw [← this]
    exact hA'
theorem ring_is (on : Bool) (hm : 300 < m) : ∃ H' rr, lvl Try.prog pk12 m (.func 46) [.bool on] H = some (rr, H') ∧ Rung H (ringP on) H' rr := by
  obtain ⟨H1, hH1⟩ : ∃ H1, H1 = H ++ [plZ] := ⟨_, rfl⟩
  have x1 : Ext H H1 := by rw [hH1]; exact Fr.app _ _ _
  have b1 : H1[H.length]? = some plZ := by rw [hH1]; exact at_last _ _
  obtain ⟨H2, u, g1, hmd⟩ := make_is (H := H1) (m := m - 1) 1 0 0 7 (by omega) (by omega) (by omega) (by omega) (us_nil H1) (by simp) (by simp) (by omega)
  obtain ⟨ev, wv, nv, rfl, x2, hp, he, hw, hra⟩ := hmd.pa
  have cp := pl_copy hp H2
  have hA := made_pa hra x2 he hw
  obtain ⟨H3, hH3⟩ : ∃ H3, H3 = H2 ++ [plB (mkP 1 0 0 7 []) ev wv nv] := ⟨_, rfl⟩
  rw [← hH3] at cp hA
  have z1 : ((1 : Nat) : Int) = 1 := rfl
  have z0 : ((0 : Nat) : Int) = 0 := rfl
  have z7 : ((7 : Nat) : Int) = 7 := rfl
  simp only [z1, z0, z7] at g1
  refine lvl_ex (pk_no rfl rfl) (by omega) ?_
  rw [f46_eq]
  unfold f46
  cases on with
  | true =>
    simp -implicitDefEqProofs only [r_opt, r_ret, ob_some, ifB_true, iteV_true, iteV_false, r_gdt, r_gdt2, r_gdtf, r_gdtf2, r_gdff, r_gdff2, r_gdft, r_gdft2, r_gdu, r_gdu2, pick_t, pick_f, ext_0, ext_1, x_newB, r_nil, r_fAddr, Nat.zero_add, b_lss, b_leq, b_gtr, b_geq, b_eql, b_neq, u_not, Bool.not_true, Bool.not_false, oneOf_one, oneOf_two, again_normal, again_exit, again_ret, Bool.and_true, plZ_is, ← hH1, g1, cp]
    have hst : PA H1 H3 H2.length { mkP 1 0 0 7 [] with next := tab 3 (ringF (fun _ w => (w : Int)) 0 0) } ev wv nv := by
      have : tab 3 (ringF (fun _ w => (w : Int)) 0 0) = (mkP 1 0 0 7 []).next := by decide +kernel
      rw [this]
      exact hA
    have e : ringP true = { mkP 1 0 0 7 [] with next := tab 3 (ringF (fun _ w => (w : Int)) 3 0) } := by
      have : tab 3 (ringF (fun _ w => (w : Int)) 3 0) = tab 3 fun v w => if v ≠ w then (((v + 1) % 3 : Nat) : Int) else w := by decide +kernel
      rw [this]
      rfl
    rw [e]
    exact ring_loop0 (m := m - 1) (by omega) x1 (Nat.le_refl _) b1 3 0 (m - 1) H3 (by omega) (by omega) (by omega) hst ..
  | false =>
    simp -implicitDefEqProofs only [r_opt, r_ret, ob_some, ifB_true, iteV_true, iteV_false, r_gdt, r_gdt2, r_gdtf, r_gdtf2, r_gdff, r_gdff2, r_gdft, r_gdft2, r_gdu, r_gdu2, pick_t, pick_f, ext_0, ext_1, x_newB, r_nil, r_fAddr, Nat.zero_add, b_lss, b_leq, b_gtr, b_geq, b_eql, b_neq, u_not, Bool.not_true, Bool.not_false, oneOf_one, oneOf_two, again_normal, again_exit, again_ret, Bool.and_true, plZ_is, ← hH1, g1, cp]
    obtain ⟨k, hk⟩ : ∃ n, m - 1 = n + 1 := ⟨m - 1 - 1, by omega⟩
    have l10 := ld_pl hA.blk 10 _ rfl
    have hlen := hA.pv.n.len
    have h3 : (mkP 1 0 0 7 []).next.length = 3 := by decide +kernel
    rw [h3] at hlen
    have e : decide (((0 : Nat) : Int) < ((3 : Nat) : Int)) = true := rfl
    have loop : ∀ n m' : Nat, n = m' + 1 → ∀ (x1 x5 x6 x7 x8 x9 x10 x11 x12 x13 x14 x15 x16 x17 x18 x19 x20 x21 x22 x23 x24 x25 x26 x27 x28 x29 x30 x31 x32 x33 x34 x35 x36 x37 x38 x39 x40 : Value), ∃ H' rr, loopN n (runCode Try.prog (lvl Try.prog pk12 (m - 1)) (loopN (m - 1)) f46_c0) (f46_k0 (lvl Try.prog pk12 (m - 1)) (loopN (m - 1))) [(.bool false), x1, (.pointer (some ⟨H.length, 0, none⟩)), (.pointer (some ⟨H2.length, 0, none⟩)), (.int .i64 (0 : Nat)), x5, x6, x7, x8, x9, x10, x11, x12, x13, x14, x15, x16, x17, x18, x19, x20, x21, x22, x23, x24, x25, x26, x27, x28, x29, x30, x31, x32, x33, x34, x35, x36, x37, x38, x39, x40] H3 = some (rr, H') ∧ Rung H (ringP false) H' rr := by
      intro n m' hn
      intros
      subst hn
      rw [loop_succ, f46_b0_eq]
      unfold f46_b0
      simp -implicitDefEqProofs only [r_opt, r_ret, ob_some, ifB_true, iteV_true, iteV_false, r_gdt, r_gdt2, r_gdtf, r_gdtf2, r_gdff, r_gdff2, r_gdft, r_gdft2, r_gdu, r_gdu2, pick_t, pick_f, ext_0, ext_1, x_newB, r_nil, r_fAddr, Nat.zero_add, b_lss, b_leq, b_gtr, b_geq, b_eql, b_neq, u_not, Bool.not_true, Bool.not_false, oneOf_one, oneOf_two, again_normal, again_exit, again_ret, Bool.and_true, l10, hlen, e]
      rw [f46_e0_0_eq]
      exact ring_end hA (ld_of b1 hA.ext) x1 (Nat.le_refl _) ..
    exact loop (m - 1) k hk ..
theorem ring_on : errR (ringP true) = 140 ∧ pathR (ringP true) 0 2 = [0, 1, 2] ∧ (waitsL (ringP true)).length = 6 := by decide +kernel
theorem ring_off : errR (ringP false) = 0 := by decide +kernel
theorem known14_is (hm : 17592186045500 < m) (hm2 : m ≤ 72057594037927936) : ∃ H', lvl Try.prog pk12 m (.func 23) [] H = some (.bool true, H') ∧ Ext H H' := by
  obtain ⟨r1, r2, r3⟩ := ring_on
  obtain ⟨H1, _, g1, ev, wv, nv, rfl, p1, x1⟩ := ring_is (H := H) true (m := m - 1) (by omega)
  obtain ⟨H2, lv, g2, x2, q2, _⟩ := Path_is p1 0 2 (m := m - 1) (by omega) (by omega)
  rw [r2] at q2
  obtain ⟨H3, _, g3, ev3, wv3, nv3, rfl, p3, x3⟩ := ring_is (H := H2) true (m := m - 1) (by omega)
  obtain ⟨H4, g4, x4⟩ := Check_is p3 (m := m - 1) (by omega) (by omega)
  rw [r1] at g4
  obtain ⟨H5, _, g5, ev5, wv5, nv5, rfl, p5, x5⟩ := ring_is (H := H4) false (m := m - 1) (by omega)
  obtain ⟨H6, g6, x6⟩ := Check_is p5 (m := m - 1) (by omega) (by omega)
  rw [ring_off] at g6
  have hx26 := ((x3.tr x4).tr x5).tr x6
  have q6 := q2.rs.ext hx26
  have hlen := q6.len
  obtain ⟨b, o, k1, _, k3⟩ := q6.at_ inC_len (i := 1) (x := 1) rfl .i64
  have k1 : iAddr 1 lv (.int .i64 1) = some (.pointer (some ⟨b, o, none⟩)) := k1
  have k4 : ld1 (.pointer (some ⟨b, o, none⟩)) H6 = some (.int .i64 1, H6) := (k3 H6 rfl).2.1 0 _ rfl
  obtain ⟨H7, _, g7, ev7, wv7, nv7, rfl, p7, x7⟩ := ring_is (H := H6) true (m := m - 1) (by omega)
  obtain ⟨H8, wvv, g8, x8, q8⟩ := Waits_is p7 (m := m - 1) (by omega) (by omega)
  have hl8 := q8.len
  rw [r3] at hl8
  have e1 : ((140 : Int) == 140) = true := rfl
  have e0 : ((0 : Int) == 0) = true := rfl
  have e3 : ((([0, 1, 2] : List Int).length : Int) == 3) = true := rfl
  have e11 : ((1 : Int) == 1) = true := rfl
  have e6 : (((6 : Nat) : Int) == 6) = true := rfl
  have hall := ((x1.tr x2).tr hx26).tr (x7.tr x8)
  refine lvl_ex1 (pk_no rfl rfl) (by omega) ⟨H8, ?_, hall⟩
  rw [f23_eq]
  unfold f23
  simp -implicitDefEqProofs only [r_opt, r_ret, ob_some, ifB_true, iteV_true, iteV_false, r_gdt, r_gdt2, r_gdtf, r_gdtf2, r_gdff, r_gdff2, r_gdft, r_gdft2, r_gdu, r_gdu2, pick_t, pick_f, ext_0, ext_1, x_newB, r_nil, r_fAddr, Nat.zero_add, b_lss, b_leq, b_gtr, b_geq, b_eql, b_neq, u_not, Bool.not_true, Bool.not_false, oneOf_one, oneOf_two, again_normal, again_exit, again_ret, Bool.and_true, g1, g2, g3, g4, e1, g5, g6, e0, hlen, e3, k1, k4, e11, g7, g8, hl8, e6]
end
end Go.Proofs.Ytdobnaldfmpimaa

set_option linter.unusedSectionVars false
set_option linter.unusedSimpArgs false
set_option linter.unusedVariables false
set_option maxRecDepth 100000
namespace Go.Proofs.Ytdobnaldfmpimaa
open Go.Abs
def cpP (n : Nat) (E : List Ed) (N : List (List Int)) : PlanD := ⟨n, E, 1, 1, 1, 1, 1, 1, [1], 0, N⟩
theorem pthW_core {p : PlanD} {n : Nat} {E : List Ed} {N : List (List Int)} (h1 : p.nodes = (n : Int)) (h2 : p.edges = E) (h3 : p.next = N) (w : Int) : ∀ (q : Nat) (l : List Int) (v : Int), pthW p w q l v = pthW (cpP n E N) w q l v
  | 0, _, _ => rfl
  | q + 1, l, v => by
    have e : nx p v w = nx (cpP n E N) v w := by unfold nx cpP; rw [h3]
    unfold pthW
    rw [e, h1, h2, pthW_core h1 h2 h3 w q]
    rfl
theorem core_eq {p : PlanD} {n : Nat} {E : List Ed} {N : List (List Int)} (h : checkOk p = true) (hc : checkOk (cpP n E N) = true) (h1 : p.nodes = (n : Int)) (h2 : p.edges = E) (h3 : p.next = N) :
    (∀ v w, pathL p v w = pathL (cpP n E N) v w) ∧ (∀ v w, pathR p v w = pathR (cpP n E N) v w) ∧ waitsL p = waitsL (cpP n E N) ∧ errR p = errR (cpP n E N) := by
  have a1 : ∀ v w, pathL p v w = pathL (cpP n E N) v w := fun v w => by
    unfold pathL
    rw [pthW_core h1 h2 h3, h1]
    rfl
  have a2 : ∀ v w, pathR p v w = pathR (cpP n E N) v w := fun v w => by
    unfold pathR
    rw [a1, h, hc, h1]
    rfl
  have e : ∀ v w, nx p v w = nx (cpP n E N) v w := fun v w => by unfold nx cpP; rw [h3]
  have e2 : ∀ a b, wt p n a b = wt (cpP n E N) n a b := fun a b => by
    unfold wt
    congr 1
    funext w
    unfold wtAt
    rw [e, e]
  have e3 : hopsOf p = hopsOf (cpP n E N) := by
    unfold hopsOf hopN
    rw [h1, h2]
    rfl
  have a3 : waitsL p = waitsL (cpP n E N) := by
    unfold waitsL
    rw [h, hc, e3, h1]
    simp only [if_true]
    refine List.map_congr_left fun a _ => ?_
    show wrow p n _ a = wrow (cpP n E N) n _ a
    unfold wrow
    simp only [e2]
  refine ⟨a1, a2, a3, ?_⟩
  unfold errR routeOk
  rw [a3, h, hc, h1]
  have : ∀ m, pathsOk p m = pathsOk (cpP n E N) m := fun m => by
    unfold pathsOk
    simp only [a1]
  rw [this]
  rfl
section
variable {H : Heap} {m : Nat} {p : PlanD} {ev wv nv : Value}
end
end Go.Proofs.Ytdobnaldfmpimaa

set_option linter.unusedSectionVars false
set_option linter.unusedSimpArgs false
set_option linter.unusedVariables false
set_option maxRecDepth 100000
namespace Go.Proofs.Ytdobnaldfmpimaa
open Go.Abs
def chainE (k : Nat) : List Ed := (List.range k).map fun i : Nat => ((i : Int), ((i + 1 : Nat) : Int))
def chF (v w : Nat) : Int := if v < w then ((v + 1 : Nat) : Int) else if w < v then ((v - 1 : Nat) : Int) else w
def rgF (n v w : Nat) : Int := if v ≠ w then (((v + 1) % n : Nat) : Int) else w
def upto (F G : Nat → Nat → Int) (i j v w : Nat) : Int := if v < i ∨ (v = i ∧ w < j) then F v w else G v w
theorem chain_core (n : Nat) (h : 3 ≤ n ∧ n ≤ 6) : checkOk (cpP n (chainE (n - 1)) (tab n chF)) = true ∧ errR (cpP n (chainE (n - 1)) (tab n chF)) = 0 ∧ checkOk (cpP n (chainE (n - 1) ++ [(0, ((n - 1 : Nat) : Int))]) (tab n (rgF n))) = true ∧ errR (cpP n (chainE (n - 1) ++ [(0, ((n - 1 : Nat) : Int))]) (tab n (rgF n))) = 140 := by
  have : n = 3 ∨ n = 4 ∨ n = 5 ∨ n = 6 := by omega
  rcases this with rfl | rfl | rfl | rfl <;> decide +kernel
theorem swap_ok {p : PlanD} {n : Nat} {E : List Ed} {N : List (List Int)} (hp : checkOk p = true) (hn : p.nodes = (n : Int)) (hc : checkOk (cpP n E N) = true) : checkOk { p with edges := E, next := N } = true := by
  unfold checkOk numOk edgesOk rowsOk at *
  simp only [Bool.and_eq_true, hn] at *
  exact ⟨hp.1, hc.2.1, hp.2.2.1, hp.2.2.2.1, hc.2.2.2.2⟩
section
variable {H H0 : Heap} {m : Nat} {p : PlanD} {ev wv nv : Value} {a : Nat}
theorem PA.noEdges (h : PA H0 H a p ev wv nv) : ∃ H', stN 1 (.pointer (some ⟨a, 1, none⟩)) (.slice none 0 0) H = some (undef, H') ∧ PA H0 H' a { p with edges := [] } (.slice none 0 0) wv nv := by
  have st := st_pl (q' := { p with edges := [] }) (ev' := .slice none 0 0) (wv' := wv) (nv' := nv) (j := 1) (v := .slice none 0 0) h.blk rfl rfl (by omega) rfl
  have kp : ∀ (b : Nat) (cs : List Value) (e : TypeId), H[b]? = some (.cells cs e .row) → (H.set a (plB { p with edges := [] } (.slice none 0 0) wv nv))[b]? = H[b]? := fun b cs e hb => by
    refine List.getElem?_set_ne fun hh => ?_
    subst hh
    rw [h.blk] at hb
    simp [plB] at hb
  refine ⟨_, st, ⟨set_ext h.ext h.ha, List.getElem?_set_self (List.getElem?_eq_some_iff.mp h.blk).1, h.ha, Rw.nil, h.w.keep fun b hb => ?_, ?_, by simp, h.bw, h.bn⟩⟩
  · obtain ⟨cs, hc⟩ := h.w.blk hb
    exact kp b cs _ hc
  · obtain ⟨us, hi, hap⟩ := h.nx
    refine ⟨us, hi.keep (fun b hb => ?_) (fun u hu b hb => ?_), hap⟩
    · obtain ⟨cs, hc⟩ := hi.row.blk hb
      exact kp b cs _ hc
    · obtain ⟨cs, hc⟩ := hi.blk hu hb
      exact kp b cs _ hc
theorem PA.pushE (h : PA H0 H a p ev wv nv) (hn : New H0 ev) (hl : p.edges.length ≤ 100) (x : Ed) : ∃ ev' H1 H', app 33 2 16 ev (.slice (some ⟨H.length, 0, none⟩) 1 1) (H ++ [.cells (edC x) 33 .row]) = some (ev', H1) ∧ stN 1 (.pointer (some ⟨a, 1, none⟩)) ev' H1 = some (undef, H') ∧ PA H0 H' a { p with edges := p.edges ++ [x] } ev' wv nv ∧ New H0 ev' := by
  obtain ⟨ev2, H2, H3, r1, r2, r3, r4, r5, r6, r7⟩ := push_field (by' := 16) (H0 := H0) (b := a) (j := 1) edC_len edC_all (by decide) x h.blk (by show 1 < 11; omega) h.e hn h.ha h.ext (roomy_mono (n := 1000) (by decide) (by omega))
  refine ⟨ev2, H2, H3, r1, r2, ⟨r5, r6, h.ha, r3, Rw.keepX h.w r7 h.blk (by decide), ?_, by simp; omega, h.bw, h.bn⟩, r4⟩
  obtain ⟨us, hi, hap⟩ := h.nx
  refine ⟨us, hi.keep (fun b hb => ?_) (fun u hu b hb => ?_), hap⟩
  · obtain ⟨cs, hc⟩ := hi.row.blk hb
    rw [hc]
    exact r7 b _ (fun hh => by subst hh; rw [h.blk] at hc; simp [plB] at hc) (fun cs' hh => by cases hh) hc
  · obtain ⟨cs, hc⟩ := hi.blk hu hb
    rw [hc]
    exact r7 b _ (fun hh => by subst hh; rw [h.blk] at hc; simp [plB] at hc) (fun cs' hh => by cases hh) hc
theorem lrings_loop4 {n i : Nat} (hi : i < n) (hn6 : n ≤ 6) {q0 : PlanD} {G : Nat → Nat → Int} (hG : ∀ v, G v v = (v : Int)) {c : Int} (hm : 100 < m) {K : Ex → K (Value × Heap)} {Q : Heap → Value → Prop} :
    ∀ (q j k : Nat) (H : Heap), n - j = q → j ≤ n → q < k → PA H0 H a { q0 with next := tab n (upto (rgF n) G i j) } ev wv nv →
    (∀ H', PA H0 H' a { q0 with next := tab n (upto (rgF n) G i n) } ev wv nv → ∀ (x0 x1 x2 x3 x4 x5 x6 x9 x10 x11 x14 x15 x16 x17 x18 x19 x20 x21 x22 x23 x24 x25 x26 x27 x28 x29 x30 x31 x32 x33 x34 x35 x36 x37 x38 x39 x40 x41 x42 x43 x44 x45 x46 x47 x48 x49 x50 x51 x52 x53 x54 x55 x56 x57 x58 x59 x60 x61 x62 x63 x64 x65 x66 x67 x68 x69 x70 x71 x72 x73 x74 x75 x76 x77 x78 x79 x80 x81 x82 x83 x84 x85 x86 x87 x88 x89 x90 x91 x92 x93 x94 x95 x96 x97 x98 x99 x100 x101 x102 x103 x104 x105 x106 x107 x108 x109 x110 x111 x112 x113 x114 x115 x116 : Value), ∃ H2 rr, K .normal [x0, x1, x2, x3, x4, x5, x6, (.pointer (some ⟨a, 0, none⟩)), (.int .i64 n), x9, x10, x11, (.int .u16 c), (.int .i64 (i + 1 : Nat)), x14, x15, x16, x17, x18, x19, x20, x21, x22, x23, x24, x25, x26, x27, x28, x29, x30, x31, x32, x33, x34, x35, x36, x37, x38, x39, x40, x41, x42, x43, x44, x45, x46, x47, x48, x49, x50, x51, x52, x53, x54, x55, x56, x57, x58, x59, x60, x61, x62, x63, x64, x65, x66, x67, x68, x69, x70, x71, x72, x73, x74, x75, x76, x77, x78, x79, x80, x81, x82, x83, x84, x85, x86, x87, x88, x89, x90, x91, x92, x93, x94, x95, x96, x97, x98, x99, x100, x101, x102, x103, x104, x105, x106, x107, x108, x109, x110, x111, x112, x113, x114, x115, x116] H' = some (rr, H2) ∧ Q H2 rr) → ∀ (x0 x1 x2 x3 x4 x5 x6 x9 x10 x11 x15 x16 x17 x18 x19 x20 x21 x22 x23 x24 x25 x26 x27 x28 x29 x30 x31 x32 x33 x34 x35 x36 x37 x38 x39 x40 x41 x42 x43 x44 x45 x46 x47 x48 x49 x50 x51 x52 x53 x54 x55 x56 x57 x58 x59 x60 x61 x62 x63 x64 x65 x66 x67 x68 x69 x70 x71 x72 x73 x74 x75 x76 x77 x78 x79 x80 x81 x82 x83 x84 x85 x86 x87 x88 x89 x90 x91 x92 x93 x94 x95 x96 x97 x98 x99 x100 x101 x102 x103 x104 x105 x106 x107 x108 x109 x110 x111 x112 x113 x114 x115 x116 : Value),
    ∃ H' rr, loopN k (runCode Try.prog (lvl Try.prog pk12 m) (loopN m) f9_c4) (f9_k4 (lvl Try.prog pk12 m) (loopN m) K) [x0, x1, x2, x3, x4, x5, x6, (.pointer (some ⟨a, 0, none⟩)), (.int .i64 n), x9, x10, x11, (.int .u16 c), (.int .i64 (i : Nat)), (.int .i64 (j : Nat)), x15, x16, x17, x18, x19, x20, x21, x22, x23, x24, x25, x26, x27, x28, x29, x30, x31, x32, x33, x34, x35, x36, x37, x38, x39, x40, x41, x42, x43, x44, x45, x46, x47, x48, x49, x50, x51, x52, x53, x54, x55, x56, x57, x58, x59, x60, x61, x62, x63, x64, x65, x66, x67, x68, x69, x70, x71, x72, x73, x74, x75, x76, x77, x78, x79, x80, x81, x82, x83, x84, x85, x86, x87, x88, x89, x90, x91, x92, x93, x94, x95, x96, x97, x98, x99, x100, x101, x102, x103, x104, x105, x106, x107, x108, x109, x110, x111, x112, x113, x114, x115, x116] H = some (rr, H') ∧ Q H' rr := by
  intro q
  induction q with
  | zero =>
    intro j k H hq hj hk hA hK
    intros
    obtain ⟨k, rfl⟩ : ∃ n, k = n + 1 := ⟨k - 1, by omega⟩
    obtain rfl : j = n := by omega
    have e : decide ((j : Int) < (j : Int)) = false := by simp
    have e3 : IntKind.i64.wrap ((i : Int) + 1) = ((i + 1 : Nat) : Int) := by rw [wrap_i64 (by omega) (by omega)]; omega
    rw [loop_succ, f9_b4_eq]
    unfold f9_b4
    simp -implicitDefEqProofs only [r_opt, r_ret, ob_some, ifB_true, iteV_true, iteV_false, r_gdt, r_gdt2, r_gdtf, r_gdtf2, r_gdff, r_gdff2, r_gdft, r_gdft2, r_gdu, r_gdu2, pick_t, pick_f, ext_0, ext_1, x_newB, r_nil, r_fAddr, Nat.zero_add, b_lss, b_leq, b_gtr, b_geq, b_eql, b_neq, u_not, Bool.not_true, Bool.not_false, oneOf_one, oneOf_two, again_normal, again_exit, again_ret, Bool.and_true, e]
    rw [f9_e4_8_eq]
    unfold f9_e4_8
    simp -implicitDefEqProofs only [r_opt, r_ret, ob_some, ifB_true, iteV_true, iteV_false, r_gdt, r_gdt2, r_gdtf, r_gdtf2, r_gdff, r_gdff2, r_gdft, r_gdft2, r_gdu, r_gdu2, pick_t, pick_f, ext_0, ext_1, x_newB, r_nil, r_fAddr, Nat.zero_add, b_lss, b_leq, b_gtr, b_geq, b_eql, b_neq, u_not, Bool.not_true, Bool.not_false, oneOf_one, oneOf_two, again_normal, again_exit, again_ret, Bool.and_true, b_add, e3]
    exact hK H hA ..
  | succ q ih =>
    intro j k H hq hj hk hA hK
    intros
    obtain ⟨k, rfl⟩ : ∃ n, k = n + 1 := ⟨k - 1, by omega⟩
    have e : decide ((j : Int) < (n : Int)) = true := decide_eq_true (by omega)
    have e3 : IntKind.i64.wrap ((j : Int) + 1) = ((j + 1 : Nat) : Int) := by rw [wrap_i64 (by omega) (by omega)]; omega
    have e4 : IntKind.i64.wrap ((i : Int) + 1) = ((i + 1 : Nat) : Int) := by rw [wrap_i64 (by omega) (by omega)]; omega
    have e5 := remI (i + 1) n n rfl (by omega)
    have l10 := ld_pl hA.blk 10 _ rfl
    obtain ⟨a1, u, a2, H', g1, g2, g3, g4, g5, g6⟩ := hA.set rfl hi (w := j) (by omega) (((i + 1) % n : Nat) : Int)
    have step : ∀ x : Int, x = rgF n i j → (tab n fun v' w' => if v' = i ∧ w' = j then x else upto (rgF n) G i j v' w') = tab n (upto (rgF n) G i (j + 1)) := fun x hx => tab_ext fun v w hv hw => by
      unfold upto
      by_cases h1 : v = i ∧ w = j
      · obtain ⟨rfl, rfl⟩ := h1
        rw [if_pos ⟨rfl, rfl⟩, if_pos (.inr ⟨rfl, by omega⟩), hx]
      · rw [if_neg h1]
        by_cases h2 : v < i ∨ (v = i ∧ w < j)
        · rw [if_pos h2, if_pos (by omega)]
        · rw [if_neg h2, if_neg (by omega)]
    rw [loop_succ, f9_b4_eq]
    unfold f9_b4
    cases c : ((i : Int) != (j : Int)) with
    | true =>
      have hne : i ≠ j := by simp at c; omega
      simp -implicitDefEqProofs only [r_opt, r_ret, ob_some, ifB_true, iteV_true, iteV_false, r_gdt, r_gdt2, r_gdtf, r_gdtf2, r_gdff, r_gdff2, r_gdft, r_gdft2, r_gdu, r_gdu2, pick_t, pick_f, ext_0, ext_1, x_newB, r_nil, r_fAddr, Nat.zero_add, b_lss, b_leq, b_gtr, b_geq, b_eql, b_neq, u_not, Bool.not_true, Bool.not_false, oneOf_one, oneOf_two, again_normal, again_exit, again_ret, Bool.and_true, l10, g1, g2, e, c, b_add, e4, e5, g4, g5, e3]
      rw [step _ (by unfold rgF; rw [if_pos hne])] at g6
      exact ih (j + 1) k H' (by omega) (by omega) (by omega) g6 hK ..
    | false =>
      have hne : i = j := by simp at c; omega
      simp -implicitDefEqProofs only [r_opt, r_ret, ob_some, ifB_true, iteV_true, iteV_false, r_gdt, r_gdt2, r_gdtf, r_gdtf2, r_gdff, r_gdff2, r_gdft, r_gdft2, r_gdu, r_gdu2, pick_t, pick_f, ext_0, ext_1, x_newB, r_nil, r_fAddr, Nat.zero_add, b_lss, b_leq, b_gtr, b_geq, b_eql, b_neq, u_not, Bool.not_true, Bool.not_false, oneOf_one, oneOf_two, again_normal, again_exit, again_ret, Bool.and_true, e, c, b_add, e3]
      refine ih (j + 1) k H (by omega) (by omega) (by omega) ?_ hK ..
      have : tab n (upto (rgF n) G i j) = tab n (upto (rgF n) G i (j + 1)) := tab_ext fun v w hv hw => by
        unfold upto
        by_cases h1 : v = i ∧ w = j
        · obtain ⟨rfl, rfl⟩ := h1
          rw [if_neg (by omega), if_pos (.inr ⟨rfl, by omega⟩)]
          unfold rgF
          rw [if_neg (by omega), ← hne, hG]
        · by_cases h2 : v < i ∨ (v = i ∧ w < j)
          · rw [if_pos h2, if_pos (by omega)]
          · rw [if_neg h2, if_neg (by omega)]
      rw [← this]
      exact hA
theorem lrings_loop3 {n : Nat} (hn3 : 3 ≤ n) (hn6 : n ≤ 6) {q0 : PlanD} {G : Nat → Nat → Int} (hG : ∀ v, G v v = (v : Int)) (hm : 17592186045600 < m) (hm2 : m ≤ 72057594037927936) (herr : errR { q0 with next := tab n (rgF n) } = 140) :
    ∀ (q i k : Nat) (H : Heap), n - i = q → i ≤ n → q < k → PA H0 H a { q0 with next := tab n (upto (rgF n) G i 0) } ev wv nv → ∀ (x0 x1 x2 x3 x4 x5 x6 x9 x10 x11 x14 x15 x16 x17 x18 x19 x20 x21 x22 x23 x24 x25 x26 x27 x28 x29 x30 x31 x32 x33 x34 x35 x36 x37 x38 x39 x40 x41 x42 x43 x44 x45 x46 x47 x48 x49 x50 x51 x52 x53 x54 x55 x56 x57 x58 x59 x60 x61 x62 x63 x64 x65 x66 x67 x68 x69 x70 x71 x72 x73 x74 x75 x76 x77 x78 x79 x80 x81 x82 x83 x84 x85 x86 x87 x88 x89 x90 x91 x92 x93 x94 x95 x96 x97 x98 x99 x100 x101 x102 x103 x104 x105 x106 x107 x108 x109 x110 x111 x112 x113 x114 x115 x116 : Value),
    ∃ H' rr, loopN k (runCode Try.prog (lvl Try.prog pk12 m) (loopN m) f9_c3) (f9_k3 (lvl Try.prog pk12 m) (loopN m)) [x0, x1, x2, x3, x4, x5, x6, (.pointer (some ⟨a, 0, none⟩)), (.int .i64 n), x9, x10, x11, (.int .u16 0), (.int .i64 (i : Nat)), x14, x15, x16, x17, x18, x19, x20, x21, x22, x23, x24, x25, x26, x27, x28, x29, x30, x31, x32, x33, x34, x35, x36, x37, x38, x39, x40, x41, x42, x43, x44, x45, x46, x47, x48, x49, x50, x51, x52, x53, x54, x55, x56, x57, x58, x59, x60, x61, x62, x63, x64, x65, x66, x67, x68, x69, x70, x71, x72, x73, x74, x75, x76, x77, x78, x79, x80, x81, x82, x83, x84, x85, x86, x87, x88, x89, x90, x91, x92, x93, x94, x95, x96, x97, x98, x99, x100, x101, x102, x103, x104, x105, x106, x107, x108, x109, x110, x111, x112, x113, x114, x115, x116] H = some (rr, H') ∧ rr = .bool true := by
  intro q
  induction q with
  | zero =>
    intro i k H hq hi hk hA
    intros
    obtain ⟨k, rfl⟩ : ∃ n, k = n + 1 := ⟨k - 1, by omega⟩
    obtain rfl : i = n := by omega
    have e : decide ((i : Int) < (i : Int)) = false := by simp
    obtain ⟨H2, g2, x2⟩ := known14_is (H := H) (m := m) (by omega) (by omega)
    have ht : tab i (upto (rgF i) G i 0) = tab i (rgF i) := tab_ext fun v w hv hw => by
      unfold upto
      rw [if_pos (.inl hv)]
    rw [ht] at hA
    have hA2 := hA.on x2
    have l11 := ld_pl11 hA2.blk
    obtain ⟨H3, g3, x3⟩ := Check_is hA2.pv (m := m) (by omega) (by omega)
    rw [herr] at g3
    have e0 : ((0 : Int) == 0) = true := rfl
    have e1 : ((140 : Int) == 140) = true := rfl
    rw [loop_succ, f9_b3_eq]
    unfold f9_b3
    simp -implicitDefEqProofs only [r_opt, r_ret, ob_some, ifB_true, iteV_true, iteV_false, r_gdt, r_gdt2, r_gdtf, r_gdtf2, r_gdff, r_gdff2, r_gdft, r_gdft2, r_gdu, r_gdu2, pick_t, pick_f, ext_0, ext_1, x_newB, r_nil, r_fAddr, Nat.zero_add, b_lss, b_leq, b_gtr, b_geq, b_eql, b_neq, u_not, Bool.not_true, Bool.not_false, oneOf_one, oneOf_two, again_normal, again_exit, again_ret, Bool.and_true, e]
    rw [f9_e3_6_eq]
    unfold f9_e3_6
    simp -implicitDefEqProofs only [r_opt, r_ret, ob_some, ifB_true, iteV_true, iteV_false, r_gdt, r_gdt2, r_gdtf, r_gdtf2, r_gdff, r_gdff2, r_gdft, r_gdft2, r_gdu, r_gdu2, pick_t, pick_f, ext_0, ext_1, x_newB, r_nil, r_fAddr, Nat.zero_add, b_lss, b_leq, b_gtr, b_geq, b_eql, b_neq, u_not, Bool.not_true, Bool.not_false, oneOf_one, oneOf_two, again_normal, again_exit, again_ret, Bool.and_true, g2, e0, l11, g3, e1]
    exact ⟨_, _, rfl, rfl⟩
  | succ q ih =>
    intro i k H hq hi hk hA
    intros
    obtain ⟨k, rfl⟩ : ∃ n, k = n + 1 := ⟨k - 1, by omega⟩
    have e : decide ((i : Int) < (n : Int)) = true := decide_eq_true (by omega)
    rw [loop_succ, f9_b3_eq]
    unfold f9_b3
    simp -implicitDefEqProofs only [r_opt, r_ret, ob_some, ifB_true, iteV_true, iteV_false, r_gdt, r_gdt2, r_gdtf, r_gdtf2, r_gdff, r_gdff2, r_gdft, r_gdft2, r_gdu, r_gdu2, pick_t, pick_f, ext_0, ext_1, x_newB, r_nil, r_fAddr, Nat.zero_add, b_lss, b_leq, b_gtr, b_geq, b_eql, b_neq, u_not, Bool.not_true, Bool.not_false, oneOf_one, oneOf_two, again_normal, again_exit, again_ret, Bool.and_true, e]
    refine lrings_loop4 (q0 := q0) (i := i) (by omega) hn6 hG (c := 0) (by omega) (Q := fun _ rr => rr = .bool true) n 0 m H (by omega) (by omega) (by omega) hA (fun H' hA' => ?_) ..
    intros
    simp -implicitDefEqProofs only [r_opt, r_ret, ob_some, ifB_true, iteV_true, iteV_false, r_gdt, r_gdt2, r_gdtf, r_gdtf2, r_gdff, r_gdff2, r_gdft, r_gdft2, r_gdu, r_gdu2, pick_t, pick_f, ext_0, ext_1, x_newB, r_nil, r_fAddr, Nat.zero_add, b_lss, b_leq, b_gtr, b_geq, b_eql, b_neq, u_not, Bool.not_true, Bool.not_false, oneOf_one, oneOf_two, again_normal, again_exit, again_ret, Bool.and_true]
    refine ih (i + 1) k H' (by omega) (by omega) (by omega) ?_ ..
    have : tab n (upto (rgF n) G i n) = tab n (upto (rgF n) G (i + 1) 0) := tab_ext fun v w hv hw => by
      unfold upto
      by_cases h2 : v < i ∨ (v = i ∧ w < n)
      · rw [if_pos h2, if_pos (by omega)]
      · rw [if_neg h2, if_neg (by omega)]
    rw [← this]
    exact hA'
theorem lrings_loop2 {n i : Nat} (hi : i < n) (hn6 : n ≤ 6) {q0 : PlanD} (hm : 100 < m) {K : Ex → K (Value × Heap)} {Q : Heap → Value → Prop} :
    ∀ (q j k : Nat) (H : Heap), n - j = q → j ≤ n → q < k → PA H0 H a { q0 with next := tab n (upto chF (fun _ w => (w : Int)) i j) } ev wv nv →
    (∀ H', PA H0 H' a { q0 with next := tab n (upto chF (fun _ w => (w : Int)) i n) } ev wv nv → ∀ (x0 x1 x2 x3 x4 x5 x6 x9 x11 x12 x13 x14 x15 x16 x17 x18 x19 x20 x21 x22 x23 x24 x25 x26 x27 x28 x29 x30 x31 x32 x33 x34 x35 x36 x37 x38 x39 x40 x41 x42 x43 x44 x45 x46 x47 x48 x49 x50 x51 x52 x53 x54 x55 x56 x57 x58 x59 x60 x61 x62 x63 x64 x65 x66 x67 x68 x69 x70 x71 x72 x73 x74 x75 x76 x77 x78 x79 x80 x81 x82 x83 x84 x85 x86 x87 x88 x89 x90 x91 x92 x93 x94 x95 x96 x97 x98 x99 x100 x101 x102 x103 x104 x105 x106 x107 x108 x109 x110 x111 x112 x113 x114 x115 x116 : Value), ∃ H2 rr, K .normal [x0, x1, x2, x3, x4, x5, x6, (.pointer (some ⟨a, 0, none⟩)), (.int .i64 n), x9, (.int .i64 (i + 1 : Nat)), x11, x12, x13, x14, x15, x16, x17, x18, x19, x20, x21, x22, x23, x24, x25, x26, x27, x28, x29, x30, x31, x32, x33, x34, x35, x36, x37, x38, x39, x40, x41, x42, x43, x44, x45, x46, x47, x48, x49, x50, x51, x52, x53, x54, x55, x56, x57, x58, x59, x60, x61, x62, x63, x64, x65, x66, x67, x68, x69, x70, x71, x72, x73, x74, x75, x76, x77, x78, x79, x80, x81, x82, x83, x84, x85, x86, x87, x88, x89, x90, x91, x92, x93, x94, x95, x96, x97, x98, x99, x100, x101, x102, x103, x104, x105, x106, x107, x108, x109, x110, x111, x112, x113, x114, x115, x116] H' = some (rr, H2) ∧ Q H2 rr) → ∀ (x0 x1 x2 x3 x4 x5 x6 x9 x12 x13 x14 x15 x16 x17 x18 x19 x20 x21 x22 x23 x24 x25 x26 x27 x28 x29 x30 x31 x32 x33 x34 x35 x36 x37 x38 x39 x40 x41 x42 x43 x44 x45 x46 x47 x48 x49 x50 x51 x52 x53 x54 x55 x56 x57 x58 x59 x60 x61 x62 x63 x64 x65 x66 x67 x68 x69 x70 x71 x72 x73 x74 x75 x76 x77 x78 x79 x80 x81 x82 x83 x84 x85 x86 x87 x88 x89 x90 x91 x92 x93 x94 x95 x96 x97 x98 x99 x100 x101 x102 x103 x104 x105 x106 x107 x108 x109 x110 x111 x112 x113 x114 x115 x116 : Value),
    ∃ H' rr, loopN k (runCode Try.prog (lvl Try.prog pk12 m) (loopN m) f9_c2) (f9_k2 (lvl Try.prog pk12 m) (loopN m) K) [x0, x1, x2, x3, x4, x5, x6, (.pointer (some ⟨a, 0, none⟩)), (.int .i64 n), x9, (.int .i64 (i : Nat)), (.int .i64 (j : Nat)), x12, x13, x14, x15, x16, x17, x18, x19, x20, x21, x22, x23, x24, x25, x26, x27, x28, x29, x30, x31, x32, x33, x34, x35, x36, x37, x38, x39, x40, x41, x42, x43, x44, x45, x46, x47, x48, x49, x50, x51, x52, x53, x54, x55, x56, x57, x58, x59, x60, x61, x62, x63, x64, x65, x66, x67, x68, x69, x70, x71, x72, x73, x74, x75, x76, x77, x78, x79, x80, x81, x82, x83, x84, x85, x86, x87, x88, x89, x90, x91, x92, x93, x94, x95, x96, x97, x98, x99, x100, x101, x102, x103, x104, x105, x106, x107, x108, x109, x110, x111, x112, x113, x114, x115, x116] H = some (rr, H') ∧ Q H' rr := by
  intro q
  induction q with
  | zero =>
    intro j k H hq hj hk hA hK
    intros
    obtain ⟨k, rfl⟩ : ∃ n, k = n + 1 := ⟨k - 1, by omega⟩
    obtain rfl : j = n := by omega
    have e : decide ((j : Int) < (j : Int)) = false := by simp
    have e3 : IntKind.i64.wrap ((i : Int) + 1) = ((i + 1 : Nat) : Int) := by rw [wrap_i64 (by omega) (by omega)]; omega
    rw [loop_succ, f9_b2_eq]
    unfold f9_b2
    simp -implicitDefEqProofs only [r_opt, r_ret, ob_some, ifB_true, iteV_true, iteV_false, r_gdt, r_gdt2, r_gdtf, r_gdtf2, r_gdff, r_gdff2, r_gdft, r_gdft2, r_gdu, r_gdu2, pick_t, pick_f, ext_0, ext_1, x_newB, r_nil, r_fAddr, Nat.zero_add, b_lss, b_leq, b_gtr, b_geq, b_eql, b_neq, u_not, Bool.not_true, Bool.not_false, oneOf_one, oneOf_two, again_normal, again_exit, again_ret, Bool.and_true, e]
    rw [f9_e2_4_eq]
    unfold f9_e2_4
    simp -implicitDefEqProofs only [r_opt, r_ret, ob_some, ifB_true, iteV_true, iteV_false, r_gdt, r_gdt2, r_gdtf, r_gdtf2, r_gdff, r_gdff2, r_gdft, r_gdft2, r_gdu, r_gdu2, pick_t, pick_f, ext_0, ext_1, x_newB, r_nil, r_fAddr, Nat.zero_add, b_lss, b_leq, b_gtr, b_geq, b_eql, b_neq, u_not, Bool.not_true, Bool.not_false, oneOf_one, oneOf_two, again_normal, again_exit, again_ret, Bool.and_true, b_add, e3]
    exact hK H hA ..
  | succ q ih =>
    intro j k H hq hj hk hA hK
    intros
    obtain ⟨k, rfl⟩ : ∃ n, k = n + 1 := ⟨k - 1, by omega⟩
    have e : decide ((j : Int) < (n : Int)) = true := decide_eq_true (by omega)
    have e3 : IntKind.i64.wrap ((j : Int) + 1) = ((j + 1 : Nat) : Int) := by rw [wrap_i64 (by omega) (by omega)]; omega
    have l10 := ld_pl hA.blk 10 _ rfl
    have step : ∀ x : Int, x = chF i j → (tab n fun v' w' => if v' = i ∧ w' = j then x else upto chF (fun _ w => (w : Int)) i j v' w') = tab n (upto chF (fun _ w => (w : Int)) i (j + 1)) := fun x hx => tab_ext fun v w hv hw => by
      unfold upto
      by_cases h1 : v = i ∧ w = j
      · obtain ⟨rfl, rfl⟩ := h1
        rw [if_pos ⟨rfl, rfl⟩, if_pos (.inr ⟨rfl, by omega⟩), hx]
      · rw [if_neg h1]
        by_cases h2 : v < i ∨ (v = i ∧ w < j)
        · rw [if_pos h2, if_pos (by omega)]
        · rw [if_neg h2, if_neg (by omega)]
    rw [loop_succ, f9_b2_eq]
    unfold f9_b2
    by_cases c1 : i < j
    · have d1 : decide ((i : Int) < (j : Int)) = true := decide_eq_true (by omega)
      have d2 : decide ((j : Int) < (i : Int)) = false := decide_eq_false (by omega)
      have e4 : IntKind.i64.wrap ((i : Int) + 1) = ((i + 1 : Nat) : Int) := by rw [wrap_i64 (by omega) (by omega)]; omega
      obtain ⟨a1, u, a2, H', g1, g2, g3, g4, g5, g6⟩ := hA.set rfl hi (w := j) (by omega) ((i + 1 : Nat) : Int)
      simp -implicitDefEqProofs only [r_opt, r_ret, ob_some, ifB_true, iteV_true, iteV_false, r_gdt, r_gdt2, r_gdtf, r_gdtf2, r_gdff, r_gdff2, r_gdft, r_gdft2, r_gdu, r_gdu2, pick_t, pick_f, ext_0, ext_1, x_newB, r_nil, r_fAddr, Nat.zero_add, b_lss, b_leq, b_gtr, b_geq, b_eql, b_neq, u_not, Bool.not_true, Bool.not_false, oneOf_one, oneOf_two, again_normal, again_exit, again_ret, Bool.and_true, e, d1, l10, g1, g2, b_add, e4, g4, g5, d2, e3]
      rw [step _ (by unfold chF; rw [if_pos c1])] at g6
      exact ih (j + 1) k H' (by omega) (by omega) (by omega) g6 hK ..
    · have d1 : decide ((i : Int) < (j : Int)) = false := decide_eq_false (by omega)
      by_cases c2 : j < i
      · have d2 : decide ((j : Int) < (i : Int)) = true := decide_eq_true (by omega)
        have e4 : IntKind.i64.wrap ((i : Int) - 1) = ((i - 1 : Nat) : Int) := by rw [wrap_i64 (by omega) (by omega)]; omega
        obtain ⟨a1, u, a2, H', g1, g2, g3, g4, g5, g6⟩ := hA.set rfl hi (w := j) (by omega) ((i - 1 : Nat) : Int)
        simp -implicitDefEqProofs only [r_opt, r_ret, ob_some, ifB_true, iteV_true, iteV_false, r_gdt, r_gdt2, r_gdtf, r_gdtf2, r_gdff, r_gdff2, r_gdft, r_gdft2, r_gdu, r_gdu2, pick_t, pick_f, ext_0, ext_1, x_newB, r_nil, r_fAddr, Nat.zero_add, b_lss, b_leq, b_gtr, b_geq, b_eql, b_neq, u_not, Bool.not_true, Bool.not_false, oneOf_one, oneOf_two, again_normal, again_exit, again_ret, Bool.and_true, e, d1, d2, l10, g1, g2, b_sub, e4, g4, g5, b_add, e3]
        rw [step _ (by unfold chF; rw [if_neg c1, if_pos c2])] at g6
        exact ih (j + 1) k H' (by omega) (by omega) (by omega) g6 hK ..
      · have d2 : decide ((j : Int) < (i : Int)) = false := decide_eq_false (by omega)
        simp -implicitDefEqProofs only [r_opt, r_ret, ob_some, ifB_true, iteV_true, iteV_false, r_gdt, r_gdt2, r_gdtf, r_gdtf2, r_gdff, r_gdff2, r_gdft, r_gdft2, r_gdu, r_gdu2, pick_t, pick_f, ext_0, ext_1, x_newB, r_nil, r_fAddr, Nat.zero_add, b_lss, b_leq, b_gtr, b_geq, b_eql, b_neq, u_not, Bool.not_true, Bool.not_false, oneOf_one, oneOf_two, again_normal, again_exit, again_ret, Bool.and_true, e, d1, d2, b_add, e3]
        refine ih (j + 1) k H (by omega) (by omega) (by omega) ?_ hK ..
        have : tab n (upto chF (fun _ w => (w : Int)) i j) = tab n (upto chF (fun _ w => (w : Int)) i (j + 1)) := tab_ext fun v w hv hw => by
          unfold upto
          by_cases h1 : v = i ∧ w = j
          · obtain ⟨rfl, rfl⟩ := h1
            rw [if_neg (by omega), if_pos (.inr ⟨rfl, by omega⟩)]
            unfold chF
            rw [if_neg c1, if_neg c2]
          · by_cases h2 : v < i ∨ (v = i ∧ w < j)
            · rw [if_pos h2, if_pos (by omega)]
            · rw [if_neg h2, if_neg (by omega)]
        rw [← this]
        exact hA
theorem lrings_loop1 {n : Nat} (hn3 : 3 ≤ n) (hn6 : n ≤ 6) {q0 : PlanD} (hq0 : q0.edges = chainE (n - 1)) (hen : New H0 ev) (hm : 17592186045600 < m) (hm2 : m ≤ 72057594037927936) (herr1 : errR { q0 with next := tab n chF } = 0) (herr2 : errR { q0 with edges := chainE (n - 1) ++ [(0, ((n - 1 : Nat) : Int))], next := tab n (rgF n) } = 140) :
    ∀ (q i k : Nat) (H : Heap), n - i = q → i ≤ n → q < k → PA H0 H a { q0 with next := tab n (upto chF (fun _ w => (w : Int)) i 0) } ev wv nv → ∀ (x0 x1 x2 x3 x4 x5 x6 x9 x11 x12 x13 x14 x15 x16 x17 x18 x19 x20 x21 x22 x23 x24 x25 x26 x27 x28 x29 x30 x31 x32 x33 x34 x35 x36 x37 x38 x39 x40 x41 x42 x43 x44 x45 x46 x47 x48 x49 x50 x51 x52 x53 x54 x55 x56 x57 x58 x59 x60 x61 x62 x63 x64 x65 x66 x67 x68 x69 x70 x71 x72 x73 x74 x75 x76 x77 x78 x79 x80 x81 x82 x83 x84 x85 x86 x87 x88 x89 x90 x91 x92 x93 x94 x95 x96 x97 x98 x99 x100 x101 x102 x103 x104 x105 x106 x107 x108 x109 x110 x111 x112 x113 x114 x115 x116 : Value),
    ∃ H' rr, loopN k (runCode Try.prog (lvl Try.prog pk12 m) (loopN m) f9_c1) (f9_k1 (lvl Try.prog pk12 m) (loopN m)) [x0, x1, x2, x3, x4, x5, x6, (.pointer (some ⟨a, 0, none⟩)), (.int .i64 n), x9, (.int .i64 (i : Nat)), x11, x12, x13, x14, x15, x16, x17, x18, x19, x20, x21, x22, x23, x24, x25, x26, x27, x28, x29, x30, x31, x32, x33, x34, x35, x36, x37, x38, x39, x40, x41, x42, x43, x44, x45, x46, x47, x48, x49, x50, x51, x52, x53, x54, x55, x56, x57, x58, x59, x60, x61, x62, x63, x64, x65, x66, x67, x68, x69, x70, x71, x72, x73, x74, x75, x76, x77, x78, x79, x80, x81, x82, x83, x84, x85, x86, x87, x88, x89, x90, x91, x92, x93, x94, x95, x96, x97, x98, x99, x100, x101, x102, x103, x104, x105, x106, x107, x108, x109, x110, x111, x112, x113, x114, x115, x116] H = some (rr, H') ∧ rr = .bool true := by
  intro q
  induction q with
  | zero =>
    intro i k H hq hi hk hA
    intros
    obtain ⟨k, rfl⟩ : ∃ n, k = n + 1 := ⟨k - 1, by omega⟩
    obtain rfl : i = n := by omega
    have e : decide ((i : Int) < (i : Int)) = false := by simp
    have ht : tab i (upto chF (fun _ w => (w : Int)) i 0) = tab i chF := tab_ext fun v w hv hw => by
      unfold upto
      rw [if_pos (.inl hv)]
    rw [ht] at hA
    have l11 := ld_pl11 hA.blk
    obtain ⟨H2, g2, x2⟩ := Check_is hA.pv (m := m) (by omega) (by omega)
    rw [herr1] at g2
    have hA2 := hA.on x2
    have l1 := ld_pl hA2.blk 1 _ rfl
    have e1 : IntKind.i64.wrap ((i : Int) - 1) = ((i - 1 : Nat) : Int) := by rw [wrap_i64 (by omega) (by omega)]; omega
    have be := bEd 0 ((i - 1 : Nat) : Int)
    have hel : (chainE (i - 1)).length = i - 1 := by simp [chainE]
    obtain ⟨ev2, H3, H4, r1, r2, r3, r4⟩ := hA2.pushE hen (by show q0.edges.length ≤ 100; rw [hq0, hel]; omega) (0, ((i - 1 : Nat) : Int))
    have hA4 : PA H0 H4 a { { q0 with edges := chainE (i - 1) ++ [(0, ((i - 1 : Nat) : Int))] } with next := tab i (upto (rgF i) chF 0 0) } ev2 wv nv := by
      have h1 : tab i (upto (rgF i) chF 0 0) = tab i chF := tab_ext fun v w hv hw => by
        unfold upto
        rw [if_neg (by omega)]
      rw [h1, ← hq0]
      exact r3
    rw [loop_succ, f9_b1_eq]
    unfold f9_b1
    simp -implicitDefEqProofs only [r_opt, r_ret, ob_some, ifB_true, iteV_true, iteV_false, r_gdt, r_gdt2, r_gdtf, r_gdtf2, r_gdff, r_gdff2, r_gdft, r_gdft2, r_gdu, r_gdu2, pick_t, pick_f, ext_0, ext_1, x_newB, r_nil, r_fAddr, Nat.zero_add, b_lss, b_leq, b_gtr, b_geq, b_eql, b_neq, u_not, Bool.not_true, Bool.not_false, oneOf_one, oneOf_two, again_normal, again_exit, again_ret, Bool.and_true, e]
    rw [f9_e1_2_eq]
    unfold f9_e1_2
    simp -implicitDefEqProofs only [r_opt, r_ret, ob_some, ifB_true, iteV_true, iteV_false, r_gdt, r_gdt2, r_gdtf, r_gdtf2, r_gdff, r_gdff2, r_gdft, r_gdft2, r_gdu, r_gdu2, pick_t, pick_f, ext_0, ext_1, x_newB, r_nil, r_fAddr, Nat.zero_add, b_lss, b_leq, b_gtr, b_geq, b_eql, b_neq, u_not, Bool.not_true, Bool.not_false, oneOf_one, oneOf_two, again_normal, again_exit, again_ret, Bool.and_true, l11, g2, l1, b_sub, e1, be, one_edge, r1, r2]
    exact lrings_loop3 hn3 hn6 (G := chF) (fun v => by unfold chF; simp) hm hm2 herr2 i 0 m H4 (by omega) (by omega) (by omega) hA4 ..
  | succ q ih =>
    intro i k H hq hi hk hA
    intros
    obtain ⟨k, rfl⟩ : ∃ n, k = n + 1 := ⟨k - 1, by omega⟩
    have e : decide ((i : Int) < (n : Int)) = true := decide_eq_true (by omega)
    rw [loop_succ, f9_b1_eq]
    unfold f9_b1
    simp -implicitDefEqProofs only [r_opt, r_ret, ob_some, ifB_true, iteV_true, iteV_false, r_gdt, r_gdt2, r_gdtf, r_gdtf2, r_gdff, r_gdff2, r_gdft, r_gdft2, r_gdu, r_gdu2, pick_t, pick_f, ext_0, ext_1, x_newB, r_nil, r_fAddr, Nat.zero_add, b_lss, b_leq, b_gtr, b_geq, b_eql, b_neq, u_not, Bool.not_true, Bool.not_false, oneOf_one, oneOf_two, again_normal, again_exit, again_ret, Bool.and_true, e]
    refine lrings_loop2 (q0 := q0) (i := i) (by omega) hn6 (by omega) (Q := fun _ rr => rr = .bool true) n 0 m H (by omega) (by omega) (by omega) hA (fun H' hA' => ?_) ..
    intros
    simp -implicitDefEqProofs only [r_opt, r_ret, ob_some, ifB_true, iteV_true, iteV_false, r_gdt, r_gdt2, r_gdtf, r_gdtf2, r_gdff, r_gdff2, r_gdft, r_gdft2, r_gdu, r_gdu2, pick_t, pick_f, ext_0, ext_1, x_newB, r_nil, r_fAddr, Nat.zero_add, b_lss, b_leq, b_gtr, b_geq, b_eql, b_neq, u_not, Bool.not_true, Bool.not_false, oneOf_one, oneOf_two, again_normal, again_exit, again_ret, Bool.and_true]
    refine ih (i + 1) k H' (by omega) (by omega) (by omega) ?_ ..
    have : tab n (upto chF (fun _ w => (w : Int)) i n) = tab n (upto chF (fun _ w => (w : Int)) (i + 1) 0) := tab_ext fun v w hv hw => by
      unfold upto
      by_cases h2 : v < i ∨ (v = i ∧ w < n)
      · rw [if_pos h2, if_pos (by omega)]
      · rw [if_neg h2, if_neg (by omega)]
    rw [← this]
    exact hA'
theorem lrings_loop0 {n : Nat} (hn3 : 3 ≤ n) (hn6 : n ≤ 6) {q0 : PlanD} (hnx : q0.next = tab n fun _ w => (w : Int)) (hm : 17592186045600 < m) (hm2 : m ≤ 72057594037927936) (herr1 : errR { q0 with edges := chainE (n - 1), next := tab n chF } = 0) (herr2 : errR { q0 with edges := chainE (n - 1) ++ [(0, ((n - 1 : Nat) : Int))], next := tab n (rgF n) } = 140) :
    ∀ (q i k : Nat) (H : Heap) (ev : Value), n - 1 - i = q → i ≤ n - 1 → q < k → PA H0 H a { q0 with edges := chainE i } ev wv nv → New H0 ev → ∀ (x0 x1 x2 x3 x4 x5 x6 x10 x11 x12 x13 x14 x15 x16 x17 x18 x19 x20 x21 x22 x23 x24 x25 x26 x27 x28 x29 x30 x31 x32 x33 x34 x35 x36 x37 x38 x39 x40 x41 x42 x43 x44 x45 x46 x47 x48 x49 x50 x51 x52 x53 x54 x55 x56 x57 x58 x59 x60 x61 x62 x63 x64 x65 x66 x67 x68 x69 x70 x71 x72 x73 x74 x75 x76 x77 x78 x79 x80 x81 x82 x83 x84 x85 x86 x87 x88 x89 x90 x91 x92 x93 x94 x95 x96 x97 x98 x99 x100 x101 x102 x103 x104 x105 x106 x107 x108 x109 x110 x111 x112 x113 x114 x115 x116 : Value),
    ∃ H' rr, loopN k (runCode Try.prog (lvl Try.prog pk12 m) (loopN m) f9_c0) (f9_k0 (lvl Try.prog pk12 m) (loopN m)) [x0, x1, x2, x3, x4, x5, x6, (.pointer (some ⟨a, 0, none⟩)), (.int .i64 n), (.int .i64 (i + 1 : Nat)), x10, x11, x12, x13, x14, x15, x16, x17, x18, x19, x20, x21, x22, x23, x24, x25, x26, x27, x28, x29, x30, x31, x32, x33, x34, x35, x36, x37, x38, x39, x40, x41, x42, x43, x44, x45, x46, x47, x48, x49, x50, x51, x52, x53, x54, x55, x56, x57, x58, x59, x60, x61, x62, x63, x64, x65, x66, x67, x68, x69, x70, x71, x72, x73, x74, x75, x76, x77, x78, x79, x80, x81, x82, x83, x84, x85, x86, x87, x88, x89, x90, x91, x92, x93, x94, x95, x96, x97, x98, x99, x100, x101, x102, x103, x104, x105, x106, x107, x108, x109, x110, x111, x112, x113, x114, x115, x116] H = some (rr, H') ∧ rr = .bool true := by
  intro q
  induction q with
  | zero =>
    intro i k H ev hq hi hk hA hen
    intros
    obtain ⟨k, rfl⟩ : ∃ n, k = n + 1 := ⟨k - 1, by omega⟩
    obtain rfl : i = n - 1 := by omega
    have e : decide (((n - 1 + 1 : Nat) : Int) < (n : Int)) = false := decide_eq_false (by omega)
    have hA0 : PA H0 H a { { q0 with edges := chainE (n - 1) } with next := tab n (upto chF (fun _ w => (w : Int)) 0 0) } ev wv nv := by
      have h1 : tab n (upto chF (fun _ w => (w : Int)) 0 0) = q0.next := by
        rw [hnx]
        exact tab_ext fun v w hv hw => by unfold upto; rw [if_neg (by omega)]
      rw [h1]
      exact hA
    rw [loop_succ, f9_b0_eq]
    unfold f9_b0
    simp -implicitDefEqProofs only [r_opt, r_ret, ob_some, ifB_true, iteV_true, iteV_false, r_gdt, r_gdt2, r_gdtf, r_gdtf2, r_gdff, r_gdff2, r_gdft, r_gdft2, r_gdu, r_gdu2, pick_t, pick_f, ext_0, ext_1, x_newB, r_nil, r_fAddr, Nat.zero_add, b_lss, b_leq, b_gtr, b_geq, b_eql, b_neq, u_not, Bool.not_true, Bool.not_false, oneOf_one, oneOf_two, again_normal, again_exit, again_ret, Bool.and_true, e]
    rw [f9_e0_0_eq]
    unfold f9_e0_0
    exact lrings_loop1 (q0 := { q0 with edges := chainE (n - 1) }) hn3 hn6 rfl hen hm hm2 herr1 herr2 n 0 m H (by omega) (by omega) (by omega) hA0 ..
  | succ q ih =>
    intro i k H ev hq hi hk hA hen
    intros
    obtain ⟨k, rfl⟩ : ∃ n, k = n + 1 := ⟨k - 1, by omega⟩
    have e : decide (((i + 1 : Nat) : Int) < (n : Int)) = true := decide_eq_true (by omega)
    have e3 : IntKind.i64.wrap (((i + 1 : Nat) : Int) + 1) = ((i + 1 + 1 : Nat) : Int) := by rw [wrap_i64 (by omega) (by omega)]; omega
    have e4 : IntKind.i64.wrap (((i + 1 : Nat) : Int) - 1) = ((i : Nat) : Int) := by rw [wrap_i64 (by omega) (by omega)]; omega
    have l1 := ld_pl hA.blk 1 _ rfl
    have be := bEd ((i : Nat) : Int) ((i + 1 : Nat) : Int)
    obtain ⟨ev2, H3, H4, r1, r2, r3, r4⟩ := hA.pushE hen (by show (chainE i).length ≤ 100; simp [chainE]; omega) ((i : Int), ((i + 1 : Nat) : Int))
    rw [loop_succ, f9_b0_eq]
    unfold f9_b0
    simp -implicitDefEqProofs only [r_opt, r_ret, ob_some, ifB_true, iteV_true, iteV_false, r_gdt, r_gdt2, r_gdtf, r_gdtf2, r_gdff, r_gdff2, r_gdft, r_gdft2, r_gdu, r_gdu2, pick_t, pick_f, ext_0, ext_1, x_newB, r_nil, r_fAddr, Nat.zero_add, b_lss, b_leq, b_gtr, b_geq, b_eql, b_neq, u_not, Bool.not_true, Bool.not_false, oneOf_one, oneOf_two, again_normal, again_exit, again_ret, Bool.and_true, e, l1, b_sub, e4, be, one_edge, r1, r2, b_add, e3]
    refine ih (i + 1) k H4 ev2 (by omega) (by omega) (by omega) ?_ r4 ..
    have : chainE (i + 1) = chainE i ++ [((i : Int), ((i + 1 : Nat) : Int))] := by unfold chainE; rw [List.range_succ, List.map_append]; rfl
    rw [this]
    exact r3
theorem routeRings_true (nodes room more : Nat) (h1 : nodes < 256) (h2 : room < 256) (h3 : more < 256) :
    ∃ H', lvl Try.prog pk12 18014398509481984 (.func 9) [.int .u8 nodes, .int .u8 room, .int .u8 more] H = some (.bool true, H') ∧ True := by
  obtain ⟨H1, u, g1, hmd⟩ := make_is (m := 18014398509481984 - 1) nodes room more 0 h1 h2 h3 (by omega) (us_nil H) (by simp) (by simp) (by omega)
  obtain ⟨ev, wv, nv, rfl, x1, hp, he, hw, hra⟩ := hmd.pa
  have hok := mk_ok nodes room more 0 []
  have hn2 := mkN_is nodes
  have hn : (mkP nodes room more 0 []).nodes = (mkN nodes : Int) := rfl
  have hnx : (mkP nodes room more 0 []).next = tab (mkN nodes) fun _ w => (w : Int) := rfl
  have cp := pl_copy hp H1
  have hA := made_pa hra x1 he hw
  obtain ⟨p, hpp⟩ : ∃ p, p = mkP nodes room more 0 [] := ⟨_, rfl⟩
  obtain ⟨n, hnn⟩ : ∃ n, n = mkN nodes := ⟨_, rfl⟩
  rw [← hpp] at hp g1 hok hn hnx cp hA
  rw [← hnn] at hn hn2 hnx
  obtain ⟨H2, hH2⟩ : ∃ H2, H2 = H1 ++ [plB p ev wv nv] := ⟨_, rfl⟩
  rw [← hH2] at cp hA
  have l0 := ld_pl hA.blk 0 _ rfl
  rw [hn] at l0
  have z0 : ((0 : Nat) : Int) = 0 := rfl
  simp only [z0] at g1
  have main : ∃ H' rr, lvl Try.prog pk12 18014398509481984 (.func 9) [.int .u8 nodes, .int .u8 room, .int .u8 more] H = some (rr, H') ∧ rr = .bool true := by
    refine lvl_ex (Q := fun _ rr => rr = .bool true) (pk_no rfl rfl) (by omega) ?_
    rw [f9_eq]
    unfold f9
    by_cases h : n < 3
    · have d : decide ((n : Int) < 3) = true := decide_eq_true (by omega)
      obtain ⟨H3, g3, x3⟩ := known14_is (H := H2) (m := 18014398509481984 - 1) (by omega) (by omega)
      simp -implicitDefEqProofs only [r_opt, r_ret, ob_some, ifB_true, iteV_true, iteV_false, r_gdt, r_gdt2, r_gdtf, r_gdtf2, r_gdff, r_gdff2, r_gdft, r_gdft2, r_gdu, r_gdu2, pick_t, pick_f, ext_0, ext_1, x_newB, r_nil, r_fAddr, Nat.zero_add, b_lss, b_leq, b_gtr, b_geq, b_eql, b_neq, u_not, Bool.not_true, Bool.not_false, oneOf_one, oneOf_two, again_normal, again_exit, again_ret, Bool.and_true, g1, plZ_is, cp, l0, d, g3]
      exact ⟨_, _, rfl, rfl⟩
    · have d : decide ((n : Int) < 3) = false := decide_eq_false (by omega)
      obtain ⟨k1, k2, k3, k4⟩ := chain_core n ⟨by omega, hn2.2⟩
      obtain ⟨H3, st, hA3⟩ := hA.noEdges
      have o1 := swap_ok hok hn k1
      have o2 := swap_ok hok hn k3
      obtain ⟨_, _, _, c1⟩ := core_eq o1 k1 hn rfl rfl
      obtain ⟨_, _, _, c2⟩ := core_eq o2 k3 hn rfl rfl
      rw [k2] at c1
      rw [k4] at c2
      simp -implicitDefEqProofs only [r_opt, r_ret, ob_some, ifB_true, iteV_true, iteV_false, r_gdt, r_gdt2, r_gdtf, r_gdtf2, r_gdff, r_gdff2, r_gdft, r_gdft2, r_gdu, r_gdu2, pick_t, pick_f, ext_0, ext_1, x_newB, r_nil, r_fAddr, Nat.zero_add, b_lss, b_leq, b_gtr, b_geq, b_eql, b_neq, u_not, Bool.not_true, Bool.not_false, oneOf_one, oneOf_two, again_normal, again_exit, again_ret, Bool.and_true, g1, plZ_is, cp, l0, d, st]
      exact lrings_loop0 (m := 18014398509481984 - 1) (by omega) hn2.2 hnx (by omega) (by omega) c1 c2 (n - 1) 0 (18014398509481984 - 1) H3 (.slice none 0 0) (by omega) (by omega) (by omega) hA3 (New.nil _) ..
  obtain ⟨H', rr, h1, rfl⟩ := main
  exact ⟨H', h1, trivial⟩
end
end Go.Proofs.Ytdobnaldfmpimaa
