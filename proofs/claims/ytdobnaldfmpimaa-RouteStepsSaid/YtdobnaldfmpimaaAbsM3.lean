/-
  PARTS OF THIS CLAIM'S PROOF, laid together by a program of mine out of texts written from templates.
-/
import Derived.Test.YtdobnaldfmpimaaAbsM2
set_option linter.unusedSectionVars false
set_option linter.unusedSimpArgs false
set_option linter.unusedVariables false
set_option maxRecDepth 100000
namespace Go.Proofs.Ytdobnaldfmpimaa
open Go.Abs
section
variable {H : Heap} {m : Nat} {p : PlanD} {ev wv nv : Value}
def atV (ab n : Nat) : Value := .slice (some ⟨ab, 0, none⟩) n n
def mkB (ab n : Nat) (wv : Value) : Blk := .cells [atV ab n, wv] 72 .fix
theorem ld_mk0 {mb ab n : Nat} (h : H[mb]? = some (mkB ab n wv)) : ld1 (.pointer (some ⟨mb, 0, none⟩)) H = some (atV ab n, H) := r_ld1 h rfl
theorem ld_mk1 {mb ab n : Nat} (h : H[mb]? = some (mkB ab n wv)) : ld1 (.pointer (some ⟨mb, 1, none⟩)) H = some (wv, H) := r_ld1 h rfl
theorem at_at {ab n k : Nat} (h : k < n) : iAddr 1 (atV ab n) (.int .i64 (k : Nat)) = some (.pointer (some ⟨ab, k, none⟩)) := by
  have := ia (c := ab) (o := 0) (cap := n) h
  rw [Nat.zero_add] at this
  exact this
def Col (C : List Int) : Prop := ∀ x ∈ C, x = 0 ∨ x = 1 ∨ x = 2
theorem Col.set {C : List Int} (h : Col C) (i : Nat) {y : Int} (hy : y = 0 ∨ y = 1 ∨ y = 2) : Col (C.set i y) := fun x hx => by
  rcases List.mem_or_eq_of_mem_set hx with h1 | h1
  · exact h x h1
  · rw [h1]; exact hy
structure Srch (g : List (List Int)) (Hw : Heap) (mb ab : Nat) (wv : Value) (H : Heap) (C : List Int) : Prop where
  ext : Ext Hw H
  mrk : H[mb]? = some (mkB ab g.length wv)
  row : H[ab]? = some (rowB C [])
  len : C.length = g.length
  col : Col C
theorem Srch.st {g : List (List Int)} {Hw : Heap} {mb ab : Nat} {C : List Int} (h : Srch g Hw mb ab wv H C) (hne : mb ≠ ab) (hab : Hw.length ≤ ab) {i : Nat} (hi : i < g.length) (y : Int) (hy : y = 0 ∨ y = 1 ∨ y = 2) :
    ∃ H', stN 1 (.pointer (some ⟨ab, i, none⟩)) (.int .i64 y) H = some (undef, H') ∧ Srch g Hw mb ab wv H' (C.set i y) :=
  ⟨_, st_row y h.row (by have := h.len; omega), set_ext h.ext hab, by rw [List.getElem?_set_ne (Ne.symm hne)]; exact h.mrk, List.getElem?_set_self (List.getElem?_eq_some_iff.mp h.row).1, by simp [h.len], h.col.set i hy⟩
structure Dne (g : List (List Int)) (C C' : List Int) (i : Nat) : Prop where
  i2 : C'[i]? = some 2
  dn : Dn g C'
  gr : ∀ u : Nat, C'[u]? = some 1 ↔ C[u]? = some 1
  bl : ∀ u : Nat, C[u]? = some 2 → C'[u]? = some 2
def RdOk (g : List (List Int)) (Hw : Heap) (mb ab : Nat) (wv : Value) (m q : Nat) : Prop :=
  ∀ (H : Heap) (C : List Int) (i : Nat), Srch g Hw mb ab wv H C → C[i]? = some 0 → Dn g C → (∀ u : Nat, C[u]? = some 1 → Rch g u i) → (∃ L : List Nat, L.length = q ∧ ∀ u : Nat, C[u]? = some 0 → u ∈ L) →
    ∃ H' b C', lvl Try.prog pk12 m (.func 48) [.pointer (some ⟨mb, 0, none⟩), .int .i64 (i : Nat)] H = some (.bool b, H') ∧ Srch g Hw mb ab wv H' C' ∧ (b = true → Cyc g) ∧ (b = false → Dne g C C' i)
theorem round_loop {g : List (List Int)} {Hw : Heap} {mb ab : Nat} {q' : Nat} (hrd : RdOk g Hw mb ab wv m q') (hinn : Inn g) (hne : mb ≠ ab) (hab : Hw.length ≤ ab) {C : List Int} {i : Nat} {r : List Int} {rv : Value} (hr : g[i]? = some r) (hrl : r.length ≤ 100) (hrv : Is Hw rv r) (hgr : ∀ u : Nat, C[u]? = some 1 → Rch g u i) (hci : C[i]? = some 0) {L : List Nat} (hL : L.length = q') :
    ∀ (q j k : Nat) (H : Heap) (D : List Int), r.length - j = q → j ≤ r.length → q < k → Srch g Hw mb ab wv H D → D[i]? = some 1 → Dn g D → (∀ u : Nat, D[u]? = some 1 ↔ (u = i ∨ C[u]? = some 1)) → (∀ u : Nat, C[u]? = some 2 → D[u]? = some 2) → (∀ z ∈ r.take j, D[z.toNat]? = some 2) → (∀ u : Nat, D[u]? = some 0 → u ∈ L) → ∀ (x2 x3 x4 x5 x6 x7 x8 x9 x10 x11 x12 x13 x14 x15 x16 x17 x18 x22 x23 x24 x25 x26 x27 x28 x29 x30 x31 x32 x33 x34 x35 x36 x37 x38 x39 x40 x41 x42 x43 x44 x45 x46 x47 x48 x49 x50 x51 x52 x53 : Value),
    ∃ H' b C', loopN k (runCode Try.prog (lvl Try.prog pk12 m) (loopN m) f48_c0) (f48_k0 (lvl Try.prog pk12 m) (loopN m)) [(.pointer (some ⟨mb, 0, none⟩)), (.int .i64 (i : Nat)), x2, x3, x4, x5, x6, x7, x8, x9, x10, x11, x12, x13, x14, x15, x16, x17, x18, rv, (.int .i64 r.length), (.int .i64 (j : Nat)), x22, x23, x24, x25, x26, x27, x28, x29, x30, x31, x32, x33, x34, x35, x36, x37, x38, x39, x40, x41, x42, x43, x44, x45, x46, x47, x48, x49, x50, x51, x52, x53] H = some (.bool b, H') ∧ Srch g Hw mb ab wv H' C' ∧ (b = true → Cyc g) ∧ (b = false → Dne g C C' i) := by
  intro q
  have hil := (List.getElem?_eq_some_iff.mp hr).1
  induction q with
  | zero =>
    intro j k H D hq hj hk hs hi1 hdn hgray hbl htake hwh
    intros
    obtain ⟨k, rfl⟩ : ∃ n, k = n + 1 := ⟨k - 1, by omega⟩
    obtain rfl : r.length = j := by omega
    have e : decide ((r.length : Int) < (r.length : Int)) = false := by simp
    rw [List.take_of_length_le (Nat.le_refl _)] at htake
    have l0 := ld_mk0 hs.mrk
    have a0 := at_at (ab := ab) hil
    obtain ⟨H', st, hs'⟩ := hs.st hne hab hil 2 (.inr (.inr rfl))
    have fin := hdn.finish hi1 hr (fun k hk => by have := htake k hk; simpa using this)
    refine ⟨H', false, D.set i 2, ?_, hs', fun h => (by cases h), fun _ => ⟨?_, fin, fun u => ?_, fun u hu => ?_⟩⟩
    · rw [loop_succ, f48_b0_eq]
      unfold f48_b0
      simp -implicitDefEqProofs only [r_opt, r_ret, ob_some, ifB_true, iteV_true, iteV_false, r_gdt, r_gdt2, r_gdtf, r_gdtf2, r_gdff, r_gdff2, r_gdft, r_gdft2, r_gdu, r_gdu2, pick_t, pick_f, ext_0, ext_1, x_newB, r_nil, r_fAddr, Nat.zero_add, b_lss, b_leq, b_gtr, b_geq, b_eql, b_neq, u_not, Bool.not_true, Bool.not_false, oneOf_one, oneOf_two, again_normal, again_exit, again_ret, Bool.and_true, e]
      rw [f48_e0_0_eq]
      unfold f48_e0_0
      simp -implicitDefEqProofs only [r_opt, r_ret, ob_some, ifB_true, iteV_true, iteV_false, r_gdt, r_gdt2, r_gdtf, r_gdtf2, r_gdff, r_gdff2, r_gdft, r_gdft2, r_gdu, r_gdu2, pick_t, pick_f, ext_0, ext_1, x_newB, r_nil, r_fAddr, Nat.zero_add, b_lss, b_leq, b_gtr, b_geq, b_eql, b_neq, u_not, Bool.not_true, Bool.not_false, oneOf_one, oneOf_two, again_normal, again_exit, again_ret, Bool.and_true, l0, a0, st]
    · exact List.getElem?_set_self (by have := hs.len; omega)
    · by_cases hui : u = i
      · subst hui
        rw [List.getElem?_set_self (by have := hs.len; omega), hci]
        simp
      · rw [List.getElem?_set_ne (Ne.symm hui), hgray u]
        simp [hui]
    · have := hbl u hu
      by_cases hui : u = i
      · subst hui
        rw [hi1] at this
        cases this
      · rw [List.getElem?_set_ne (Ne.symm hui)]
        exact this
  | succ q ih =>
    intro j k H D hq hj hk hs hi1 hdn hgray hbl htake hwh
    intros
    obtain ⟨k, rfl⟩ : ∃ n, k = n + 1 := ⟨k - 1, by omega⟩
    have e : decide ((j : Int) < (r.length : Int)) = true := decide_eq_true (by omega)
    have e3 : IntKind.i64.wrap ((j : Int) + 1) = ((j + 1 : Nat) : Int) := by rw [wrap_i64 (by omega) (by omega)]; omega
    obtain ⟨z, hz⟩ : ∃ z, r[j]? = some z := ⟨_, List.getElem?_eq_getElem (by omega)⟩
    have hzin := hinn r (List.mem_of_getElem? hr) z (List.mem_of_getElem? hz)
    obtain ⟨b, o, g1, _, g3⟩ := (hrv.ext hs.ext).at_ inC_len hz .i64
    have g4 : ld1 (.pointer (some ⟨b, o, none⟩)) H = some (.int .i64 z, H) := (g3 H rfl).2.1 0 _ rfl
    obtain ⟨t, rfl⟩ : ∃ t : Nat, z = t := ⟨z.toNat, by omega⟩
    have htl : t < g.length := by omega
    have edge : Eg g i t := ⟨r, hr, List.mem_of_getElem? hz⟩
    have l0 := ld_mk0 hs.mrk
    have a0 := at_at (ab := ab) htl
    obtain ⟨x, hx⟩ : ∃ x, D[t]? = some x := ⟨_, List.getElem?_eq_getElem (by have := hs.len; omega)⟩
    have lx := rd_row hs.row hx
    have grs : ∀ u : Nat, D[u]? = some 1 → Rch g u t := fun u hu => by
      rcases (hgray u).mp hu with h | h
      · rw [h]; exact .one edge
      · exact .step (hgr u h) edge
    have htk : r.take (j + 1) = r.take j ++ [(t : Int)] := by rw [List.take_add_one, hz]; rfl
    have next : ∀ (H2 : Heap) (D2 : List Int), Srch g Hw mb ab wv H2 D2 → D2[i]? = some 1 → Dn g D2 → (∀ u : Nat, D2[u]? = some 1 ↔ (u = i ∨ C[u]? = some 1)) → (∀ u : Nat, C[u]? = some 2 → D2[u]? = some 2) → (∀ z ∈ r.take j, D2[z.toNat]? = some 2) → D2[t]? = some 2 → (∀ u : Nat, D2[u]? = some 0 → u ∈ L) → ∀ (x2 x3 x4 x5 x6 x7 x8 x9 x10 x11 x12 x13 x14 x15 x16 x17 x18 x22 x23 x24 x25 x26 x27 x28 x29 x30 x31 x32 x33 x34 x35 x36 x37 x38 x39 x40 x41 x42 x43 x44 x45 x46 x47 x48 x49 x50 x51 x52 x53 : Value),
        ∃ H' b C', loopN k (runCode Try.prog (lvl Try.prog pk12 m) (loopN m) f48_c0) (f48_k0 (lvl Try.prog pk12 m) (loopN m)) [(.pointer (some ⟨mb, 0, none⟩)), (.int .i64 (i : Nat)), x2, x3, x4, x5, x6, x7, x8, x9, x10, x11, x12, x13, x14, x15, x16, x17, x18, rv, (.int .i64 r.length), (.int .i64 (j + 1 : Nat)), x22, x23, x24, x25, x26, x27, x28, x29, x30, x31, x32, x33, x34, x35, x36, x37, x38, x39, x40, x41, x42, x43, x44, x45, x46, x47, x48, x49, x50, x51, x52, x53] H2 = some (.bool b, H') ∧ Srch g Hw mb ab wv H' C' ∧ (b = true → Cyc g) ∧ (b = false → Dne g C C' i) := by
      intro H2 D2 h1 h2 h3 h4 h5 h6 h7 h8
      refine ih (j + 1) k H2 D2 (by omega) (by omega) (by omega) h1 h2 h3 h4 h5 (fun z hz => ?_) h8
      rw [htk, List.mem_append] at hz
      rcases hz with hz | hz
      · exact h6 z hz
      · have : z = (t : Int) := by simpa using hz
        rw [this]
        simpa using h7
    rw [loop_succ, f48_b0_eq]
    unfold f48_b0
    rcases hs.col x (List.mem_of_getElem? hx) with rfl | rfl | rfl
    · have d1 : ((0 : Int) == 1) = false := rfl
      have d2 : ((0 : Int) == 2) = false := rfl
      obtain ⟨H2, bb, D2, c1, hs2, hcyc, hdne⟩ := hrd H D t hs hx hdn grs ⟨L, hL, hwh⟩
      cases bb with
      | true =>
        refine ⟨H2, true, D2, ?_, hs2, fun _ => hcyc rfl, fun h => (by cases h)⟩
        simp -implicitDefEqProofs only [r_opt, r_ret, ob_some, ifB_true, iteV_true, iteV_false, r_gdt, r_gdt2, r_gdtf, r_gdtf2, r_gdff, r_gdff2, r_gdft, r_gdft2, r_gdu, r_gdu2, pick_t, pick_f, ext_0, ext_1, x_newB, r_nil, r_fAddr, Nat.zero_add, b_lss, b_leq, b_gtr, b_geq, b_eql, b_neq, u_not, Bool.not_true, Bool.not_false, oneOf_one, oneOf_two, again_normal, again_exit, again_ret, Bool.and_true, e, g1, g4, l0, a0, lx, d1, d2, c1]
        rw [f48_r0_eq]
        rfl
      | false =>
        have hd := hdne rfl
        simp -implicitDefEqProofs only [r_opt, r_ret, ob_some, ifB_true, iteV_true, iteV_false, r_gdt, r_gdt2, r_gdtf, r_gdtf2, r_gdff, r_gdff2, r_gdft, r_gdft2, r_gdu, r_gdu2, pick_t, pick_f, ext_0, ext_1, x_newB, r_nil, r_fAddr, Nat.zero_add, b_lss, b_leq, b_gtr, b_geq, b_eql, b_neq, u_not, Bool.not_true, Bool.not_false, oneOf_one, oneOf_two, again_normal, again_exit, again_ret, Bool.and_true, e, g1, g4, l0, a0, lx, d1, d2, c1, b_add, e3]
        refine next H2 D2 hs2 ((hd.gr i).mpr hi1) hd.dn (fun u => by rw [hd.gr u]; exact hgray u) (fun u hu => hd.bl u (hbl u hu)) (fun z hz => hd.bl _ (htake z hz)) hd.i2 (fun u hu => hwh u ?_) ..
        have hul : u < g.length := by have := (List.getElem?_eq_some_iff.mp hu).1; have := hs2.len; omega
        obtain ⟨y, hy⟩ : ∃ y, D[u]? = some y := ⟨_, List.getElem?_eq_getElem (by have := hs.len; omega)⟩
        rcases hs.col y (List.mem_of_getElem? hy) with rfl | rfl | rfl
        · exact hy
        · have := (hd.gr u).mpr hy
          rw [hu] at this; cases this
        · have := hd.bl u hy
          rw [hu] at this; cases this
    · have d1 : ((1 : Int) == 1) = true := rfl
      refine ⟨H, true, D, ?_, hs, fun _ => ⟨t, grs t hx⟩, fun h => (by cases h)⟩
      simp -implicitDefEqProofs only [r_opt, r_ret, ob_some, ifB_true, iteV_true, iteV_false, r_gdt, r_gdt2, r_gdtf, r_gdtf2, r_gdff, r_gdff2, r_gdft, r_gdft2, r_gdu, r_gdu2, pick_t, pick_f, ext_0, ext_1, x_newB, r_nil, r_fAddr, Nat.zero_add, b_lss, b_leq, b_gtr, b_geq, b_eql, b_neq, u_not, Bool.not_true, Bool.not_false, oneOf_one, oneOf_two, again_normal, again_exit, again_ret, Bool.and_true, e, g1, g4, l0, a0, lx, d1]
      rw [f48_r0_eq]
      rfl
    · have d1 : ((2 : Int) == 1) = false := rfl
      have d2 : ((2 : Int) == 2) = true := rfl
      simp -implicitDefEqProofs only [r_opt, r_ret, ob_some, ifB_true, iteV_true, iteV_false, r_gdt, r_gdt2, r_gdtf, r_gdtf2, r_gdff, r_gdff2, r_gdft, r_gdft2, r_gdu, r_gdu2, pick_t, pick_f, ext_0, ext_1, x_newB, r_nil, r_fAddr, Nat.zero_add, b_lss, b_leq, b_gtr, b_geq, b_eql, b_neq, u_not, Bool.not_true, Bool.not_false, oneOf_one, oneOf_two, again_normal, again_exit, again_ret, Bool.and_true, e, g1, g4, l0, a0, lx, d1, d2, b_add, e3]
      exact next H D hs hi1 hdn hgray hbl htake hx hwh ..
theorem round_is {g : List (List Int)} {Hw : Heap} {mb ab : Nat} (hg : Rows Hw wv g) (hinn : Inn g) (hrl : ∀ r ∈ g, r.length ≤ 100) (hne : mb ≠ ab) (hab : Hw.length ≤ ab) : ∀ (q m : Nat), 200 + q < m → RdOk g Hw mb ab wv m q := by
  intro q
  induction q with
  | zero =>
    intro m hm H C i hs hi hdn hgr ⟨L, hL, hw⟩
    have := hw i hi
    rw [List.length_eq_zero_iff.mp hL] at this
    cases this
  | succ q ih =>
    intro m hm H C i hs hi hdn hgr ⟨L, hL, hw⟩
    have hil : i < g.length := by have := (List.getElem?_eq_some_iff.mp hi).1; have := hs.len; omega
    have l0 := ld_mk0 hs.mrk
    have a0 := at_at (ab := ab) hil
    obtain ⟨H1, st, hs1⟩ := hs.st hne hab hil 1 (.inr (.inl rfl))
    have l1 := ld_mk1 hs1.mrk
    obtain ⟨r, hr⟩ : ∃ r, g[i]? = some r := ⟨_, List.getElem?_eq_getElem hil⟩
    obtain ⟨a1, rv, g1, g2, g3⟩ := hg.at_ hr .i64
    have g2' := ld1_ext hs1.ext g2
    have hlen := g3.len
    have hr100 := hrl r (List.mem_of_getElem? hr)
    have hcl : C.length = g.length := hs.len
    have other : ∀ u : Nat, u ≠ i → (C.set i 1)[u]? = C[u]? := fun u hu => List.getElem?_set_ne (Ne.symm hu)
    have self : (C.set i 1)[i]? = some 1 := List.getElem?_set_self (by omega)
    obtain ⟨m, rfl⟩ : ∃ n, m = n + 1 := ⟨m - 1, by omega⟩
    rw [lvl_body (pk_no rfl rfl), f48_eq]
    unfold f48
    simp -implicitDefEqProofs only [r_opt, r_ret, ob_some, ifB_true, iteV_true, iteV_false, r_gdt, r_gdt2, r_gdtf, r_gdtf2, r_gdff, r_gdff2, r_gdft, r_gdft2, r_gdu, r_gdu2, pick_t, pick_f, ext_0, ext_1, x_newB, r_nil, r_fAddr, Nat.zero_add, b_lss, b_leq, b_gtr, b_geq, b_eql, b_neq, u_not, Bool.not_true, Bool.not_false, oneOf_one, oneOf_two, again_normal, again_exit, again_ret, Bool.and_true, l0, a0, st, l1, g1, g2', hlen]
    have hiL := hw i hi
    refine round_loop (ih m (by omega)) hinn hne hab hr hr100 g3 hgr hi (L := L.erase i) (by rw [List.length_erase_of_mem hiL]; omega) r.length 0 m H1 (C.set i 1) (by omega) (by omega) (by omega) hs1 self ?_ (fun u => ?_) (fun u hu => ?_) (fun z hz => by simp at hz) (fun u hu => ?_) ..
    · intro u hu
      have hui : u ≠ i := fun hh => by rw [hh, self] at hu; cases hu
      rw [other u hui] at hu
      refine ⟨fun k hk => ?_, (hdn u hu).2⟩
      have := (hdn u hu).1 k hk
      have hki : k ≠ i := fun hh => by rw [hh, hi] at this; cases this
      rw [other k hki]
      exact this
    · by_cases hui : u = i
      · rw [hui, self]; simp
      · rw [other u hui]; simp [hui]
    · have hui : u ≠ i := fun hh => by rw [hh, hi] at hu; cases hu
      rw [other u hui]
      exact hu
    · have hui : u ≠ i := fun hh => by rw [hh, self] at hu; cases hu
      rw [other u hui] at hu
      exact (List.mem_erase_of_ne hui).mpr (hw u hu)
def pathsOk (p : PlanD) (n : Nat) : Bool := (List.range n).all fun v => (List.range n).all fun w => (pathL p v w).isSome
def routeOk (p : PlanD) : Bool := checkOk p && (pathsOk p p.nodes.toNat && !cycB (waitsL p))
def errR (p : PlanD) : Int := if checkOk p = true then (if routeOk p = true then 0 else 140) else 120
theorem Check_loop2 {g : List (List Int)} {Hw : Heap} {mb ab : Nat} (hrd : RdOk g Hw mb ab wv m g.length) (hgl : g.length ≤ 100) (hinn : Inn g) :
    ∀ (q i k : Nat) (H : Heap) (C : List Int), g.length - i = q → i ≤ g.length → q < k → Srch g Hw mb ab wv H C → Dn g C → (∀ u : Nat, C[u]? ≠ some 1) → (∀ u : Nat, u < i → C[u]? = some 2) → ∀ (x0 x1 x2 x3 x4 x5 x6 x7 x9 x10 x11 x12 x13 x14 x15 x16 x17 x18 x19 x20 x21 x22 x23 x24 x25 x26 x27 x28 x29 x30 x31 x32 x33 x34 x35 x36 x37 x38 x39 x40 x41 x42 x43 x44 x45 x46 x47 x48 x49 x50 x51 x52 x55 x56 x57 x58 x59 x60 x61 x62 x63 x64 x65 x66 x67 x68 x69 x70 : Value),
    ∃ H', loopN k (runCode Try.prog (lvl Try.prog pk12 m) (loopN m) f24_c2) (f24_k2 (lvl Try.prog pk12 m) (loopN m)) [x0, x1, x2, x3, x4, x5, x6, x7, (.pointer (some ⟨mb, 0, none⟩)), x9, x10, x11, x12, x13, x14, x15, x16, x17, x18, x19, x20, x21, x22, x23, x24, x25, x26, x27, x28, x29, x30, x31, x32, x33, x34, x35, x36, x37, x38, x39, x40, x41, x42, x43, x44, x45, x46, x47, x48, x49, x50, x51, x52, (.int .i64 g.length), (.int .i64 (i : Nat)), x55, x56, x57, x58, x59, x60, x61, x62, x63, x64, x65, x66, x67, x68, x69, x70] H = some (.int .u16 (if cycB g = true then 140 else 0), H') ∧ Ext Hw H' := by
  intro q
  induction q with
  | zero =>
    intro i k H C hq hi hk hs hdn hgr hbl
    intros
    obtain ⟨k, rfl⟩ : ∃ n, k = n + 1 := ⟨k - 1, by omega⟩
    obtain rfl : g.length = i := by omega
    have e : decide ((g.length : Int) < (g.length : Int)) = false := by simp
    have hno : ¬ cycB g = true := by
      rw [cycB_iff hinn]
      rintro ⟨i, hc⟩
      have hil : i < g.length := by
        cases hc with
        | one e => obtain ⟨r, h1, _⟩ := e; exact (List.getElem?_eq_some_iff.mp h1).1
        | step h1 e =>
          obtain ⟨r, h2, h3⟩ := e
          have := (hinn r (List.mem_of_getElem? h2) i h3).2
          omega
      exact (hdn i (hbl i hil)).2 hc
    rw [if_neg hno, loop_succ, f24_b2_eq]
    unfold f24_b2
    simp -implicitDefEqProofs only [r_opt, r_ret, ob_some, ifB_true, iteV_true, iteV_false, r_gdt, r_gdt2, r_gdtf, r_gdtf2, r_gdff, r_gdff2, r_gdft, r_gdft2, r_gdu, r_gdu2, pick_t, pick_f, ext_0, ext_1, x_newB, r_nil, r_fAddr, Nat.zero_add, b_lss, b_leq, b_gtr, b_geq, b_eql, b_neq, u_not, Bool.not_true, Bool.not_false, oneOf_one, oneOf_two, again_normal, again_exit, again_ret, Bool.and_true, e]
    rw [f24_e2_4_eq]
    exact ⟨H, rfl, hs.ext⟩
  | succ q ih =>
    intro i k H C hq hi hk hs hdn hgr hbl
    intros
    obtain ⟨k, rfl⟩ : ∃ n, k = n + 1 := ⟨k - 1, by omega⟩
    have hil : i < g.length := by omega
    have e : decide ((i : Int) < (g.length : Int)) = true := decide_eq_true (by omega)
    have e3 : IntKind.i64.wrap ((i : Int) + 1) = ((i + 1 : Nat) : Int) := by rw [wrap_i64 (by omega) (by omega)]; omega
    have l0 := ld_mk0 hs.mrk
    have a0 := at_at (ab := ab) hil
    obtain ⟨x, hx⟩ : ∃ x, C[i]? = some x := ⟨_, List.getElem?_eq_getElem (by have := hs.len; omega)⟩
    have lx := rd_row hs.row hx
    rw [loop_succ, f24_b2_eq]
    unfold f24_b2
    rcases hs.col x (List.mem_of_getElem? hx) with rfl | rfl | rfl
    · have d1 : ((0 : Int) == 0) = true := rfl
      obtain ⟨H2, bb, D2, c1, hs2, hcyc, hdne⟩ := hrd H C i hs hx hdn (fun u hu => absurd hu (hgr u)) ⟨List.range g.length, by simp, fun u hu => List.mem_range.mpr (by have := (List.getElem?_eq_some_iff.mp hu).1; have := hs.len; omega)⟩
      cases bb with
      | true =>
        have hyes : cycB g = true := (cycB_iff hinn).mpr (hcyc rfl)
        rw [if_pos hyes]
        simp -implicitDefEqProofs only [r_opt, r_ret, ob_some, ifB_true, iteV_true, iteV_false, r_gdt, r_gdt2, r_gdtf, r_gdtf2, r_gdff, r_gdff2, r_gdft, r_gdft2, r_gdu, r_gdu2, pick_t, pick_f, ext_0, ext_1, x_newB, r_nil, r_fAddr, Nat.zero_add, b_lss, b_leq, b_gtr, b_geq, b_eql, b_neq, u_not, Bool.not_true, Bool.not_false, oneOf_one, oneOf_two, again_normal, again_exit, again_ret, Bool.and_true, e, l0, a0, lx, d1, c1]
        rw [f24_r2_eq]
        exact ⟨H2, rfl, hs2.ext⟩
      | false =>
        have hd := hdne rfl
        simp -implicitDefEqProofs only [r_opt, r_ret, ob_some, ifB_true, iteV_true, iteV_false, r_gdt, r_gdt2, r_gdtf, r_gdtf2, r_gdff, r_gdff2, r_gdft, r_gdft2, r_gdu, r_gdu2, pick_t, pick_f, ext_0, ext_1, x_newB, r_nil, r_fAddr, Nat.zero_add, b_lss, b_leq, b_gtr, b_geq, b_eql, b_neq, u_not, Bool.not_true, Bool.not_false, oneOf_one, oneOf_two, again_normal, again_exit, again_ret, Bool.and_true, e, l0, a0, lx, d1, c1, b_add, e3]
        refine ih (i + 1) k H2 D2 (by omega) (by omega) (by omega) hs2 hd.dn (fun u hu => hgr u ((hd.gr u).mp hu)) (fun u hu => ?_) ..
        by_cases hui : u = i
        · rw [hui]; exact hd.i2
        · exact hd.bl u (hbl u (by omega))
    · exact absurd hx (hgr i)
    · have d1 : ((2 : Int) == 0) = false := rfl
      simp -implicitDefEqProofs only [r_opt, r_ret, ob_some, ifB_true, iteV_true, iteV_false, r_gdt, r_gdt2, r_gdtf, r_gdtf2, r_gdff, r_gdff2, r_gdft, r_gdft2, r_gdu, r_gdu2, pick_t, pick_f, ext_0, ext_1, x_newB, r_nil, r_fAddr, Nat.zero_add, b_lss, b_leq, b_gtr, b_geq, b_eql, b_neq, u_not, Bool.not_true, Bool.not_false, oneOf_one, oneOf_two, again_normal, again_exit, again_ret, Bool.and_true, e, l0, a0, lx, d1, b_add, e3]
      refine ih (i + 1) k H C (by omega) (by omega) (by omega) hs hdn hgr (fun u hu => ?_) ..
      by_cases hui : u = i
      · rw [hui]; exact hx
      · exact hbl u (by omega)
theorem Check_loop1 {n : Nat} (hk : OkP p n) {H0 : Heap} {a v : Nat} (hv : v < n) {K : Ex → K (Value × Heap)} {Q : Heap → Value → Prop} (hp : PV H0 p ev wv nv) (hb : H0[a]? = some (plB p ev wv nv)) (hm : 400 < m) (hm2 : m ≤ 72057594037927936) :
    ∀ (q i k : Nat) (H1 : Heap), n - i = q → i ≤ n → q < k → Ext H0 H1 →
    (∀ H', Ext H0 H' → ((List.range' i q).all fun w => (pathL p v w).isSome) = true → ∀ (x0 x2 x3 x4 x5 x6 x7 x8 x9 x10 x11 x12 x13 x14 x15 x18 x19 x20 x21 x22 x23 x24 x25 x26 x27 x28 x29 x30 x31 x32 x33 x34 x35 x36 x37 x38 x39 x40 x41 x42 x43 x44 x45 x46 x47 x48 x49 x50 x51 x52 x53 x54 x55 x56 x57 x58 x59 x60 x61 x62 x63 x64 x65 x66 x67 x68 x69 x70 : Value), ∃ H2 r, K .normal [x0, (.pointer (some ⟨a, 0, none⟩)), x2, x3, x4, x5, x6, x7, x8, x9, x10, x11, x12, x13, x14, x15, (.int .i64 n), (.int .i64 (v + 1 : Nat)), x18, x19, x20, x21, x22, x23, x24, x25, x26, x27, x28, x29, x30, x31, x32, x33, x34, x35, x36, x37, x38, x39, x40, x41, x42, x43, x44, x45, x46, x47, x48, x49, x50, x51, x52, x53, x54, x55, x56, x57, x58, x59, x60, x61, x62, x63, x64, x65, x66, x67, x68, x69, x70] H' = some (r, H2) ∧ Q H2 r) →
    (∀ H', Ext H0 H' → ((List.range' i q).all fun w => (pathL p v w).isSome) = false → ∀ (x0 x1 x3 x4 x5 x6 x7 x8 x9 x10 x11 x12 x13 x14 x15 x16 x17 x18 x19 x20 x21 x22 x23 x24 x25 x26 x27 x28 x29 x30 x31 x32 x33 x34 x35 x36 x37 x38 x39 x40 x41 x42 x43 x44 x45 x46 x47 x48 x49 x50 x51 x52 x53 x54 x55 x56 x57 x58 x59 x60 x61 x62 x63 x64 x65 x66 x67 x68 x69 x70 : Value), ∃ H2 r, K .ret [x0, x1, (.int .u16 140), x3, x4, x5, x6, x7, x8, x9, x10, x11, x12, x13, x14, x15, x16, x17, x18, x19, x20, x21, x22, x23, x24, x25, x26, x27, x28, x29, x30, x31, x32, x33, x34, x35, x36, x37, x38, x39, x40, x41, x42, x43, x44, x45, x46, x47, x48, x49, x50, x51, x52, x53, x54, x55, x56, x57, x58, x59, x60, x61, x62, x63, x64, x65, x66, x67, x68, x69, x70] H' = some (r, H2) ∧ Q H2 r) → ∀ (x0 x2 x3 x5 x6 x7 x8 x9 x10 x11 x12 x13 x14 x15 x18 x19 x20 x23 x24 x25 x26 x27 x28 x29 x30 x31 x32 x33 x34 x35 x36 x37 x38 x39 x40 x41 x42 x43 x44 x45 x46 x47 x48 x49 x50 x51 x52 x53 x54 x55 x56 x57 x58 x59 x60 x61 x62 x63 x64 x65 x66 x67 x68 x69 x70 : Value),
    ∃ H' r, loopN k (runCode Try.prog (lvl Try.prog pk12 m) (loopN m) f24_c1) (f24_k1 (lvl Try.prog pk12 m) (loopN m) K) [x0, (.pointer (some ⟨a, 0, none⟩)), x2, x3, (.int .i64 (v : Nat)), x5, x6, x7, x8, x9, x10, x11, x12, x13, x14, x15, (.int .i64 n), (.int .i64 (v : Nat)), x18, x19, x20, (.int .i64 n), (.int .i64 (i : Nat)), x23, x24, x25, x26, x27, x28, x29, x30, x31, x32, x33, x34, x35, x36, x37, x38, x39, x40, x41, x42, x43, x44, x45, x46, x47, x48, x49, x50, x51, x52, x53, x54, x55, x56, x57, x58, x59, x60, x61, x62, x63, x64, x65, x66, x67, x68, x69, x70] H1 = some (r, H') ∧ Q H' r := by
  intro q
  have h6 := hk.h6
  induction q with
  | zero =>
    intro i k H1 hr hi hk2 he hK hR
    intros
    obtain ⟨k, rfl⟩ : ∃ n, k = n + 1 := ⟨k - 1, by omega⟩
    have e : decide ((i : Int) < (n : Int)) = false := decide_eq_false (by omega)
    have e3 : IntKind.i64.wrap ((v : Int) + 1) = ((v + 1 : Nat) : Int) := by rw [wrap_i64 (by omega) (by omega)]; omega
    rw [loop_succ, f24_b1_eq]
    unfold f24_b1
    simp -implicitDefEqProofs only [r_opt, r_ret, ob_some, ifB_true, iteV_true, iteV_false, r_gdt, r_gdt2, r_gdtf, r_gdtf2, r_gdff, r_gdff2, r_gdft, r_gdft2, r_gdu, r_gdu2, pick_t, pick_f, ext_0, ext_1, x_newB, r_nil, r_fAddr, Nat.zero_add, b_lss, b_leq, b_gtr, b_geq, b_eql, b_neq, u_not, Bool.not_true, Bool.not_false, oneOf_one, oneOf_two, again_normal, again_exit, again_ret, Bool.and_true, e]
    rw [f24_e1_2_eq]
    unfold f24_e1_2
    simp -implicitDefEqProofs only [r_opt, r_ret, ob_some, ifB_true, iteV_true, iteV_false, r_gdt, r_gdt2, r_gdtf, r_gdtf2, r_gdff, r_gdff2, r_gdft, r_gdft2, r_gdu, r_gdu2, pick_t, pick_f, ext_0, ext_1, x_newB, r_nil, r_fAddr, Nat.zero_add, b_lss, b_leq, b_gtr, b_geq, b_eql, b_neq, u_not, Bool.not_true, Bool.not_false, oneOf_one, oneOf_two, again_normal, again_exit, again_ret, Bool.and_true, b_add, e3]
    exact hK H1 he rfl ..
  | succ q ih =>
    intro i k H1 hr hi hk2 he hK hR
    intros
    obtain ⟨k, rfl⟩ : ∃ n, k = n + 1 := ⟨k - 1, by omega⟩
    have e : decide ((i : Int) < (n : Int)) = true := decide_eq_true (by omega)
    have e3 : IntKind.i64.wrap ((i : Int) + 1) = ((i + 1 : Nat) : Int) := by rw [wrap_i64 (by omega) (by omega)]; omega
    have l11 := ld_pl11 (ld_of hb he)
    obtain ⟨H2, r, g1, x2, lv, rfl, _, _⟩ := path_is hk (hp.ext he) (v := v) (w := i) (by omega) (by omega) (m := m) (by omega) (by omega)
    rw [loop_succ, f24_b1_eq]
    unfold f24_b1
    rw [List.range'_succ, List.all_cons] at hK hR
    cases c : (pathL p v i).isSome with
    | true =>
      rw [c] at g1 hK hR
      simp -implicitDefEqProofs only [r_opt, r_ret, ob_some, ifB_true, iteV_true, iteV_false, r_gdt, r_gdt2, r_gdtf, r_gdtf2, r_gdff, r_gdff2, r_gdft, r_gdft2, r_gdu, r_gdu2, pick_t, pick_f, ext_0, ext_1, x_newB, r_nil, r_fAddr, Nat.zero_add, b_lss, b_leq, b_gtr, b_geq, b_eql, b_neq, u_not, Bool.not_true, Bool.not_false, oneOf_one, oneOf_two, again_normal, again_exit, again_ret, Bool.and_true, e, l11, g1, b_add, e3]
      exact ih (i + 1) k H2 (by omega) (by omega) (by omega) (he.tr x2) (fun H' h1 h2 => hK H' h1 (by simpa using h2)) (fun H' h1 h2 => hR H' h1 (by simpa using h2)) ..
    | false =>
      rw [c] at g1 hR
      simp -implicitDefEqProofs only [r_opt, r_ret, ob_some, ifB_true, iteV_true, iteV_false, r_gdt, r_gdt2, r_gdtf, r_gdtf2, r_gdff, r_gdff2, r_gdft, r_gdft2, r_gdu, r_gdu2, pick_t, pick_f, ext_0, ext_1, x_newB, r_nil, r_fAddr, Nat.zero_add, b_lss, b_leq, b_gtr, b_geq, b_eql, b_neq, u_not, Bool.not_true, Bool.not_false, oneOf_one, oneOf_two, again_normal, again_exit, again_ret, Bool.and_true, e, l11, g1]
      rw [f24_r1_eq]
      unfold f24_r1
      exact hR H2 (he.tr x2) rfl ..
theorem zeros (n : Nat) : Blk.cells (List.replicate n [Value.int .i64 0]).flatten 3 .row = rowB (List.replicate n 0) [] := by
  unfold rowB
  congr 1
  rw [List.append_nil, List.map_replicate]
  induction n with
  | zero => rfl
  | succ n ih => rw [List.replicate_succ, List.replicate_succ, List.flatten_cons, ih]; rfl
theorem bMarks {v : Value} {us : List Value} (h : Rs vC 24 H v us) : bld Try.prog 72 [(1, v)] = some (.agg #[.slice none 0 0, v]) ∧ Blk.cells (Value.agg #[.slice none 0 0, v]).cells.toList 72 .fix = .cells [.slice none 0 0, v] 72 .fix := by
  rcases h with ⟨rfl, _⟩ | ⟨b, o, cap, rfl, _⟩
  · exact ⟨by kernel_rfl, rfl⟩
  · have : ∀ b o n c : Nat, bld Try.prog 72 [(1, .slice (some ⟨b, o, none⟩) n c)] = some (.agg #[.slice none 0 0, .slice (some ⟨b, o, none⟩) n c]) := fun b o n c => by kernel_rfl
    exact ⟨this _ _ _ _, rfl⟩
theorem Check_end {n : Nat} (hk : OkP p n) {H0 : Heap} {a : Nat} (hp : PV H0 p ev wv nv) (hb : H0[a]? = some (plB p ev wv nv)) (hm : 17592186045300 < m) (hm2 : m ≤ 72057594037927936) (x0 x2 x3 x4 x5 x6 x7 x8 x9 x10 x11 x12 x13 x14 x15 x16 x17 x18 x19 x20 x21 x22 x23 x24 x25 x26 x27 x28 x29 x30 x31 x32 x33 x34 x35 x36 x37 x38 x39 x40 x41 x42 x43 x44 x45 x46 x47 x48 x49 x50 x51 x52 x53 x54 x55 x56 x57 x58 x59 x60 x61 x62 x63 x64 x65 x66 x67 x68 x69 x70 : Value) :
    ∃ H', f24_e0_0 (lvl Try.prog pk12 m) (loopN m) x0 (.pointer (some ⟨a, 0, none⟩)) x2 x3 x4 x5 x6 x7 x8 x9 x10 x11 x12 x13 x14 x15 x16 x17 x18 x19 x20 x21 x22 x23 x24 x25 x26 x27 x28 x29 x30 x31 x32 x33 x34 x35 x36 x37 x38 x39 x40 x41 x42 x43 x44 x45 x46 x47 x48 x49 x50 x51 x52 x53 x54 x55 x56 x57 x58 x59 x60 x61 x62 x63 x64 x65 x66 x67 x68 x69 x70 H0 = some (.int .u16 (if cycB (waitsL p) = true then 140 else 0), H') ∧ Ext H0 H' := by
  have l11 := ld_pl11 hb
  obtain ⟨H1, wvv, g1, x1, hg⟩ := Waits_is hp (m := m) (by omega) (by omega)
  have hgl := waits_len p
  obtain ⟨us, hus, hul, _⟩ := id hg
  obtain ⟨bm, bc⟩ := bMarks hus
  obtain ⟨g, hgg⟩ : ∃ g, g = waitsL p := ⟨_, rfl⟩
  have hinn := waits_inn p
  have hrow := waits_row p
  rw [← hgg] at hg hgl hinn hrow ⊢
  obtain ⟨H2, hH2⟩ : ∃ H2, H2 = H1 ++ [Blk.cells [.slice none 0 0, wvv] 72 .fix] := ⟨_, rfl⟩
  have x2 : Ext H1 H2 := by rw [hH2]; exact Fr.app _ _ _
  have b2 : H2[H1.length]? = some (.cells [.slice none 0 0, wvv] 72 .fix) := by rw [hH2]; exact at_last _ _
  have l2 : ld1 (.pointer (some ⟨H1.length, 1, none⟩)) H2 = some (wvv, H2) := r_ld1 b2 rfl
  have hlen := hg.len
  have mk := x_mkSlice (H := H2) 3 1 8 [.int .i64 0] .i64 .i64 (g.length : Int) (by omega) (by omega) (by omega) rfl
  simp only [Int.toNat_natCast] at mk
  rw [zeros] at mk
  obtain ⟨H3, hH3⟩ : ∃ H3, H3 = H2 ++ [rowB (List.replicate g.length 0) []] := ⟨_, rfl⟩
  rw [← hH3] at mk
  have x3 : Ext H2 H3 := by rw [hH3]; exact Fr.app _ _ _
  have b3 := ld_of b2 x3
  have st : stN 1 (.pointer (some ⟨H1.length, 0, none⟩)) (.slice (some ⟨H2.length, 0, none⟩) g.length g.length) H3 = some (undef, H3.set H1.length (mkB H2.length g.length wvv)) := by
    rw [x_stN 1 _ _ _ rfl, b3, x_stC _ _ _ _ _ _ (by decide) (by show 0 + 1 ≤ 2; omega) rfl]
    rfl
  obtain ⟨H4, hH4⟩ : ∃ H4, H4 = H3.set H1.length (mkB H2.length g.length wvv) := ⟨_, rfl⟩
  rw [← hH4] at st
  have h12 : H2.length = H1.length + 1 := by rw [hH2]; simp
  have hs : Srch g H1 H1.length H2.length wvv H4 (List.replicate g.length 0) := by
    refine ⟨?_, ?_, ?_, by simp, fun x hx => .inl (by simp at hx; exact hx.2)⟩
    · rw [hH4]; exact set_ext (x2.tr x3) (Nat.le_refl _)
    · rw [hH4]; exact List.getElem?_set_self (List.getElem?_eq_some_iff.mp b3).1
    · rw [hH4, List.getElem?_set_ne (by omega), hH3]; exact at_last _ _
  have l4 := ld_mk0 hs.mrk
  have hlen4 : lenSl (atV H2.length g.length) = some (.int .i64 g.length) := rfl
  have hrd := round_is hg hinn (fun r hr => by have := hrow r hr; omega) (show H1.length ≠ H2.length by omega) (show H1.length ≤ H2.length by omega) g.length m (by omega)
  unfold f24_e0_0
  simp -implicitDefEqProofs only [r_opt, r_ret, ob_some, ifB_true, iteV_true, iteV_false, r_gdt, r_gdt2, r_gdtf, r_gdtf2, r_gdff, r_gdff2, r_gdft, r_gdft2, r_gdu, r_gdu2, pick_t, pick_f, ext_0, ext_1, x_newB, r_nil, r_fAddr, Nat.zero_add, b_lss, b_leq, b_gtr, b_geq, b_eql, b_neq, u_not, Bool.not_true, Bool.not_false, oneOf_one, oneOf_two, again_normal, again_exit, again_ret, Bool.and_true, l11, g1, bm, bc, ← hH2, l2, hlen, mk, st, l4, hlen4]
  exact Exists.imp (fun H' h => ⟨h.1, x1.tr h.2⟩) (Check_loop2 hrd (by omega) hinn g.length 0 m H4 (List.replicate g.length 0) (by omega) (by omega) (by omega) hs (fun u hu => by simp [List.getElem?_replicate] at hu) (fun u hu => by simp [List.getElem?_replicate] at hu) (fun u hu => absurd hu (by omega)) ..)
theorem Check_loop0 {n : Nat} (hk : OkP p n) {H0 : Heap} {a : Nat} {Q : Heap → Value → Prop} (hp : PV H0 p ev wv nv) (hb : H0[a]? = some (plB p ev wv nv)) (hm : 17592186045300 < m) (hm2 : m ≤ 72057594037927936) (hQ : ∀ H', Ext H0 H' → Q H' (.int .u16 (if pathsOk p n = true ∧ cycB (waitsL p) = false then 0 else 140))) :
    ∀ (q i k : Nat) (H1 : Heap), n - i = q → i ≤ n → q < k → Ext H0 H1 → (∀ v, v < i → ((List.range n).all fun w => (pathL p v w).isSome) = true) → ∀ (x0 x2 x3 x4 x5 x6 x7 x8 x9 x10 x11 x12 x13 x14 x15 x18 x19 x20 x21 x22 x23 x24 x25 x26 x27 x28 x29 x30 x31 x32 x33 x34 x35 x36 x37 x38 x39 x40 x41 x42 x43 x44 x45 x46 x47 x48 x49 x50 x51 x52 x53 x54 x55 x56 x57 x58 x59 x60 x61 x62 x63 x64 x65 x66 x67 x68 x69 x70 : Value),
    ∃ H' r, loopN k (runCode Try.prog (lvl Try.prog pk12 m) (loopN m) f24_c0) (f24_k0 (lvl Try.prog pk12 m) (loopN m)) [x0, (.pointer (some ⟨a, 0, none⟩)), x2, x3, x4, x5, x6, x7, x8, x9, x10, x11, x12, x13, x14, x15, (.int .i64 n), (.int .i64 (i : Nat)), x18, x19, x20, x21, x22, x23, x24, x25, x26, x27, x28, x29, x30, x31, x32, x33, x34, x35, x36, x37, x38, x39, x40, x41, x42, x43, x44, x45, x46, x47, x48, x49, x50, x51, x52, x53, x54, x55, x56, x57, x58, x59, x60, x61, x62, x63, x64, x65, x66, x67, x68, x69, x70] H1 = some (r, H') ∧ Q H' r := by
  intro q
  have h6 := hk.h6
  induction q with
  | zero =>
    intro i k H1 hr hi hk2 he hpre
    intros
    obtain ⟨k, rfl⟩ : ∃ n, k = n + 1 := ⟨k - 1, by omega⟩
    have e : decide ((i : Int) < (n : Int)) = false := decide_eq_false (by omega)
    have hall : pathsOk p n = true := by
      unfold pathsOk
      rw [List.all_eq_true]
      intro v hv
      exact hpre v (by have := List.mem_range.mp hv; omega)
    rw [loop_succ, f24_b0_eq]
    unfold f24_b0
    simp -implicitDefEqProofs only [r_opt, r_ret, ob_some, ifB_true, iteV_true, iteV_false, r_gdt, r_gdt2, r_gdtf, r_gdtf2, r_gdff, r_gdff2, r_gdft, r_gdft2, r_gdu, r_gdu2, pick_t, pick_f, ext_0, ext_1, x_newB, r_nil, r_fAddr, Nat.zero_add, b_lss, b_leq, b_gtr, b_geq, b_eql, b_neq, u_not, Bool.not_true, Bool.not_false, oneOf_one, oneOf_two, again_normal, again_exit, again_ret, Bool.and_true, e]
    rw [f24_e0_0_eq]
    refine Exists.imp (fun H' h => ⟨_, h.1, ?_⟩) (Check_end hk (hp.ext he) (ld_of hb he) hm hm2 ..)
    have := hQ H' (he.tr h.2)
    rw [hall] at this
    cases hc : cycB (waitsL p) with
    | true => rw [hc] at this; simpa using this
    | false => rw [hc] at this; simpa using this
  | succ q ih =>
    intro i k H1 hr hi hk2 he hpre
    intros
    obtain ⟨k, rfl⟩ : ∃ n, k = n + 1 := ⟨k - 1, by omega⟩
    have e : decide ((i : Int) < (n : Int)) = true := decide_eq_true (by omega)
    have b1 := ld_of hb he
    have l0 := ld_pl b1 0 _ rfl
    rw [hk.hn] at l0
    have hrr : ∀ v : Nat, ((List.range' 0 n).all fun w => (pathL p v w).isSome) = ((List.range n).all fun w => (pathL p v w).isSome) := fun v => by rw [List.range_eq_range']
    rw [loop_succ, f24_b0_eq]
    unfold f24_b0
    simp -implicitDefEqProofs only [r_opt, r_ret, ob_some, ifB_true, iteV_true, iteV_false, r_gdt, r_gdt2, r_gdtf, r_gdtf2, r_gdff, r_gdff2, r_gdft, r_gdft2, r_gdu, r_gdu2, pick_t, pick_f, ext_0, ext_1, x_newB, r_nil, r_fAddr, Nat.zero_add, b_lss, b_leq, b_gtr, b_geq, b_eql, b_neq, u_not, Bool.not_true, Bool.not_false, oneOf_one, oneOf_two, again_normal, again_exit, again_ret, Bool.and_true, e, l0]
    refine Check_loop1 hk (v := i) (by omega) (hp.ext he) b1 (Q := Q) (by omega) hm2 n 0 m H1 (by omega) (by omega) (by omega) (Fr.refl _ _) (fun H' hx hall => ?_) (fun H' hx hall => ?_) ..
    · rw [hrr] at hall
      intros
      simp -implicitDefEqProofs only [r_opt, r_ret, ob_some, ifB_true, iteV_true, iteV_false, r_gdt, r_gdt2, r_gdtf, r_gdtf2, r_gdff, r_gdff2, r_gdft, r_gdft2, r_gdu, r_gdu2, pick_t, pick_f, ext_0, ext_1, x_newB, r_nil, r_fAddr, Nat.zero_add, b_lss, b_leq, b_gtr, b_geq, b_eql, b_neq, u_not, Bool.not_true, Bool.not_false, oneOf_one, oneOf_two, again_normal, again_exit, again_ret, Bool.and_true]
      refine ih (i + 1) k H' (by omega) (by omega) (by omega) (he.tr hx) (fun v hv => ?_) ..
      by_cases hvi : v = i
      · rw [hvi]; exact hall
      · exact hpre v (by omega)
    · rw [hrr] at hall
      intros
      simp -implicitDefEqProofs only [r_opt, r_ret, ob_some, ifB_true, iteV_true, iteV_false, r_gdt, r_gdt2, r_gdtf, r_gdtf2, r_gdff, r_gdff2, r_gdft, r_gdft2, r_gdu, r_gdu2, pick_t, pick_f, ext_0, ext_1, x_newB, r_nil, r_fAddr, Nat.zero_add, b_lss, b_leq, b_gtr, b_geq, b_eql, b_neq, u_not, Bool.not_true, Bool.not_false, oneOf_one, oneOf_two, again_normal, again_exit, again_ret, Bool.and_true]
      rw [f24_r0_eq]
      unfold f24_r0
      refine ⟨H', _, rfl, ?_⟩
      have hno : pathsOk p n = false := by
        rw [← Bool.not_eq_true]
        unfold pathsOk
        rw [List.all_eq_true]
        intro hh
        rw [hh i (List.mem_range.mpr (by omega))] at hall
        cases hall
      have := hQ H' (he.tr hx)
      rw [hno] at this
      simpa using this
theorem Check_is (hp : PV H p ev wv nv) (hm : 17592186045400 < m) (hm2 : m ≤ 72057594037927936) :
    ∃ H', lvl Try.prog pk12 m (.func 24) [plV p ev wv nv] H = some (.int .u16 (errR p), H') ∧ Ext H H' := by
  obtain ⟨H0, hH0⟩ : ∃ H0, H0 = H ++ [plB p ev wv nv] := ⟨_, rfl⟩
  have x0 : Ext H H0 := by rw [hH0]; exact Fr.app _ _ _
  have b0 : H0[H.length]? = some (plB p ev wv nv) := by rw [hH0]; exact at_last _ _
  have p0 := hp.ext x0
  have l11 := ld_pl11 b0
  obtain ⟨H1, g1, x1⟩ := check_is p0 (m := m - 1) (by omega) (by omega)
  have b1 := ld_of b0 x1
  have p1 := p0.ext x1
  have main : ∃ H' r, lvl Try.prog pk12 m (.func 24) [plV p ev wv nv] H = some (r, H') ∧ (r = .int .u16 (errR p) ∧ Ext H H') := by
    refine lvl_ex (Q := fun H' r => r = .int .u16 (errR p) ∧ Ext H H') (pk_no rfl rfl) (by omega) ?_
    rw [f24_eq]
    unfold f24
    cases hc : checkOk p with
    | false =>
      rw [hc] at g1
      have en : (errno false != 0) = true := rfl
      have e : errR p = errno false := by unfold errR; rw [if_neg (by simp [hc])]; rfl
      simp -implicitDefEqProofs only [r_opt, r_ret, ob_some, ifB_true, iteV_true, iteV_false, r_gdt, r_gdt2, r_gdtf, r_gdtf2, r_gdff, r_gdff2, r_gdft, r_gdft2, r_gdu, r_gdu2, pick_t, pick_f, ext_0, ext_1, x_newB, r_nil, r_fAddr, Nat.zero_add, b_lss, b_leq, b_gtr, b_geq, b_eql, b_neq, u_not, Bool.not_true, Bool.not_false, oneOf_one, oneOf_two, again_normal, again_exit, again_ret, Bool.and_true, plV_cells, ← hH0, l11, g1, en]
      exact ⟨H1, _, rfl, by rw [e], x0.tr x1⟩
    | true =>
      rw [hc] at g1
      have en : (errno true != 0) = false := rfl
      obtain ⟨n, hk⟩ := ok_of hc
      have h6 := hk.h6
      have l0 := ld_pl b1 0 _ rfl
      rw [hk.hn] at l0
      simp -implicitDefEqProofs only [r_opt, r_ret, ob_some, ifB_true, iteV_true, iteV_false, r_gdt, r_gdt2, r_gdtf, r_gdtf2, r_gdff, r_gdff2, r_gdft, r_gdft2, r_gdu, r_gdu2, pick_t, pick_f, ext_0, ext_1, x_newB, r_nil, r_fAddr, Nat.zero_add, b_lss, b_leq, b_gtr, b_geq, b_eql, b_neq, u_not, Bool.not_true, Bool.not_false, oneOf_one, oneOf_two, again_normal, again_exit, again_ret, Bool.and_true, plV_cells, ← hH0, l11, g1, en, l0]
      refine Check_loop0 hk (Q := fun H' r => r = .int .u16 (errR p) ∧ Ext H H') p1 b1 (m := m - 1) (by omega) (by omega) (fun H' hx => ⟨?_, (x0.tr x1).tr hx⟩) n 0 (m - 1) H1 (by omega) (by omega) (by omega) (Fr.refl _ _) (fun v hv => absurd hv (by omega)) ..
      congr 1
      unfold errR routeOk
      have hq : p.nodes.toNat = n := by rw [hk.hn]; rfl
      rw [if_pos hc, hc, hq]
      cases cycB (waitsL p) <;> cases pathsOk p n <;> simp
  obtain ⟨H', r, h1, rfl, h2⟩ := main
  exact ⟨H', h1, h2⟩
end
end Go.Proofs.Ytdobnaldfmpimaa

set_option linter.unusedSectionVars false
set_option linter.unusedSimpArgs false
set_option linter.unusedVariables false
set_option maxRecDepth 100000
namespace Go.Proofs.Ytdobnaldfmpimaa
open Go.Abs
section
variable {H : Heap} {m : Nat} {p : PlanD} {ev wv nv : Value}
structure Sn (g : List (List Int)) (Hw : Heap) (ab : Nat) (H : Heap) (s : List Int) : Prop where
  ext : Ext Hw H
  row : H[ab]? = some (rowB s [])
  len : s.length = g.length
theorem Sn.st {g : List (List Int)} {Hw : Heap} {ab : Nat} {s : List Int} (h : Sn g Hw ab H s) (hab : Hw.length ≤ ab) {i : Nat} (hi : i < g.length) (y : Int) :
    ∃ H', stN 1 (.pointer (some ⟨ab, i, none⟩)) (.int .i64 y) H = some (undef, H') ∧ Sn g Hw ab H' (s.set i y) :=
  ⟨_, st_row y h.row (by have := h.len; omega), set_ext h.ext hab, List.getElem?_set_self (List.getElem?_eq_some_iff.mp h.row).1, by simp [h.len]⟩
theorem pthW_ne (w : Int) : ∀ (q : Nat) (l : List Int) (v : Int) (r : List Int), l ≠ [] → pthW p w q l v = some r → r ≠ []
  | 0, l, v, r, _, h => by cases h
  | q + 1, l, v, r, hl, h => by
    unfold pthW at h
    split at h
    · cases h; exact hl
    · split at h
      · cases h
      · exact pthW_ne w q _ _ r (by simp) h
theorem path_len {n : Nat} (hk : OkP p n) (hc : checkOk p = true) {v w : Int} (hv : 0 ≤ v ∧ v < n) (hw : 0 ≤ w ∧ w < n) : (((pathR p v w).length : Int) == 0) = !(pathL p v w).isSome := by
  have hn := hk.hn
  have e : pathR p v w = (pathL p v w).getD [] := by unfold pathR; rw [if_pos ⟨hc, by omega, by omega, by omega, by omega⟩]
  rw [e]
  cases h : pathL p v w with
  | none => rfl
  | some r =>
    have := pthW_ne w _ [v] v r (by simp) h
    have : 0 < r.length := List.length_pos_iff.mpr this
    simp only [Option.getD_some, Option.isSome_some, Bool.not_true, beq_eq_false_iff_ne, ne_eq]
    omega
end
end Go.Proofs.Ytdobnaldfmpimaa

set_option linter.unusedSectionVars false
set_option linter.unusedSimpArgs false
set_option linter.unusedVariables false
set_option maxRecDepth 100000
namespace Go.Proofs.Ytdobnaldfmpimaa
open Go.Abs
theorem wf_u16 {a : Int} (h : (Lit.int .u16 a).wf = true) : 0 ≤ a ∧ a < 65536 := by
  have e : ∀ z : Int, (Lit.int .u16 z).wf = (decide (0 ≤ z) && decide (z ≤ 65535)) := fun z => rfl
  rw [e] at h
  simp only [Bool.and_eq_true, decide_eq_true_eq] at h
  exact ⟨h.1, by omega⟩
theorem nat_u8 {a : Int} (h : (Lit.int .u8 a).wf = true) : ∃ n : Nat, a = n ∧ n < 256 := by
  have := wf_u8 h
  exact ⟨a.toNat, by omega, by omega⟩
theorem nat_u16 {a : Int} (h : (Lit.int .u16 a).wf = true) : ∃ n : Nat, a = n ∧ n < 65536 := by
  have := wf_u16 h
  exact ⟨a.toNat, by omega, by omega⟩
def natOf (r : List Value) : Nat := match r with
  | [.int _ i] => i.toNat
  | _ => 0
theorem Us.of_rp {G : Heap} {n : Nat} {u : Value} (h : Rp Try.prog G n 43 [u]) : ∃ next, Us G u next ∧ (∀ x ∈ next, x < 256) ∧ next.length ≤ 72057594037927936 := by
  obtain ⟨m, u', b, rows, h1, h2, h3, h4, h5⟩ := h.slice' (e := 5) (by kernel_rfl)
  cases h1
  have hc : Try.prog.cellsOf 5 = 1 := by kernel_rfl
  have hb : Try.prog.bytesOf 5 = 1 := by kernel_rfl
  rw [hc] at h2
  rw [hb] at h3
  have hr : ∀ r ∈ rows, u8C (natOf r) = r ∧ natOf r < 256 := fun r hr => by
    obtain ⟨i, hi, hw⟩ := (h5 r hr).2.int (k := .u8) (by kernel_rfl)
    obtain ⟨k, rfl, hk⟩ := nat_u8 hw
    subst hi
    exact ⟨rfl, by simpa [natOf] using hk⟩
  have hm : (rows.map natOf).map u8C = rows := by
    rw [List.map_map]
    conv => rhs; rw [← List.map_id rows]
    exact List.map_congr_left fun r hr' => (hr r hr').1
  refine ⟨rows.map natOf, ?_, fun x hx => ?_, ?_⟩
  · rw [← hm] at h2
    rcases h4 with rfl | ⟨c, rfl⟩
    · have h0 : rows = [] := by
        have := h2.len
        have hl : lenSl (Value.slice none 0 0) = some (.int .i64 0) := rfl
        rw [hl, hm] at this
        simp at this
        exact List.length_eq_zero_iff.mp (by omega)
      subst h0
      exact .inl ⟨rfl, rfl⟩
    · exact h2.rs u8C_len (c := c) (.inr (by rw [List.length_map]))
  · obtain ⟨r, hr1, rfl⟩ := List.mem_map.mp hx
    exact (hr r hr1).2
  · have : reachBytes = 140737488351232 := rfl
    rw [List.length_map]
    omega
end Go.Proofs.Ytdobnaldfmpimaa

set_option linter.unusedSectionVars false
set_option linter.unusedSimpArgs false
set_option linter.unusedVariables false
set_option maxRecDepth 100000
namespace Go.Proofs.Ytdobnaldfmpimaa
open Go.Abs
section
variable {H : Heap} {m : Nat} {p : PlanD} {ev wv nv : Value}
end
theorem Sl.rs' {α : Type} {el : α → List Value} {e : TypeId} {sz b : Nat} {G : Heap} {u : Value} {xs : List α} (hsz : ∀ x, (el x).length = sz) (h2 : Sl G u sz b (xs.map el)) (h4 : u = .slice none 0 0 ∨ ∃ c, u = .slice (some ⟨c, 0, none⟩) xs.length xs.length) : Rs el e G u xs := by
  rcases h4 with rfl | ⟨c, rfl⟩
  · have h0 : xs = [] := by
      have := h2.len
      have hl : lenSl (Value.slice none 0 0) = some (.int .i64 0) := rfl
      rw [hl] at this
      simp at this
      exact List.length_eq_zero_iff.mp (by omega)
    subst h0
    exact .inl ⟨rfl, rfl⟩
  · exact h2.rs hsz (c := c) (.inr rfl)
end Go.Proofs.Ytdobnaldfmpimaa

set_option linter.unusedSectionVars false
set_option linter.unusedSimpArgs false
set_option linter.unusedVariables false
set_option maxRecDepth 100000
namespace Go.Proofs.Ytdobnaldfmpimaa
open Go.Abs
section
variable {H H0 : Heap} {m : Nat} {p : PlanD} {ev wv nv : Value}
def tab (n : Nat) (F : Nat → Nat → Int) : List (List Int) := (List.range n).map fun v => (List.range n).map (F v)
theorem tab_at {n : Nat} {F : Nat → Nat → Int} {v : Nat} (h : v < n) : (tab n F)[v]? = some ((List.range n).map (F v)) := by
  unfold tab
  rw [List.getElem?_map, List.getElem?_range h]
  rfl
theorem tab_len (n : Nat) (F : Nat → Nat → Int) : (tab n F).length = n := by simp [tab]
theorem tab_ext {n : Nat} {F G : Nat → Nat → Int} (h : ∀ v w, v < n → w < n → F v w = G v w) : tab n F = tab n G := by
  unfold tab
  refine List.map_congr_left fun v hv => List.map_congr_left fun w hw => ?_
  exact h v w (List.mem_range.mp hv) (List.mem_range.mp hw)
theorem tab_set {n : Nat} {F : Nat → Nat → Int} {v w : Nat} (hv : v < n) (hw : w < n) (x : Int) : (tab n F).set v (((List.range n).map (F v)).set w x) = tab n fun v' w' => if v' = v ∧ w' = w then x else F v' w' := by
  apply List.ext_getElem?
  intro i
  by_cases hi : i < n
  · rw [tab_at hi, List.getElem?_set]
    by_cases hvi : v = i
    · subst hvi
      rw [if_pos rfl, if_pos (by rw [tab_len]; exact hv)]
      congr 1
      apply List.ext_getElem?
      intro j
      by_cases hj : j < n
      · rw [List.getElem?_map, List.getElem?_range hj, List.getElem?_set]
        by_cases hwj : w = j
        · subst hwj
          rw [if_pos rfl, if_pos (by simp; exact hw)]
          simp
        · rw [if_neg hwj, List.getElem?_map, List.getElem?_range hj]
          simp only [Option.map_some, true_and]
          rw [if_neg (Ne.symm hwj)]
      · rw [List.getElem?_eq_none (by simp; omega), List.getElem?_eq_none (by simp; omega)]
    · rw [if_neg hvi, tab_at hi]
      congr 1
      refine List.map_congr_left fun j _ => ?_
      rw [if_neg (by omega)]
  · rw [List.getElem?_eq_none (by simp [tab]; omega), List.getElem?_eq_none (by simp [tab]; omega)]
theorem RowsA.set {N : List (List Int)} (h : RowsA H0 H nv N wv) {v w : Nat} {r : List Int} (hr : N[v]? = some r) (hw : w < r.length) (x : Int) :
    ∃ a u a2 c rest, iAddr 1 nv (.int .i64 (v : Nat)) = some a ∧ ld1 a H = some (u, H) ∧ lenSl u = some (.int .i64 r.length) ∧ iAddr 1 u (.int .i64 (w : Nat)) = some a2 ∧ stN 1 a2 (.int .i64 x) H = some (undef, H.set c (rowB (r.set w x) rest)) ∧ RowsA H0 (H.set c (rowB (r.set w x) rest)) nv (N.set v (r.set w x)) wv ∧
      H[c]? = some (rowB r rest) ∧ ¬ home wv c ∧ H0.length ≤ c := by
  obtain ⟨us, hi, ha⟩ := h
  have hvl := (List.getElem?_eq_some_iff.mp hr).1
  obtain ⟨s, hs⟩ : ∃ s, us[v]? = some s := ⟨_, List.getElem?_eq_getElem (by rw [hi.len]; exact hvl)⟩
  have hrow := hi.el v s r hs hr
  obtain ⟨b, o, g1, _, g3⟩ := hi.row.rs.at_ sC_len hs .i64
  have g4 : ld1 (.pointer (some ⟨b, o, none⟩)) H = some (s.1, H) := (g3 H rfl).2.1 0 _ rfl
  have hlen := hrow.len
  obtain ⟨hcs, ⟨hv, h0⟩ | ⟨c, cap, rest, hv, h1, h2, h3⟩⟩ := id hrow
  · rw [h0] at hw; exact absurd hw (Nat.not_lt_zero _)
  · have hb : H[c]? = some (rowB r rest) := by rw [h3, inC_flat]; rfl
    have hcl := (List.getElem?_eq_some_iff.mp hb).1
    have hhome : home s.1 c := ⟨0, _, _, hv⟩
    have hac := ha s (List.mem_of_getElem? hs) c hhome
    have new : Iw (H.set c (rowB (r.set w x) rest)) s.1 (r.set w x) := by
      refine ⟨by rw [inC_flat]; simp, .inr ⟨c, cap, rest, by rw [List.length_set]; exact hv, by rw [List.length_set]; exact h1, by rw [List.length_set]; exact h2, ?_⟩⟩
      rw [List.getElem?_set_self hcl, inC_flat]
      rfl
    refine ⟨_, s.1, .pointer (some ⟨c, w, none⟩), c, rest, g1, g4, hlen, ?_, st_row x hb hw, ⟨us, ⟨?_, by rw [List.length_set]; exact hi.len, fun j u xs hu hxs => ?_, hi.ap⟩, ha⟩, hb, hac.1, hac.2⟩
    · rw [hv]
      have := ia (c := c) (o := 0) (cap := cap) hw
      rw [Nat.zero_add] at this
      exact this
    · refine hi.row.keep fun b hb' => List.getElem?_set_ne fun hh => ?_
      subst hh
      obtain ⟨cs, hc⟩ := hi.row.blk hb'
      rw [hb] at hc
      simp [rowB] at hc
    · by_cases hj : j = v
      · subst hj
        rw [hs] at hu
        cases hu
        rw [List.getElem?_set_self hvl] at hxs
        cases hxs
        exact new
      · rw [List.getElem?_set_ne (Ne.symm hj)] at hxs
        refine (hi.el j u xs hu hxs).keep fun b hb' => List.getElem?_set_ne fun hh => ?_
        subst hh
        rcases Nat.lt_or_gt_of_ne hj with h | h
        · exact hi.ap j v u s h hu hs _ hb' hhome
        · exact hi.ap v j s u h hs hu _ hhome hb'
structure PA (H0 H : Heap) (a : Nat) (p : PlanD) (ev wv nv : Value) : Prop where
  ext : Ext H0 H
  blk : H[a]? = some (plB p ev wv nv)
  ha : H0.length ≤ a
  e : Ew H ev p.edges
  w : Iw H wv p.weights
  nx : RowsA H0 H nv p.next wv
  be : p.edges.length ≤ 1000
  bw : p.weights.length ≤ 1000
  bn : p.next.length ≤ 1000
variable {a : Nat}
theorem PA.pv (h : PA H0 H a p ev wv nv) : PV H p ev wv nv := ⟨h.e.rs, h.w.rs, h.nx.rw.rows, by have := h.be; omega, by have := h.bw; omega, by have := h.bn; omega⟩
theorem PA.on {H' : Heap} (h : PA H0 H a p ev wv nv) (he : Ext H H') : PA H0 H' a p ev wv nv :=
  ⟨h.ext.tr he, ld_of h.blk he, h.ha, h.e.keep fun b hb => he.2 b (h.e.lt hb) id, h.w.keep fun b hb => he.2 b (h.w.lt hb) id, h.nx.ext he, h.be, h.bw, h.bn⟩
theorem PA.set (h : PA H0 H a p ev wv nv) {n : Nat} {F : Nat → Nat → Int} (hp : p.next = tab n F) {v w : Nat} (hv : v < n) (hw : w < n) (x : Int) :
    ∃ a1 u a2 H', iAddr 1 nv (.int .i64 (v : Nat)) = some a1 ∧ ld1 a1 H = some (u, H) ∧ lenSl u = some (.int .i64 n) ∧ iAddr 1 u (.int .i64 (w : Nat)) = some a2 ∧ stN 1 a2 (.int .i64 x) H = some (undef, H') ∧ PA H0 H' a { p with next := tab n fun v' w' => if v' = v ∧ w' = w then x else F v' w' } ev wv nv := by
  have hr : p.next[v]? = some ((List.range n).map (F v)) := by rw [hp]; exact tab_at hv
  obtain ⟨a1, u, a2, c, rest, g1, g2, g3, g4, g5, g6, g7, g8, g9⟩ := h.nx.set hr (w := w) (by simp; exact hw) x
  rw [hp, tab_set hv hw] at g6
  have other : ∀ b, b ≠ c → (H.set c (rowB (((List.range n).map (F v)).set w x) rest))[b]? = H[b]? := fun b hb => List.getElem?_set_ne (Ne.symm hb)
  refine ⟨a1, u, a2, _, g1, g2, by rw [g3]; simp, g4, g5, ⟨⟨by rw [List.length_set]; exact h.ext.1, fun b hb _ => ?_⟩, ?_, h.ha, ?_, ?_, g6, h.be, h.bw, by rw [tab_len]; have := h.bn; rw [hp, tab_len] at this; exact this⟩⟩
  · rw [other b (by omega), h.ext.2 b hb id]
  · have hac : a ≠ c := fun hh => by
      subst hh
      have := h.blk
      rw [g7] at this
      simp [rowB, plB] at this
    rw [other a hac]
    exact h.blk
  · refine h.e.keep fun b hb => other b fun hh => ?_
    subst hh
    obtain ⟨cs, hc⟩ := h.e.blk hb
    rw [g7] at hc
    simp [rowB] at hc
  · exact h.w.keep fun b hb => other b fun hh => g8 (hh ▸ hb)
theorem PA.row (h : PA H0 H a p ev wv nv) {n : Nat} {F : Nat → Nat → Int} (hp : p.next = tab n F) {v : Nat} (hv : v < n) : ∃ a1 u, iAddr 1 nv (.int .i64 (v : Nat)) = some a1 ∧ ld1 a1 H = some (u, H) ∧ lenSl u = some (.int .i64 n) := by
  have hr : p.next[v]? = some ((List.range n).map (F v)) := by rw [hp]; exact tab_at hv
  obtain ⟨a1, u, g1, g2, g3⟩ := h.nx.rw.rows.at_ hr .i64
  exact ⟨a1, u, g1, g2, by rw [g3.len]; simp⟩
theorem made_pa {H2 : Heap} {nodes room more joined : Nat} {next : List Nat} (h : RowsA H0 H2 nv (mkP nodes room more joined next).next wv) (hx : Ext H0 H2) (he : Ew H2 ev (mkP nodes room more joined next).edges) (hw : Iw H2 wv (mkP nodes room more joined next).weights) :
    PA H0 (H2 ++ [plB (mkP nodes room more joined next) ev wv nv]) H2.length (mkP nodes room more joined next) ev wv nv := by
  have x2 : Ext H2 (H2 ++ [plB (mkP nodes room more joined next) ev wv nv]) := Fr.app _ _ _
  have := mk_e15 nodes room more joined next
  have hn := mkN_is nodes
  exact ⟨hx.tr x2, at_last _ _, hx.1, he.on _, hw.on _, h.ext x2, by omega, by simp [mkP]; omega, by simp [mkP]; omega⟩
def ringF (F : Nat → Nat → Int) (i j v w : Nat) : Int := if (v < i ∨ (v = i ∧ w < j)) ∧ v ≠ w then (((v + 1) % 3 : Nat) : Int) else F v w
def ringP (on : Bool) : PlanD := if on = true then { mkP 1 0 0 7 [] with next := tab 3 fun v w => if v ≠ w then (((v + 1) % 3 : Nat) : Int) else w } else mkP 1 0 0 7 []
theorem ring_loop1 {i : Nat} (hi : i < 3) {K : Ex → K (Value × Heap)} {q0 : PlanD} {rb : Nat} (hm : 100 < m) {Q : Heap → Value → Prop} :
    ∀ (q j k : Nat) (H : Heap), 3 - j = q → j ≤ 3 → q < k → PA H0 H a { q0 with next := tab 3 (ringF (fun _ w => (w : Int)) i j) } ev wv nv →
    (∀ H', PA H0 H' a { q0 with next := tab 3 (ringF (fun _ w => (w : Int)) i 3) } ev wv nv → ∀ (x1 x5 x6 x7 x8 x9 x10 x11 x12 x13 x14 x15 x16 x17 x18 x19 x20 x21 x22 x23 x24 x25 x26 x27 x28 x29 x30 x31 x32 x33 x34 x35 x36 x37 x38 x39 x40 : Value), ∃ H2 rr, K .normal [(.bool true), x1, (.pointer (some ⟨rb, 0, none⟩)), (.pointer (some ⟨a, 0, none⟩)), (.int .i64 (i + 1 : Nat)), x5, x6, x7, x8, x9, x10, x11, x12, x13, x14, x15, x16, x17, x18, x19, x20, x21, x22, x23, x24, x25, x26, x27, x28, x29, x30, x31, x32, x33, x34, x35, x36, x37, x38, x39, x40] H' = some (rr, H2) ∧ Q H2 rr) → ∀ (x1 x6 x7 x8 x9 x10 x11 x12 x13 x14 x15 x16 x17 x18 x19 x20 x21 x22 x23 x24 x25 x26 x27 x28 x29 x30 x31 x32 x33 x34 x35 x36 x37 x38 x39 x40 : Value),
    ∃ H' rr, loopN k (runCode Try.prog (lvl Try.prog pk12 m) (loopN m) f46_c1) (f46_k1 (lvl Try.prog pk12 m) (loopN m) K) [(.bool true), x1, (.pointer (some ⟨rb, 0, none⟩)), (.pointer (some ⟨a, 0, none⟩)), (.int .i64 (i : Nat)), (.int .i64 (j : Nat)), x6, x7, x8, x9, x10, x11, x12, x13, x14, x15, x16, x17, x18, x19, x20, x21, x22, x23, x24, x25, x26, x27, x28, x29, x30, x31, x32, x33, x34, x35, x36, x37, x38, x39, x40] H = some (rr, H') ∧ Q H' rr := by
  intro q
  induction q with
  | zero =>
    intro j k H hq hj hk hA hK
    intros
    obtain ⟨k, rfl⟩ : ∃ n, k = n + 1 := ⟨k - 1, by omega⟩
    obtain rfl : j = 3 := by omega
    have e : decide (((3 : Nat) : Int) < ((3 : Nat) : Int)) = false := by simp
    have e3 : IntKind.i64.wrap ((i : Int) + 1) = ((i + 1 : Nat) : Int) := by rw [wrap_i64 (by omega) (by omega)]; omega
    have l10 := ld_pl hA.blk 10 _ rfl
    obtain ⟨a1, u, g1, g2, g3⟩ := hA.row rfl hi
    rw [loop_succ, f46_b1_eq]
    unfold f46_b1
    simp -implicitDefEqProofs only [r_opt, r_ret, ob_some, ifB_true, iteV_true, iteV_false, r_gdt, r_gdt2, r_gdtf, r_gdtf2, r_gdff, r_gdff2, r_gdft, r_gdft2, r_gdu, r_gdu2, pick_t, pick_f, ext_0, ext_1, x_newB, r_nil, r_fAddr, Nat.zero_add, b_lss, b_leq, b_gtr, b_geq, b_eql, b_neq, u_not, Bool.not_true, Bool.not_false, oneOf_one, oneOf_two, again_normal, again_exit, again_ret, Bool.and_true, l10, g1, g2, g3, e]
    rw [f46_e1_2_eq]
    unfold f46_e1_2
    simp -implicitDefEqProofs only [r_opt, r_ret, ob_some, ifB_true, iteV_true, iteV_false, r_gdt, r_gdt2, r_gdtf, r_gdtf2, r_gdff, r_gdff2, r_gdft, r_gdft2, r_gdu, r_gdu2, pick_t, pick_f, ext_0, ext_1, x_newB, r_nil, r_fAddr, Nat.zero_add, b_lss, b_leq, b_gtr, b_geq, b_eql, b_neq, u_not, Bool.not_true, Bool.not_false, oneOf_one, oneOf_two, again_normal, again_exit, again_ret, Bool.and_true, b_add, e3]
    exact hK H hA ..
  | succ q ih =>
    intro j k H hq hj hk hA hK
    intros
    obtain ⟨k, rfl⟩ : ∃ n, k = n + 1 := ⟨k - 1, by omega⟩
    have e : decide ((j : Int) < ((3 : Nat) : Int)) = true := decide_eq_true (by omega)
    have e3 : IntKind.i64.wrap ((j : Int) + 1) = ((j + 1 : Nat) : Int) := by rw [wrap_i64 (by omega) (by omega)]; omega
    have e4 : IntKind.i64.wrap ((i : Int) + 1) = ((i + 1 : Nat) : Int) := by rw [wrap_i64 (by omega) (by omega)]; omega
    have e5 := remI (i + 1) 3 3 rfl (by omega)
    have l10 := ld_pl hA.blk 10 _ rfl
    obtain ⟨a0, u0, g1', g2', g3'⟩ := hA.row rfl hi
    obtain ⟨a1, u, a2, H', g1, g2, g3, g4, g5, g6⟩ := hA.set rfl hi (w := j) (by omega) (((i + 1) % 3 : Nat) : Int)
    rw [g1] at g1'
    cases g1'
    rw [g2] at g2'
    cases g2'
    rw [loop_succ, f46_b1_eq]
    unfold f46_b1
    cases c : ((i : Int) != (j : Int)) with
    | true =>
      have hne : i ≠ j := by simp at c; omega
      simp -implicitDefEqProofs only [r_opt, r_ret, ob_some, ifB_true, iteV_true, iteV_false, r_gdt, r_gdt2, r_gdtf, r_gdtf2, r_gdff, r_gdff2, r_gdft, r_gdft2, r_gdu, r_gdu2, pick_t, pick_f, ext_0, ext_1, x_newB, r_nil, r_fAddr, Nat.zero_add, b_lss, b_leq, b_gtr, b_geq, b_eql, b_neq, u_not, Bool.not_true, Bool.not_false, oneOf_one, oneOf_two, again_normal, again_exit, again_ret, Bool.and_true, l10, g1, g2, g3, e, c, b_add, e4, e5, g4, g5, e3]
      refine ih (j + 1) k H' (by omega) (by omega) (by omega) ?_ hK ..
      have : (tab 3 fun v' w' => if v' = i ∧ w' = j then (((i + 1) % 3 : Nat) : Int) else ringF (fun _ w => (w : Int)) i j v' w') = tab 3 (ringF (fun _ w => (w : Int)) i (j + 1)) := tab_ext fun v w hv hw => by
        unfold ringF
        by_cases h1 : v = i ∧ w = j
        · obtain ⟨rfl, rfl⟩ := h1
          rw [if_pos ⟨rfl, rfl⟩, if_pos ⟨.inr ⟨rfl, by omega⟩, hne⟩]
        · rw [if_neg h1]
          by_cases h2 : (v < i ∨ (v = i ∧ w < j)) ∧ v ≠ w
          · rw [if_pos h2, if_pos (by omega)]
          · rw [if_neg h2, if_neg (by omega)]
      rw [← this]
      exact g6
    | false =>
      have hne : i = j := by simp at c; omega
      simp -implicitDefEqProofs only [r_opt, r_ret, ob_some, ifB_true, iteV_true, iteV_false, r_gdt, r_gdt2, r_gdtf, r_gdtf2, r_gdff, r_gdff2, r_gdft, r_gdft2, r_gdu, r_gdu2, pick_t, pick_f, ext_0, ext_1, x_newB, r_nil, r_fAddr, Nat.zero_add, b_lss, b_leq, b_gtr, b_geq, b_eql, b_neq, u_not, Bool.not_true, Bool.not_false, oneOf_one, oneOf_two, again_normal, again_exit, again_ret, Bool.and_true, l10, g1, g2, g3, e, c, b_add, e3]
      refine ih (j + 1) k H (by omega) (by omega) (by omega) ?_ hK ..
      have : tab 3 (ringF (fun _ w => (w : Int)) i j) = tab 3 (ringF (fun _ w => (w : Int)) i (j + 1)) := tab_ext fun v w hv hw => by
        unfold ringF
        by_cases h2 : (v < i ∨ (v = i ∧ w < j)) ∧ v ≠ w
        · rw [if_pos h2, if_pos (by omega)]
        · rw [if_neg h2, if_neg (by omega)]
      rw [← this]
      exact hA
theorem PA.put (h : PA H0 H a p ev wv nv) {rb : Nat} (hrb : H[rb]? = some plZ) {Hb : Heap} (hb : Ext Hb H0) (hl : Hb.length ≤ rb) :
    stN 11 (.pointer (some ⟨rb, 0, none⟩)) (plV p ev wv nv) H = some (undef, H.set rb (plB p ev wv nv)) ∧ ldN 11 (.pointer (some ⟨rb, 0, none⟩)) (H.set rb (plB p ev wv nv)) = some (plV p ev wv nv, H.set rb (plB p ev wv nv)) ∧ PV (H.set rb (plB p ev wv nv)) p ev wv nv ∧ Ext Hb (H.set rb (plB p ev wv nv)) := by
  have hrl := (List.getElem?_eq_some_iff.mp hrb).1
  have hall := h.pv.all
  have st : stN 11 (.pointer (some ⟨rb, 0, none⟩)) (plV p ev wv nv) H = some (undef, H.set rb (plB p ev wv nv)) := by
    have e1 : (plV p ev wv nv).cells.toList = plC p ev wv nv := rfl
    rw [x_stN 11 _ _ _ rfl, hrb, e1]
    unfold plZ
    rw [x_stC _ _ _ _ _ _ (by decide) (by simp [plC]) hall]
    rfl
  have kp : ∀ (b : Nat) (cs : List Value) (e : TypeId), H[b]? = some (.cells cs e .row) → (H.set rb (plB p ev wv nv))[b]? = H[b]? := fun b cs e hb => by
    refine List.getElem?_set_ne fun hh => ?_
    subst hh
    rw [hrb] at hb
    simp [plZ] at hb
  refine ⟨st, ld_pl11 (List.getElem?_set_self hrl), ⟨(h.e.keep fun b hb => ?_).rs, (h.w.keep fun b hb => ?_).rs, ?_, by have := h.be; omega, by have := h.bw; omega, by have := h.bn; omega⟩, set_ext (hb.tr h.ext) hl⟩
  · obtain ⟨cs, hc⟩ := h.e.blk hb
    exact kp b cs _ hc
  · obtain ⟨cs, hc⟩ := h.w.blk hb
    exact kp b cs _ hc
  · obtain ⟨us, hi, _⟩ := h.nx
    refine RowsW.rows ⟨us, hi.keep (fun b hb => ?_) fun u hu b hb => ?_⟩
    · obtain ⟨cs, hc⟩ := hi.row.blk hb
      exact kp b cs _ hc
    · obtain ⟨cs, hc⟩ := hi.blk hu hb
      exact kp b cs _ hc
def Rung (Hb : Heap) (q : PlanD) (H' : Heap) (r : Value) : Prop := ∃ ev wv nv, r = plV q ev wv nv ∧ PV H' q ev wv nv ∧ Ext Hb H'
theorem ring_end {rb : Nat} {q : PlanD} (h : PA H0 H a q ev wv nv) (hrb : H[rb]? = some plZ) {Hb : Heap} (hb : Ext Hb H0) (hl : Hb.length ≤ rb) (x0 x1 x4 x5 x6 x7 x8 x9 x10 x11 x12 x13 x14 x15 x16 x17 x18 x19 x20 x21 x22 x23 x24 x25 x26 x27 x28 x29 x30 x31 x32 x33 x34 x35 x36 x37 x38 x39 x40 : Value) :
    ∃ H' rr, f46_e0_0 (lvl Try.prog pk12 m) (loopN m) x0 x1 (.pointer (some ⟨rb, 0, none⟩)) (.pointer (some ⟨a, 0, none⟩)) x4 x5 x6 x7 x8 x9 x10 x11 x12 x13 x14 x15 x16 x17 x18 x19 x20 x21 x22 x23 x24 x25 x26 x27 x28 x29 x30 x31 x32 x33 x34 x35 x36 x37 x38 x39 x40 H = some (rr, H') ∧ Rung Hb q H' rr := by
  obtain ⟨p1, p2, p3, p4⟩ := h.put hrb hb hl
  have l11 := ld_pl11 h.blk
  unfold f46_e0_0
  simp -implicitDefEqProofs only [r_opt, r_ret, ob_some, ifB_true, iteV_true, iteV_false, r_gdt, r_gdt2, r_gdtf, r_gdtf2, r_gdff, r_gdff2, r_gdft, r_gdft2, r_gdu, r_gdu2, pick_t, pick_f, ext_0, ext_1, x_newB, r_nil, r_fAddr, Nat.zero_add, b_lss, b_leq, b_gtr, b_geq, b_eql, b_neq, u_not, Bool.not_true, Bool.not_false, oneOf_one, oneOf_two, again_normal, again_exit, again_ret, Bool.and_true, l11, p1, p2]
  exact ⟨_, _, rfl, ev, wv, nv, rfl, p3, p4⟩
theorem ring_loop0 {q0 : PlanD} {rb : Nat} (hm : 200 < m) {Hb : Heap} (hb : Ext Hb H0) (hl : Hb.length ≤ rb) (hrb : H0[rb]? = some plZ) :
    ∀ (q i k : Nat) (H : Heap), 3 - i = q → i ≤ 3 → q < k → PA H0 H a { q0 with next := tab 3 (ringF (fun _ w => (w : Int)) i 0) } ev wv nv → ∀ (x1 x5 x6 x7 x8 x9 x10 x11 x12 x13 x14 x15 x16 x17 x18 x19 x20 x21 x22 x23 x24 x25 x26 x27 x28 x29 x30 x31 x32 x33 x34 x35 x36 x37 x38 x39 x40 : Value),
    ∃ H' rr, loopN k (runCode Try.prog (lvl Try.prog pk12 m) (loopN m) f46_c0) (f46_k0 (lvl Try.prog pk12 m) (loopN m)) [(.bool true), x1, (.pointer (some ⟨rb, 0, none⟩)), (.pointer (some ⟨a, 0, none⟩)), (.int .i64 (i : Nat)), x5, x6, x7, x8, x9, x10, x11, x12, x13, x14, x15, x16, x17, x18, x19, x20, x21, x22, x23, x24, x25, x26, x27, x28, x29, x30, x31, x32, x33, x34, x35, x36, x37, x38, x39, x40] H = some (rr, H') ∧ Rung Hb { q0 with next := tab 3 (ringF (fun _ w => (w : Int)) 3 0) } H' rr := by
  intro q
  induction q with
  | zero =>
    intro i k H hq hi hk hA
    intros
    obtain ⟨k, rfl⟩ : ∃ n, k = n + 1 := ⟨k - 1, by omega⟩
    obtain rfl : i = 3 := by omega
    have e : decide (((3 : Nat) : Int) < ((3 : Nat) : Int)) = false := by simp
    have l10 := ld_pl hA.blk 10 _ rfl
    have hlen := hA.pv.n.len
    have h3 : (tab 3 (ringF (fun _ w => (w : Int)) 3 0)).length = 3 := tab_len _ _
    simp only [h3] at hlen
    rw [loop_succ, f46_b0_eq]
    unfold f46_b0
    simp -implicitDefEqProofs only [r_opt, r_ret, ob_some, ifB_true, iteV_true, iteV_false, r_gdt, r_gdt2, r_gdtf, r_gdtf2, r_gdff, r_gdff2, r_gdft, r_gdft2, r_gdu, r_gdu2, pick_t, pick_f, ext_0, ext_1, x_newB, r_nil, r_fAddr, Nat.zero_add, b_lss, b_leq, b_gtr, b_geq, b_eql, b_neq, u_not, Bool.not_true, Bool.not_false, oneOf_one, oneOf_two, again_normal, again_exit, again_ret, Bool.and_true, l10, hlen, e]
    rw [f46_e0_0_eq]
    exact ring_end hA (ld_of hrb hA.ext) hb hl ..
  | succ q ih =>
    intro i k H hq hi hk hA
    intros
    obtain ⟨k, rfl⟩ : ∃ n, k = n + 1 := ⟨k - 1, by omega⟩
    have e : decide ((i : Int) < ((3 : Nat) : Int)) = true := decide_eq_true (by omega)
    have l10 := ld_pl hA.blk 10 _ rfl
    have hlen := hA.pv.n.len
    have h3 : (tab 3 (ringF (fun _ w => (w : Int)) i 0)).length = 3 := tab_len _ _
    simp only [h3] at hlen
    rw [loop_succ, f46_b0_eq]
    unfold f46_b0
    simp -implicitDefEqProofs only [r_opt, r_ret, ob_some, ifB_true, iteV_true, iteV_false, r_gdt, r_gdt2, r_gdtf, r_gdtf2, r_gdff, r_gdff2, r_gdft, r_gdft2, r_gdu, r_gdu2, pick_t, pick_f, ext_0, ext_1, x_newB, r_nil, r_fAddr, Nat.zero_add, b_lss, b_leq, b_gtr, b_geq, b_eql, b_neq, u_not, Bool.not_true, Bool.not_false, oneOf_one, oneOf_two, again_normal, again_exit, again_ret, Bool.and_true, l10, hlen, e]
    refine ring_loop1 (q0 := q0) (rb := rb) (i := i) (by omega) (by omega) (Q := Rung Hb { q0 with next := tab 3 (ringF (fun _ w => (w : Int)) 3 0) }) 3 0 m H (by omega) (by omega) (by omega) hA (fun H' hA' => ?_) ..
    intros
    simp -implicitDefEqProofs only [r_opt, r_ret, ob_some, ifB_true, iteV_true, iteV_false, r_gdt, r_gdt2, r_gdtf, r_gdtf2, r_gdff, r_gdff2, r_gdft, r_gdft2, r_gdu, r_gdu2, pick_t, pick_f, ext_0, ext_1, x_newB, r_nil, r_fAddr, Nat.zero_add, b_lss, b_leq, b_gtr, b_geq, b_eql, b_neq, u_not, Bool.not_true, Bool.not_false, oneOf_one, oneOf_two, again_normal, again_exit, again_ret, Bool.and_true]
    refine ih (i + 1) k H' (by omega) (by omega) (by omega) ?_ ..
    have : tab 3 (ringF (fun _ w => (w : Int)) i 3) = tab 3 (ringF (fun _ w => (w : Int)) (i + 1) 0) := tab_ext fun v w hv hw => by
      unfold ringF
      by_cases h2 : (v < i ∨ (v = i ∧ w < 3)) ∧ v ≠ w
      · rw [if_pos h2, if_pos (by omega)]
      · rw [if_neg h2, if_neg (by omega)]
    rw [← this]
    exact hA'
theorem ring_is (on : Bool) (hm : 300 < m) : ∃ H' rr, lvl Try.prog pk12 m (.func 46) [.bool on] H = some (rr, H') ∧ Rung H (ringP on) H' rr := by
  obtain ⟨H1, hH1⟩ : ∃ H1, H1 = H ++ [plZ] := ⟨_, rfl⟩
  have x1 : Ext H H1 := by rw [hH1]; exact Fr.app _ _ _
  have b1 : H1[H.length]? = some plZ := by rw [hH1]; exact at_last _ _
  obtain ⟨H2, u, g1, hmd⟩ := make_is (H := H1) (m := m - 1) 1 0 0 7 (by omega) (by omega) (by omega) (by omega) (us_nil H1) (by simp) (by simp) (by omega)
  obtain ⟨ev, wv, nv, rfl, x2, hp, he, hw, hra⟩ := hmd.pa
  have cp := pl_copy hp H2
  have hA := made_pa hra x2 he hw
  obtain ⟨H3, hH3⟩ : ∃ H3, H3 = H2 ++ [plB (mkP 1 0 0 7 []) ev wv nv] := ⟨_, rfl⟩
  rw [← hH3] at cp hA
  have z1 : ((1 : Nat) : Int) = 1 := rfl
  have z0 : ((0 : Nat) : Int) = 0 := rfl
  have z7 : ((7 : Nat) : Int) = 7 := rfl
  simp only [z1, z0, z7] at g1
  refine lvl_ex (pk_no rfl rfl) (by omega) ?_
  rw [f46_eq]
  unfold f46
  cases on with
  | true =>
    simp -implicitDefEqProofs only [r_opt, r_ret, ob_some, ifB_true, iteV_true, iteV_false, r_gdt, r_gdt2, r_gdtf, r_gdtf2, r_gdff, r_gdff2, r_gdft, r_gdft2, r_gdu, r_gdu2, pick_t, pick_f, ext_0, ext_1, x_newB, r_nil, r_fAddr, Nat.zero_add, b_lss, b_leq, b_gtr, b_geq, b_eql, b_neq, u_not, Bool.not_true, Bool.not_false, oneOf_one, oneOf_two, again_normal, again_exit, again_ret, Bool.and_true, plZ_is, ← hH1, g1, cp]
    have hst : PA H1 H3 H2.length { mkP 1 0 0 7 [] with next := tab 3 (ringF (fun _ w => (w : Int)) 0 0) } ev wv nv := by
      have : tab 3 (ringF (fun _ w => (w : Int)) 0 0) = (mkP 1 0 0 7 []).next := by decide +kernel
      rw [this]
      exact hA
    have e : ringP true = { mkP 1 0 0 7 [] with next := tab 3 (ringF (fun _ w => (w : Int)) 3 0) } := by
      have : tab 3 (ringF (fun _ w => (w : Int)) 3 0) = tab 3 fun v w => if v ≠ w then (((v + 1) % 3 : Nat) : Int) else w := by decide +kernel
      rw [this]
      rfl
    rw [e]
    exact ring_loop0 (m := m - 1) (by omega) x1 (Nat.le_refl _) b1 3 0 (m - 1) H3 (by omega) (by omega) (by omega) hst ..
  | false =>
    simp -implicitDefEqProofs only [r_opt, r_ret, ob_some, ifB_true, iteV_true, iteV_false, r_gdt, r_gdt2, r_gdtf, r_gdtf2, r_gdff, r_gdff2, r_gdft, r_gdft2, r_gdu, r_gdu2, pick_t, pick_f, ext_0, ext_1, x_newB, r_nil, r_fAddr, Nat.zero_add, b_lss, b_leq, b_gtr, b_geq, b_eql, b_neq, u_not, Bool.not_true, Bool.not_false, oneOf_one, oneOf_two, again_normal, again_exit, again_ret, Bool.and_true, plZ_is, ← hH1, g1, cp]
    obtain ⟨k, hk⟩ : ∃ n, m - 1 = n + 1 := ⟨m - 1 - 1, by omega⟩
    have l10 := ld_pl hA.blk 10 _ rfl
    have hlen := hA.pv.n.len
    have h3 : (mkP 1 0 0 7 []).next.length = 3 := by decide +kernel
    rw [h3] at hlen
    have e : decide (((0 : Nat) : Int) < ((3 : Nat) : Int)) = true := rfl
    have loop : ∀ n m' : Nat, n = m' + 1 → ∀ (x1 x5 x6 x7 x8 x9 x10 x11 x12 x13 x14 x15 x16 x17 x18 x19 x20 x21 x22 x23 x24 x25 x26 x27 x28 x29 x30 x31 x32 x33 x34 x35 x36 x37 x38 x39 x40 : Value), ∃ H' rr, loopN n (runCode Try.prog (lvl Try.prog pk12 (m - 1)) (loopN (m - 1)) f46_c0) (f46_k0 (lvl Try.prog pk12 (m - 1)) (loopN (m - 1))) [(.bool false), x1, (.pointer (some ⟨H.length, 0, none⟩)), (.pointer (some ⟨H2.length, 0, none⟩)), (.int .i64 (0 : Nat)), x5, x6, x7, x8, x9, x10, x11, x12, x13, x14, x15, x16, x17, x18, x19, x20, x21, x22, x23, x24, x25, x26, x27, x28, x29, x30, x31, x32, x33, x34, x35, x36, x37, x38, x39, x40] H3 = some (rr, H') ∧ Rung H (ringP false) H' rr := by
      intro n m' hn
      intros
      subst hn
      rw [loop_succ, f46_b0_eq]
      unfold f46_b0
      simp -implicitDefEqProofs only [r_opt, r_ret, ob_some, ifB_true, iteV_true, iteV_false, r_gdt, r_gdt2, r_gdtf, r_gdtf2, r_gdff, r_gdff2, r_gdft, r_gdft2, r_gdu, r_gdu2, pick_t, pick_f, ext_0, ext_1, x_newB, r_nil, r_fAddr, Nat.zero_add, b_lss, b_leq, b_gtr, b_geq, b_eql, b_neq, u_not, Bool.not_true, Bool.not_false, oneOf_one, oneOf_two, again_normal, again_exit, again_ret, Bool.and_true, l10, hlen, e]
      rw [f46_e0_0_eq]
      exact ring_end hA (ld_of b1 hA.ext) x1 (Nat.le_refl _) ..
    exact loop (m - 1) k hk ..
theorem ring_on : errR (ringP true) = 140 ∧ pathR (ringP true) 0 2 = [0, 1, 2] ∧ (waitsL (ringP true)).length = 6 := by decide +kernel
theorem ring_off : errR (ringP false) = 0 := by decide +kernel
theorem known14_is (hm : 17592186045500 < m) (hm2 : m ≤ 72057594037927936) : ∃ H', lvl Try.prog pk12 m (.func 23) [] H = some (.bool true, H') ∧ Ext H H' := by
  obtain ⟨r1, r2, r3⟩ := ring_on
  obtain ⟨H1, _, g1, ev, wv, nv, rfl, p1, x1⟩ := ring_is (H := H) true (m := m - 1) (by omega)
  obtain ⟨H2, lv, g2, x2, q2, _⟩ := Path_is p1 0 2 (m := m - 1) (by omega) (by omega)
  rw [r2] at q2
  obtain ⟨H3, _, g3, ev3, wv3, nv3, rfl, p3, x3⟩ := ring_is (H := H2) true (m := m - 1) (by omega)
  obtain ⟨H4, g4, x4⟩ := Check_is p3 (m := m - 1) (by omega) (by omega)
  rw [r1] at g4
  obtain ⟨H5, _, g5, ev5, wv5, nv5, rfl, p5, x5⟩ := ring_is (H := H4) false (m := m - 1) (by omega)
  obtain ⟨H6, g6, x6⟩ := Check_is p5 (m := m - 1) (by omega) (by omega)
  rw [ring_off] at g6
  have hx26 := ((x3.tr x4).tr x5).tr x6
  have q6 := q2.rs.ext hx26
  have hlen := q6.len
  obtain ⟨b, o, k1, _, k3⟩ := q6.at_ inC_len (i := 1) (x := 1) rfl .i64
  have k1 : iAddr 1 lv (.int .i64 1) = some (.pointer (some ⟨b, o, none⟩)) := k1
  have k4 : ld1 (.pointer (some ⟨b, o, none⟩)) H6 = some (.int .i64 1, H6) := (k3 H6 rfl).2.1 0 _ rfl
  obtain ⟨H7, _, g7, ev7, wv7, nv7, rfl, p7, x7⟩ := ring_is (H := H6) true (m := m - 1) (by omega)
  obtain ⟨H8, wvv, g8, x8, q8⟩ := Waits_is p7 (m := m - 1) (by omega) (by omega)
  have hl8 := q8.len
  rw [r3] at hl8
  have e1 : ((140 : Int) == 140) = true := rfl
  have e0 : ((0 : Int) == 0) = true := rfl
  have e3 : ((([0, 1, 2] : List Int).length : Int) == 3) = true := rfl
  have e11 : ((1 : Int) == 1) = true := rfl
  have e6 : (((6 : Nat) : Int) == 6) = true := rfl
  have hall := ((x1.tr x2).tr hx26).tr (x7.tr x8)
  refine lvl_ex1 (pk_no rfl rfl) (by omega) ⟨H8, ?_, hall⟩
  rw [f23_eq]
  unfold f23
  simp -implicitDefEqProofs only [r_opt, r_ret, ob_some, ifB_true, iteV_true, iteV_false, r_gdt, r_gdt2, r_gdtf, r_gdtf2, r_gdff, r_gdff2, r_gdft, r_gdft2, r_gdu, r_gdu2, pick_t, pick_f, ext_0, ext_1, x_newB, r_nil, r_fAddr, Nat.zero_add, b_lss, b_leq, b_gtr, b_geq, b_eql, b_neq, u_not, Bool.not_true, Bool.not_false, oneOf_one, oneOf_two, again_normal, again_exit, again_ret, Bool.and_true, g1, g2, g3, g4, e1, g5, g6, e0, hlen, e3, k1, k4, e11, g7, g8, hl8, e6]
end
end Go.Proofs.Ytdobnaldfmpimaa

set_option linter.unusedSectionVars false
set_option linter.unusedSimpArgs false
set_option linter.unusedVariables false
set_option maxRecDepth 100000
namespace Go.Proofs.Ytdobnaldfmpimaa
open Go.Abs
section
variable {H : Heap} {m : Nat} {p : PlanD} {ev wv nv : Value}
end
end Go.Proofs.Ytdobnaldfmpimaa

set_option linter.unusedSectionVars false
set_option linter.unusedSimpArgs false
set_option linter.unusedVariables false
set_option maxRecDepth 100000
namespace Go.Proofs.Ytdobnaldfmpimaa
open Go.Abs
section
variable {H : Heap} {m : Nat} {p : PlanD} {ev wv nv : Value}
theorem same14_loop {u v : Value} {xs ys : List Int} (hu : Is H u xs) (hv : Is H v ys) (hl : xs.length = ys.length) (hx : xs.length ≤ 72057594037927936) : ∀ (q i k : Nat), xs.length - i = q → i ≤ xs.length → q < k → ∀ (x2 x3 x4 x6 x7 x8 x9 x10 x11 x12 x13 x14 x15 x16 x17 x18 x19 x20 x21 x22 x23 x24 x25 : Value),
    loopN k (runCode Try.prog (lvl Try.prog pk12 m) (loopN m) f30_c0) (f30_k0 (lvl Try.prog pk12 m) (loopN m)) [u, v, x2, x3, x4, (.int .i64 (i : Nat)), x6, x7, x8, x9, x10, x11, x12, x13, x14, x15, x16, x17, x18, x19, x20, x21, x22, x23, x24, x25] H = some (.bool (decide (xs.drop i = ys.drop i)), H) := by
  intro q

  induction q with
  | zero =>
    intro i k  hr hi hk 
    intros
    obtain ⟨k, rfl⟩ : ∃ n, k = n + 1 := ⟨k - 1, by omega⟩
    obtain rfl : xs.length = i := by omega
    have e : decide (((xs.length : Nat) : Int) < (xs.length : Nat)) = false := by simp
    have hlen := hu.len
    rw [loop_succ, f30_b0_eq]
    unfold f30_b0
    simp -implicitDefEqProofs only [r_opt, r_ret, ob_some, ifB_true, iteV_true, iteV_false, r_gdt, r_gdt2, r_gdtf, r_gdtf2, r_gdff, r_gdff2, r_gdft, r_gdft2, r_gdu, r_gdu2, pick_t, pick_f, ext_0, ext_1, x_newB, r_nil, r_fAddr, Nat.zero_add, b_lss, b_leq, b_gtr, b_geq, b_eql, b_neq, u_not, Bool.not_true, Bool.not_false, oneOf_one, oneOf_two, again_normal, again_exit, again_ret, Bool.and_true, hlen, e]
    rw [f30_e0_0_eq, List.drop_length, hl, List.drop_length]
    rfl
  | succ q ih =>
    intro i k  hr hi hk 
    intros
    obtain ⟨k, rfl⟩ : ∃ n, k = n + 1 := ⟨k - 1, by omega⟩
    have e : decide ((i : Int) < (xs.length : Nat)) = true := decide_eq_true (by omega)
    have e3 : IntKind.i64.wrap ((i : Int) + 1) = ((i + 1 : Nat) : Int) := by rw [wrap_i64 (by omega) (by omega)]; omega
    have hlen := hu.len
    obtain ⟨b, o, g1, g2, g3⟩ := hu.at_ inC_len (List.getElem?_eq_getElem (show i < xs.length by omega)) .i64
    obtain ⟨b', o', g1', g2', g3'⟩ := hv.at_ inC_len (List.getElem?_eq_getElem (show i < ys.length by omega)) .i64
    have a1 : ld1 (.pointer (some ⟨b, o, none⟩)) H = some (.int .i64 (xs[i]'(by omega)), H) := (g3 H rfl).2.1 0 _ rfl
    have a2 : ld1 (.pointer (some ⟨b', o', none⟩)) H = some (.int .i64 (ys[i]'(by omega)), H) := (g3' H rfl).2.1 0 _ rfl
    have hD : (xs.drop i = ys.drop i) ↔ (xs[i]'(by omega) = ys[i]'(by omega) ∧ xs.drop (i + 1) = ys.drop (i + 1)) := by
      rw [List.drop_eq_getElem_cons (show i < xs.length by omega), List.drop_eq_getElem_cons (show i < ys.length by omega), List.cons.injEq]
    rw [loop_succ, f30_b0_eq]
    unfold f30_b0
    by_cases c : xs[i]'(by omega) = ys[i]'(by omega)
    · have d : (xs[i]'(by omega) != ys[i]'(by omega)) = false := by rw [c]; simp
      simp -implicitDefEqProofs only [r_opt, r_ret, ob_some, ifB_true, iteV_true, iteV_false, r_gdt, r_gdt2, r_gdtf, r_gdtf2, r_gdff, r_gdff2, r_gdft, r_gdft2, r_gdu, r_gdu2, pick_t, pick_f, ext_0, ext_1, x_newB, r_nil, r_fAddr, Nat.zero_add, b_lss, b_leq, b_gtr, b_geq, b_eql, b_neq, u_not, Bool.not_true, Bool.not_false, oneOf_one, oneOf_two, again_normal, again_exit, again_ret, Bool.and_true, hlen, e, g1, g1', a1, a2, d, b_add, e3]
      have hd : decide (xs.drop i = ys.drop i) = decide (xs.drop (i + 1) = ys.drop (i + 1)) := decide_eq_decide.mpr (hD.trans ⟨fun h => h.2, fun h => ⟨c, h⟩⟩)
      rw [hd]
      exact ih (i + 1) k (by omega) (by omega) (by omega) ..
    · have d : (xs[i]'(by omega) != ys[i]'(by omega)) = true := by simpa using c
      simp -implicitDefEqProofs only [r_opt, r_ret, ob_some, ifB_true, iteV_true, iteV_false, r_gdt, r_gdt2, r_gdtf, r_gdtf2, r_gdff, r_gdff2, r_gdft, r_gdft2, r_gdu, r_gdu2, pick_t, pick_f, ext_0, ext_1, x_newB, r_nil, r_fAddr, Nat.zero_add, b_lss, b_leq, b_gtr, b_geq, b_eql, b_neq, u_not, Bool.not_true, Bool.not_false, oneOf_one, oneOf_two, again_normal, again_exit, again_ret, Bool.and_true, hlen, e, g1, g1', a1, a2, d]
      rw [f30_r0_eq]
      have hd : decide (xs.drop i = ys.drop i) = false := decide_eq_false fun h => c (hD.mp h).1
      rw [hd]
      rfl
theorem same14_is {u v : Value} {xs ys : List Int} (hu : Is H u xs) (hv : Is H v ys) (hx : xs.length + 10 < m) (hm : m ≤ 72057594037927936) : lvl Try.prog pk12 m (.func 30) [u, v] H = some (.bool (decide (xs = ys)), H) := by
  have l1 := hu.len
  have l2 := hv.len
  refine lvl_at (pk_no rfl rfl) (by omega) ?_
  rw [f30_eq]
  unfold f30
  by_cases h : xs.length = ys.length
  · have e : ((xs.length : Int) != ys.length) = false := by simp [h]
    simp -implicitDefEqProofs only [r_opt, r_ret, ob_some, ifB_true, iteV_true, iteV_false, r_gdt, r_gdt2, r_gdtf, r_gdtf2, r_gdff, r_gdff2, r_gdft, r_gdft2, r_gdu, r_gdu2, pick_t, pick_f, ext_0, ext_1, x_newB, r_nil, r_fAddr, Nat.zero_add, b_lss, b_leq, b_gtr, b_geq, b_eql, b_neq, u_not, Bool.not_true, Bool.not_false, oneOf_one, oneOf_two, again_normal, again_exit, again_ret, Bool.and_true, l1, l2, e]
    exact same14_loop hu hv h (by omega) xs.length 0 (m - 1) (by omega) (by omega) (by omega) ..
  · have e : ((xs.length : Int) != ys.length) = true := by simp; omega
    have e2 : decide (xs = ys) = false := decide_eq_false fun hh => h (by rw [hh])
    simp -implicitDefEqProofs only [r_opt, r_ret, ob_some, ifB_true, iteV_true, iteV_false, r_gdt, r_gdt2, r_gdtf, r_gdtf2, r_gdff, r_gdff2, r_gdft, r_gdft2, r_gdu, r_gdu2, pick_t, pick_f, ext_0, ext_1, x_newB, r_nil, r_fAddr, Nat.zero_add, b_lss, b_leq, b_gtr, b_geq, b_eql, b_neq, u_not, Bool.not_true, Bool.not_false, oneOf_one, oneOf_two, again_normal, again_exit, again_ret, Bool.and_true, l1, l2, e, e2]
theorem path_le6 {v w : Int} : (pathR p v w).length ≤ 6 := by
  unfold pathR
  split
  · rename_i h
    obtain ⟨n, hk⟩ := ok_of h.1
    have h6 := hk.h6
    have hq : p.nodes.toNat = n := by rw [hk.hn]; rfl
    unfold pathL
    rw [hq]
    have key : ∀ (q : Nat) (l : List Int) (v : Int) (r : List Int), l.length ≤ n → pthW p w q l v = some r → r.length ≤ n := by
      intro q
      induction q with
      | zero => intro l v r _ h; cases h
      | succ q ih =>
        intro l v r hl h
        unfold pthW at h
        split at h
        · cases h; exact hl
        · split at h
          · cases h
          · rename_i hc
            refine ih _ _ _ ?_ h
            have : ¬ (l.length : Int) = p.nodes := fun hh => hc (.inl hh)
            rw [hk.hn] at this
            simp
            omega
    cases hh : pthW p w n [v] v with
    | none => simp
    | some r =>
      have h2 := hk.h2
      have := key n [v] v r (by simp; omega) hh
      simp only [Option.getD_some]
      omega
  · simp
def wk (p : PlanD) (w : Int) : Nat → Int → Option (List Int)
  | 0, _ => none
  | q + 1, v => if v = w then some [v] else if (cand p.edges v).contains (nx p v w) = false then none else (wk p w q (nx p v w)).map (v :: ·)
theorem pthW_wk {n : Nat} (hn : p.nodes = (n : Int)) (w : Int) : ∀ (q : Nat) (pre : List Int) (v : Int), q + (pre.length + 1) = n + 1 → pthW p w q (pre ++ [v]) v = (wk p w q v).map (pre ++ ·)
  | 0, pre, v, _ => rfl
  | q + 1, pre, v, h => by
    unfold pthW wk
    by_cases h1 : v = w
    · rw [if_pos h1, if_pos h1]; rfl
    · rw [if_neg h1, if_neg h1]
      by_cases hc : (cand p.edges v).contains (nx p v w) = false
      · rw [if_pos (.inr hc), if_pos hc]; rfl
      · rw [if_neg hc]
        by_cases hl : ((pre ++ [v]).length : Int) = p.nodes
        · rw [if_pos (.inl hl)]
          rw [hn] at hl
          simp at hl
          obtain rfl : q = 0 := by omega
          rfl
        · rw [if_neg (by rintro (h | h); exact hl h; exact hc h), pthW_wk hn w q (pre ++ [v]) _ (by simp; omega)]
          cases wk p w q (nx p v w) with
          | none => rfl
          | some r => simp
theorem pathL_wk {n : Nat} (hn : p.nodes = (n : Int)) (v w : Int) : pathL p v w = wk p w n v := by
  unfold pathL
  have hq : p.nodes.toNat = n := by rw [hn]; rfl
  rw [hq]
  have := pthW_wk hn w n [] v (by simp)
  simp only [List.nil_append] at this
  rw [this]
  cases wk p w n v <;> simp
theorem wk_mono (w : Int) : ∀ (q q' : Nat) (v : Int) (l : List Int), q ≤ q' → wk p w q v = some l → wk p w q' v = some l
  | 0, _, _, _, _, h => by cases h
  | q + 1, q', v, l, hq, h => by
    obtain ⟨k, rfl⟩ : ∃ k, q' = k + 1 := ⟨q' - 1, by omega⟩
    unfold wk at h ⊢
    split at h
    · rename_i h1; rw [if_pos h1]; exact h
    · rename_i h1
      rw [if_neg h1]
      split at h
      · cases h
      · rename_i h2
        rw [if_neg h2]
        obtain ⟨r, hr, rfl⟩ := Option.map_eq_some_iff.mp h
        rw [wk_mono w q k _ r (by omega) hr]
        rfl
theorem wk_drop {n : Nat} (hE : VE n p.edges) (w : Int) : ∀ (q : Nat) (v : Int) (l : List Int), wk p w q v = some l → 0 ≤ v ∧ v < n → ∀ (i : Nat) (z : Int), l[i]? = some z → wk p w q z = some (l.drop i) ∧ 0 ≤ z ∧ z < n
  | 0, _, _, h => by cases h
  | q + 1, v, l, h => by
    intro hv i z hz
    have h0 := h
    unfold wk at h
    split at h
    · cases h
      cases i with
      | zero =>
        simp at hz
        subst hz
        exact ⟨h0, hv⟩
      | succ i => simp at hz
    · split at h
      · cases h
      · rename_i h2
        obtain ⟨r, hr, rfl⟩ := Option.map_eq_some_iff.mp h
        cases i with
        | zero =>
          simp at hz
          subst hz
          exact ⟨h0, hv⟩
        | succ i =>
          have hx := beside_in hE ((bes_mem _ _ _).mpr (List.contains_iff_mem.mp (by simpa using h2)))
          simp only [List.getElem?_cons_succ] at hz
          obtain ⟨k1, k2⟩ := wk_drop hE w q _ r hr ⟨hx.1, hx.2.1⟩ i z hz
          exact ⟨by rw [List.drop_succ_cons]; exact wk_mono w q (q + 1) z _ (by omega) k1, k2⟩
theorem steps_of {n : Nat} (hk : OkP p n) (hc : checkOk p = true) {v w : Int} (hv : 0 ≤ v ∧ v < n) (hw : 0 ≤ w ∧ w < n) : ∀ (i : Nat) (z : Int), (pathR p v w)[i]? = some z → pathR p z w = (pathR p v w).drop i := by
  have hn := hk.hn
  have e : ∀ v, (0 ≤ v ∧ v < (n : Int)) → pathR p v w = (wk p w n v).getD [] := fun v hv => by
    unfold pathR
    rw [if_pos ⟨hc, by omega, by omega, by omega, by omega⟩, pathL_wk hn]
  intro i z hz
  rw [e v hv] at hz ⊢
  cases h : wk p w n v with
  | none => rw [h] at hz; simp at hz
  | some l =>
    rw [h] at hz
    simp only [Option.getD_some] at hz ⊢
    obtain ⟨k1, k2⟩ := wk_drop hk.ve w n v l h hv i z hz
    rw [e z k2, k1]
    rfl
theorem steps_nd {n : Nat} (hk : OkP p n) (hc : checkOk p = true) {v w : Int} (hv : 0 ≤ v ∧ v < n) (hw : 0 ≤ w ∧ w < n) (k i : Nat) (z z' : Int) (hki : k < i) (h1 : (pathR p v w)[k]? = some z) (h2 : (pathR p v w)[i]? = some z') : (z == z') = false := by
  have a1 := steps_of hk hc hv hw k z h1
  have a2 := steps_of hk hc hv hw i z' h2
  have hi := (List.getElem?_eq_some_iff.mp h2).1
  rw [beq_eq_false_iff_ne]
  intro he
  rw [he, a2] at a1
  have := congrArg List.length a1
  simp at this
  omega
theorem steps_has {n : Nat} (hk : OkP p n) (hc : checkOk p = true) {v w : Int} (hv : 0 ≤ v ∧ v < n) (hw : 0 ≤ w ∧ w < n) (h0 : (pathR p v w).length = 0) : (errR p != 0) = true := by
  have hl := path_len hk hc hv hw
  rw [h0] at hl
  have hno : (pathL p v w).isSome = false := by
    cases h : (pathL p v w).isSome with
    | false => rfl
    | true => rw [h] at hl; cases hl
  have hq : p.nodes.toNat = n := by rw [hk.hn]; rfl
  have hpo : pathsOk p n = false := by
    rw [← Bool.not_eq_true]
    unfold pathsOk
    rw [List.all_eq_true]
    intro hh
    have := List.all_eq_true.mp (hh v.toNat (List.mem_range.mpr (by omega))) w.toNat (List.mem_range.mpr (by omega))
    rw [show ((v.toNat : Nat) : Int) = v by omega, show ((w.toNat : Nat) : Int) = w by omega, hno] at this
    cases this
  unfold errR routeOk
  rw [if_pos hc, hc, hq, hpo]
  rfl
theorem chk_rs {α : Type} {el : α → List Value} {e : TypeId} {u : Value} {xs : List α} (h : Rs el e H u xs) (H' : Heap) : Go.Abs.chk (some (u, H')) u = true := by
  rcases h with ⟨rfl, _⟩ | ⟨b, o, cap, rfl, _⟩
  · rfl
  · simp [Go.Abs.chk, veq]
theorem lsteps_loop1 {u : Value} {l : List Int} {i a : Nat} {w : Int} (hu : Is H u l) (hi : i < l.length) (hl6 : l.length ≤ 6) (hnd : ∀ k z z', k < i → l[k]? = some z → l[i]? = some z' → (z == z') = false) {K : Ex → K (Value × Heap)}
    (hK : ∀ (x0 x1 x2 x3 x4 x5 x6 x7 x8 x9 x10 x11 x12 x13 x14 x16 x20 x21 x22 x23 x24 x25 x26 x27 x28 x29 x30 x31 x32 x33 x34 x35 x36 x37 x38 x39 x40 x41 x42 x43 x44 x45 x46 x47 x48 x49 x50 x51 x52 x53 x54 x55 x56 x57 x58 x59 x60 x61 x62 x63 x64 x65 x66 x67 x68 x69 x70 x71 x72 x73 x74 x75 x76 x77 x78 x79 x80 x81 x82 x83 : Value), ∃ H', K .normal [x0, x1, x2, x3, x4, x5, x6, x7, x8, x9, x10, x11, x12, x13, x14, (.pointer (some ⟨a, 0, none⟩)), x16, (.int .i64 w), u, (.int .i64 (i + 1 : Nat)), x20, x21, x22, x23, x24, x25, x26, x27, x28, x29, x30, x31, x32, x33, x34, x35, x36, x37, x38, x39, x40, x41, x42, x43, x44, x45, x46, x47, x48, x49, x50, x51, x52, x53, x54, x55, x56, x57, x58, x59, x60, x61, x62, x63, x64, x65, x66, x67, x68, x69, x70, x71, x72, x73, x74, x75, x76, x77, x78, x79, x80, x81, x82, x83] H = some (.bool true, H') ∧ True) :
    ∀ (q j k : Nat), i - j = q → j ≤ i → q < k → ∀ (x0 x1 x2 x3 x4 x5 x6 x7 x8 x9 x10 x11 x12 x13 x14 x16 x21 x22 x23 x24 x25 x26 x27 x28 x29 x30 x31 x32 x33 x34 x35 x36 x37 x38 x39 x40 x41 x42 x43 x44 x45 x46 x47 x48 x49 x50 x51 x52 x53 x54 x55 x56 x57 x58 x59 x60 x61 x62 x63 x64 x65 x66 x67 x68 x69 x70 x71 x72 x73 x74 x75 x76 x77 x78 x79 x80 x81 x82 x83 : Value),
    ∃ H', loopN k (runCode Try.prog (lvl Try.prog pk12 m) (loopN m) f14_c1) (f14_k1 (lvl Try.prog pk12 m) (loopN m) K) [x0, x1, x2, x3, x4, x5, x6, x7, x8, x9, x10, x11, x12, x13, x14, (.pointer (some ⟨a, 0, none⟩)), x16, (.int .i64 w), u, (.int .i64 (i : Nat)), (.int .i64 (j : Nat)), x21, x22, x23, x24, x25, x26, x27, x28, x29, x30, x31, x32, x33, x34, x35, x36, x37, x38, x39, x40, x41, x42, x43, x44, x45, x46, x47, x48, x49, x50, x51, x52, x53, x54, x55, x56, x57, x58, x59, x60, x61, x62, x63, x64, x65, x66, x67, x68, x69, x70, x71, x72, x73, x74, x75, x76, x77, x78, x79, x80, x81, x82, x83] H = some (.bool true, H') ∧ True := by
  intro q
  induction q with
  | zero =>
    intro j k hq hj hk
    intros
    obtain ⟨k, rfl⟩ : ∃ n, k = n + 1 := ⟨k - 1, by omega⟩
    have e : decide ((j : Int) < (i : Int)) = false := decide_eq_false (by omega)
    have e3 : IntKind.i64.wrap ((i : Int) + 1) = ((i + 1 : Nat) : Int) := by rw [wrap_i64 (by omega) (by omega)]; omega
    rw [loop_succ, f14_b1_eq]
    unfold f14_b1
    simp -implicitDefEqProofs only [r_opt, r_ret, ob_some, ifB_true, iteV_true, iteV_false, r_gdt, r_gdt2, r_gdtf, r_gdtf2, r_gdff, r_gdff2, r_gdft, r_gdft2, r_gdu, r_gdu2, pick_t, pick_f, ext_0, ext_1, x_newB, r_nil, r_fAddr, Nat.zero_add, b_lss, b_leq, b_gtr, b_geq, b_eql, b_neq, u_not, Bool.not_true, Bool.not_false, oneOf_one, oneOf_two, again_normal, again_exit, again_ret, Bool.and_true, e]
    rw [f14_e1_2_eq]
    unfold f14_e1_2
    simp -implicitDefEqProofs only [r_opt, r_ret, ob_some, ifB_true, iteV_true, iteV_false, r_gdt, r_gdt2, r_gdtf, r_gdtf2, r_gdff, r_gdff2, r_gdft, r_gdft2, r_gdu, r_gdu2, pick_t, pick_f, ext_0, ext_1, x_newB, r_nil, r_fAddr, Nat.zero_add, b_lss, b_leq, b_gtr, b_geq, b_eql, b_neq, u_not, Bool.not_true, Bool.not_false, oneOf_one, oneOf_two, again_normal, again_exit, again_ret, Bool.and_true, b_add, e3]
    exact hK ..
  | succ q ih =>
    intro j k hq hj hk
    intros
    obtain ⟨k, rfl⟩ : ∃ n, k = n + 1 := ⟨k - 1, by omega⟩
    have e : decide ((j : Int) < (i : Int)) = true := decide_eq_true (by omega)
    have e3 : IntKind.i64.wrap ((j : Int) + 1) = ((j + 1 : Nat) : Int) := by rw [wrap_i64 (by omega) (by omega)]; omega
    obtain ⟨z, hz⟩ : ∃ z, l[j]? = some z := ⟨_, List.getElem?_eq_getElem (by omega)⟩
    obtain ⟨z', hz'⟩ : ∃ z, l[i]? = some z := ⟨_, List.getElem?_eq_getElem (by omega)⟩
    obtain ⟨b, o, g1, _, g3⟩ := hu.at_ inC_len hz .i64
    have g4 : ld1 (.pointer (some ⟨b, o, none⟩)) H = some (.int .i64 z, H) := (g3 H rfl).2.1 0 _ rfl
    obtain ⟨b', o', k1, _, k3⟩ := hu.at_ inC_len hz' .i64
    have k4 : ld1 (.pointer (some ⟨b', o', none⟩)) H = some (.int .i64 z', H) := (k3 H rfl).2.1 0 _ rfl
    have d := hnd j z z' (by omega) hz hz'
    rw [loop_succ, f14_b1_eq]
    unfold f14_b1
    simp -implicitDefEqProofs only [r_opt, r_ret, ob_some, ifB_true, iteV_true, iteV_false, r_gdt, r_gdt2, r_gdtf, r_gdtf2, r_gdff, r_gdff2, r_gdft, r_gdft2, r_gdu, r_gdu2, pick_t, pick_f, ext_0, ext_1, x_newB, r_nil, r_fAddr, Nat.zero_add, b_lss, b_leq, b_gtr, b_geq, b_eql, b_neq, u_not, Bool.not_true, Bool.not_false, oneOf_one, oneOf_two, again_normal, again_exit, again_ret, Bool.and_true, e, g1, g4, k1, k4, d, b_add, e3]
    exact ih (j + 1) k (by omega) (by omega) (by omega) ..
theorem lsteps_loop0 {n : Nat} (hk : OkP p n) (hc : checkOk p = true) {v w : Int} (hv : 0 ≤ v ∧ v < n) (hw : 0 ≤ w ∧ w < n) {H0 : Heap} {a : Nat} {u : Value} (hp : PV H0 p ev wv nv) (hb : H0[a]? = some (plB p ev wv nv)) (hu : Is H0 u (pathR p v w)) (hm : 17592186045700 < m) (hm2 : m ≤ 72057594037927936) :
    ∀ (q i k : Nat) (H1 : Heap), (pathR p v w).length - i = q → i ≤ (pathR p v w).length → q < k → Ext H0 H1 → ∀ (x0 x1 x2 x3 x4 x5 x6 x7 x8 x9 x10 x11 x12 x13 x14 x16 x20 x21 x22 x23 x24 x25 x26 x27 x28 x29 x30 x31 x32 x33 x34 x35 x36 x37 x38 x39 x40 x41 x42 x43 x44 x45 x46 x47 x48 x49 x50 x51 x52 x53 x54 x55 x56 x57 x58 x59 x60 x61 x62 x63 x64 x65 x66 x67 x68 x69 x70 x71 x72 x73 x74 x75 x76 x77 x78 x79 x80 x81 x82 x83 : Value),
    ∃ H', loopN k (runCode Try.prog (lvl Try.prog pk12 m) (loopN m) f14_c0) (f14_k0 (lvl Try.prog pk12 m) (loopN m)) [x0, x1, x2, x3, x4, x5, x6, x7, x8, x9, x10, x11, x12, x13, x14, (.pointer (some ⟨a, 0, none⟩)), x16, (.int .i64 w), u, (.int .i64 (i : Nat)), x20, x21, x22, x23, x24, x25, x26, x27, x28, x29, x30, x31, x32, x33, x34, x35, x36, x37, x38, x39, x40, x41, x42, x43, x44, x45, x46, x47, x48, x49, x50, x51, x52, x53, x54, x55, x56, x57, x58, x59, x60, x61, x62, x63, x64, x65, x66, x67, x68, x69, x70, x71, x72, x73, x74, x75, x76, x77, x78, x79, x80, x81, x82, x83] H1 = some (.bool true, H') ∧ True := by
  intro q
  have h6 := path_le6 (p := p) (v := v) (w := w)
  induction q with
  | zero =>
    intro i k H1 hq hi hk2 he
    intros
    obtain ⟨k, rfl⟩ : ∃ n, k = n + 1 := ⟨k - 1, by omega⟩
    obtain rfl : i = (pathR p v w).length := by omega
    have hlen := (hu.ext he).len
    have e : decide (((pathR p v w).length : Int) < ((pathR p v w).length : Int)) = false := by simp
    obtain ⟨H2, g2, x2⟩ := known14_is (H := H1) (m := m) (by omega) (by omega)
    rw [loop_succ, f14_b0_eq]
    unfold f14_b0
    simp -implicitDefEqProofs only [r_opt, r_ret, ob_some, ifB_true, iteV_true, iteV_false, r_gdt, r_gdt2, r_gdtf, r_gdtf2, r_gdff, r_gdff2, r_gdft, r_gdft2, r_gdu, r_gdu2, pick_t, pick_f, ext_0, ext_1, x_newB, r_nil, r_fAddr, Nat.zero_add, b_lss, b_leq, b_gtr, b_geq, b_eql, b_neq, u_not, Bool.not_true, Bool.not_false, oneOf_one, oneOf_two, again_normal, again_exit, again_ret, Bool.and_true, hlen, e]
    rw [f14_e0_0_eq]
    unfold f14_e0_0
    by_cases h0 : (pathR p v w).length = 0
    · have d : decide ((0 : Int) < ((pathR p v w).length : Int)) = false := decide_eq_false (by omega)
      have l11 := ld_pl11 (ld_of (ld_of hb he) x2)
      obtain ⟨H3, g3, x3⟩ := Check_is ((hp.ext he).ext x2) (m := m) (by omega) (by omega)
      have ne := steps_has hk hc hv hw h0
      simp -implicitDefEqProofs only [r_opt, r_ret, ob_some, ifB_true, iteV_true, iteV_false, r_gdt, r_gdt2, r_gdtf, r_gdtf2, r_gdff, r_gdff2, r_gdft, r_gdft2, r_gdu, r_gdu2, pick_t, pick_f, ext_0, ext_1, x_newB, r_nil, r_fAddr, Nat.zero_add, b_lss, b_leq, b_gtr, b_geq, b_eql, b_neq, u_not, Bool.not_true, Bool.not_false, oneOf_one, oneOf_two, again_normal, again_exit, again_ret, Bool.and_true, g2, hlen, d, l11, g3, ne]
      exact ⟨_, rfl, trivial⟩
    · have d : decide ((0 : Int) < ((pathR p v w).length : Int)) = true := decide_eq_true (by omega)
      simp -implicitDefEqProofs only [r_opt, r_ret, ob_some, ifB_true, iteV_true, iteV_false, r_gdt, r_gdt2, r_gdtf, r_gdtf2, r_gdff, r_gdff2, r_gdft, r_gdft2, r_gdu, r_gdu2, pick_t, pick_f, ext_0, ext_1, x_newB, r_nil, r_fAddr, Nat.zero_add, b_lss, b_leq, b_gtr, b_geq, b_eql, b_neq, u_not, Bool.not_true, Bool.not_false, oneOf_one, oneOf_two, again_normal, again_exit, again_ret, Bool.and_true, g2, hlen, d]
      exact ⟨_, rfl, trivial⟩
  | succ q ih =>
    intro i k H1 hq hi hk2 he
    intros
    obtain ⟨k, rfl⟩ : ∃ n, k = n + 1 := ⟨k - 1, by omega⟩
    have hu1 : Is H1 u (pathR p v w) := hu.ext he
    have hlen := hu1.len
    have e : decide ((i : Int) < ((pathR p v w).length : Int)) = true := decide_eq_true (by omega)
    have b1 := ld_of hb he
    have l11 := ld_pl11 b1
    obtain ⟨z, hz⟩ : ∃ z, (pathR p v w)[i]? = some z := ⟨_, List.getElem?_eq_getElem (by omega)⟩
    obtain ⟨b, o, g1, _, g3⟩ := hu1.at_ inC_len hz .i64
    have g4 : ld1 (.pointer (some ⟨b, o, none⟩)) H1 = some (.int .i64 z, H1) := (g3 H1 rfl).2.1 0 _ rfl
    obtain ⟨H2, u2, g5, x2, q2, _⟩ := Path_is (hp.ext he) z w (m := m) (by omega) (by omega)
    rw [steps_of hk hc hv hw i z hz] at q2
    have hne : pathR p v w ≠ [] := fun h => by rw [h] at hz; simp at hz
    have hu2 : Is H2 u (pathR p v w) := hu1.ext x2
    obtain ⟨w2, t1, t2, _⟩ := hu2.sub (P := Try.prog) inC_len szI hne (lo := some (.int .i64 (i : Nat))) (hi := none) (bnd_nat 0 .i64 i) rfl hi (Nat.le_refl _)
    obtain ⟨w1, t3, t4, _⟩ := hu1.sub (P := Try.prog) inC_len szI hne (lo := some (.int .i64 (i : Nat))) (hi := none) (bnd_nat 0 .i64 i) rfl hi (Nat.le_refl _)
    have := sl_same t1 t3
    subst this
    rw [List.take_of_length_le (Nat.le_refl _)] at t2
    have ck := chk_rs t2 H1
    have s := same14_is q2.rs t2 (m := m) (by simp; omega) (by omega)
    rw [decide_eq_true rfl] at s
    have b2 := ld_of b1 x2
    rw [loop_succ, f14_b0_eq]
    unfold f14_b0
    simp -implicitDefEqProofs only [r_opt, r_ret, ob_some, ifB_true, iteV_true, iteV_false, r_gdt, r_gdt2, r_gdtf, r_gdtf2, r_gdff, r_gdff2, r_gdft, r_gdft2, r_gdu, r_gdu2, pick_t, pick_f, ext_0, ext_1, x_newB, r_nil, r_fAddr, Nat.zero_add, b_lss, b_leq, b_gtr, b_geq, b_eql, b_neq, u_not, Bool.not_true, Bool.not_false, oneOf_one, oneOf_two, again_normal, again_exit, again_ret, Bool.and_true, hlen, e, l11, g1, g4, g5, t1, t3, ck, s]
    refine lsteps_loop1 (w := w) hu2 (i := i) (by omega) h6 (fun k z z' hki h1 h2 => steps_nd hk hc hv hw k i z z' hki h1 h2) ?_ i 0 m (by omega) (by omega) (by omega) ..
    intros
    simp -implicitDefEqProofs only [r_opt, r_ret, ob_some, ifB_true, iteV_true, iteV_false, r_gdt, r_gdt2, r_gdtf, r_gdtf2, r_gdff, r_gdff2, r_gdft, r_gdft2, r_gdu, r_gdu2, pick_t, pick_f, ext_0, ext_1, x_newB, r_nil, r_fAddr, Nat.zero_add, b_lss, b_leq, b_gtr, b_geq, b_eql, b_neq, u_not, Bool.not_true, Bool.not_false, oneOf_one, oneOf_two, again_normal, again_exit, again_ret, Bool.and_true]
    exact ih (i + 1) k H2 (by omega) (by omega) (by omega) (he.tr x2) ..
theorem routeSteps_true (nodes room more joined a b : Nat) (h1 : nodes < 256) (h2 : room < 256) (h3 : more < 256) (h4 : joined < 65536) (h5 : a < 256) (h6 : b < 256) {a4 : Value} {next : List Nat} (hnx : Us H a4 next) (hu8 : ∀ x ∈ next, x < 256) (hnl : next.length ≤ 72057594037927936) :
    ∃ H', lvl Try.prog pk12 18014398509481984 (.func 14) [.int .u8 nodes, .int .u8 room, .int .u8 more, .int .u16 joined, a4, .int .u8 a, .int .u8 b] H = some (.bool true, H') ∧ True := by
  obtain ⟨H1, u, g1, hmd⟩ := make_is (m := 18014398509481984 - 1) nodes room more joined h1 h2 h3 h4 hnx hu8 hnl (by omega)
  obtain ⟨ev, wv, nv, rfl, x1, hp⟩ := hmd.pv
  have hok := mk_ok nodes room more joined next
  have hn2 := mkN_is nodes
  have hn : (mkP nodes room more joined next).nodes = (mkN nodes : Int) := rfl
  obtain ⟨p, hpp⟩ : ∃ p, p = mkP nodes room more joined next := ⟨_, rfl⟩
  obtain ⟨n, hnn⟩ : ∃ n, n = mkN nodes := ⟨_, rfl⟩
  rw [← hpp] at hp g1 hok hn
  rw [← hnn] at hn hn2
  obtain ⟨n', hk⟩ := ok_of hok
  have : n' = n := by have := hk.hn; omega
  subst this
  have cp := pl_copy hp H1
  obtain ⟨H2, hH2⟩ : ∃ H2, H2 = H1 ++ [plB p ev wv nv] := ⟨_, rfl⟩
  rw [← hH2] at cp
  have x2 : Ext H1 H2 := by rw [hH2]; exact Fr.app _ _ _
  have b2 : H2[H1.length]? = some (plB p ev wv nv) := by rw [hH2]; exact at_last _ _
  have l2 := ld_pl11 b2
  have l0 := ld_pl b2 0 _ rfl
  rw [hn] at l0
  have hp2 := hp.ext x2
  have a1 := fun H => cvU H a h5
  have a2 := remI a n' n' rfl (by omega)
  have b1 := fun H => cvU H b h6
  have b3 := remI b n' n' rfl (by omega)
  have hvn : a % n' < n' := Nat.mod_lt _ (by omega)
  have hwn : b % n' < n' := Nat.mod_lt _ (by omega)
  obtain ⟨H3, lv, g3, x3, q3, _⟩ := Path_is hp2 (a % n' : Nat) (b % n' : Nat) (m := 18014398509481984 - 1) (by omega) (by omega)
  have hl6 := path_le6 (p := p) (v := (a % n' : Nat)) (w := (b % n' : Nat))
  refine lvl_ex1 (pk_no rfl rfl) (by omega) ?_
  rw [f14_eq]
  unfold f14
  simp -implicitDefEqProofs only [r_opt, r_ret, ob_some, ifB_true, iteV_true, iteV_false, r_gdt, r_gdt2, r_gdtf, r_gdtf2, r_gdff, r_gdff2, r_gdft, r_gdft2, r_gdu, r_gdu2, pick_t, pick_f, ext_0, ext_1, x_newB, r_nil, r_fAddr, Nat.zero_add, b_lss, b_leq, b_gtr, b_geq, b_eql, b_neq, u_not, Bool.not_true, Bool.not_false, oneOf_one, oneOf_two, again_normal, again_exit, again_ret, Bool.and_true, g1, plZ_is, cp, a1, l0, a2, b1, b3, l2, g3]
  exact lsteps_loop0 (m := 18014398509481984 - 1) hk hok (by omega) (by omega) (hp2.ext x3) (ld_of b2 x3) q3.rs (by omega) (by omega) _ 0 (18014398509481984 - 1) H3 rfl (by omega) (by omega) (Fr.refl _ _) ..
end
end Go.Proofs.Ytdobnaldfmpimaa
