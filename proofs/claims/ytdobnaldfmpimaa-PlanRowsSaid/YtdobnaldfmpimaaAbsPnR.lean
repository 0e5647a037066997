/-
  PLAN: PlanRows answers true.
-/
import Derived.Test.YtdobnaldfmpimaaAbsPnE
set_option linter.unusedSectionVars false
set_option linter.unusedSimpArgs false
set_option linter.unusedVariables false
set_option maxRecDepth 100000
namespace Go.Proofs.Ytdobnaldfmpimaa
open Go.Abs

section
variable {H : Heap} {m : Nat} {p : PlanD} {ev wv nv : Value}

theorem szIs : Try.prog.cellsOf 24 = 1 := by kernel_rfl
theorem Rows.sub {v : Value} {xss : List (List Int)} (h : Rows H v xss) (hne : xss ≠ []) {r : Nat} {hi : Option Value} (h2 : bnd xss.length hi = some r) (hr : r ≤ xss.length) : ∃ v', slc Try.prog 1 v none hi none H = some (v', H) ∧ Rows H v' (xss.take r) := by
  obtain ⟨us, h1, h3, h4⟩ := h
  have hne' : us ≠ [] := fun hh => hne (by rw [hh] at h3; exact List.length_eq_zero_iff.mp h3.symm)
  obtain ⟨v', t1, t2, _⟩ := h1.sub (P := Try.prog) vC_len szIs hne' (lo := none) (hi := hi) rfl (by rw [h3]; exact h2) (Nat.zero_le _) (by rw [h3]; exact hr)
  rw [List.drop_zero] at t2
  refine ⟨v', t1, us.take r, t2, by simp [h3], fun i u xs hu hx => h4 i u xs ?_ ?_⟩
  · rw [List.getElem?_take] at hu
    split at hu
    · exact hu
    · cases hu
  · rw [List.getElem?_take] at hx
    split at hx
    · exact hx
    · cases hx
theorem Rs.sv {α : Type} {el : α → List Value} {e : TypeId} {v : Value} {xs : List α} (h : Rs el e H v xs) : allCells [v] = true ∧ v.cells = #[v] := by
  rcases h with ⟨rfl, _⟩ | ⟨b, o, cap, rfl, _⟩ <;> exact ⟨rfl, rfl⟩
theorem PV.next {q : PlanD} {N : List (List Int)} {xv : Value} (h : PV H q ev wv nv) (hx : Rows H xv N) (hl : N.length ≤ 1000) : PV H { q with next := N } ev wv xv := ⟨h.e, h.w, hx, h.be, h.bw, by simp only; omega⟩
theorem bad_next {q : PlanD} (h : (q.next.length : Int) ≠ q.nodes) : checkOk q = false := by
  unfold checkOk
  rw [decide_eq_false h]
  simp
theorem bad_row {q : PlanD} {r : List Int} (hr : r ∈ q.next) (h : (r.length : Int) ≠ q.nodes) : checkOk q = false := by
  have : rowsOk q = false := by
    unfold rowsOk
    rw [Bool.not_eq_false', List.any_eq_true]
    exact ⟨r, hr, decide_eq_true h⟩
  unfold checkOk
  rw [this]
  simp

theorem ld1_ext {H0 H1 : Heap} {a u : Value} (he : Ext H0 H1) (h : ld1 a H0 = some (u, H0)) : ld1 a H1 = some (u, H1) := by
  unfold ld1 at *
  cases a with
  | pointer x =>
    cases x with
    | none => simp at h
    | some ad =>
      obtain ⟨b, o, s⟩ := ad
      cases s with
      | some s => simp at h
      | none =>
        simp only at h ⊢
        cases hb : H0[b]? with
        | none => rw [hb] at h; simp at h
        | some y =>
          rw [ld_of hb he]
          rw [hb] at h
          cases y with
          | cells cs e k =>
            simp only at h ⊢
            cases hc : cs[o]? with
            | none => rw [hc] at h; simp at h
            | some z =>
              rw [hc] at h
              simp at h
              subst h
              rfl
          | map => simp at h
          | dead => simp at h
  | _ => simp at h

theorem lrows_end {H0 H1 : Heap} {a ax ay : Nat} {xv yv : Value} {NX NY : List (List Int)} (hm : 17592186045100 < m) (hm2 : m ≤ 72057594037927936) (hp : PV H1 p ev wv nv) (hb : H1[a]? = some (plB p ev wv nv)) (hok : checkOk p = true)
    (hx : Rows H1 xv NX) (hxl : NX.length ≤ 1000) (hbx : H1[ax]? = some (plB { p with next := NX } ev wv xv)) (okx : checkOk { p with next := NX } = false)
    (hy : Rows H1 yv NY) (hyl : NY.length ≤ 1000) (hby : H1[ay]? = some (plB { p with next := NY } ev wv yv)) (oky : checkOk { p with next := NY } = false) (x0 x1 x2 x3 x4 x5 x6 x7 x8 x9 x10 x14 x15 x16 x17 x18 x19 x20 x21 x22 x23 x24 x25 x26 x27 x28 x29 x30 x31 x32 x33 x34 x35 x36 x37 x38 x39 x40 x41 x42 x43 x44 x45 x46 x47 x48 x49 x50 x51 x52 x53 x54 x55 x56 x57 x58 x59 x60 x61 x62 x63 x64 x65 x66 x67 x68 x69 x70 x71 x72 x73 x74 x75 x76 x77 x78 : Value) :
    ∃ H', f5_e0_0 (lvl Try.prog pk12 m) (loopN m) x0 x1 x2 x3 x4 x5 x6 x7 x8 x9 x10 (.pointer (some ⟨a, 0, none⟩)) (.pointer (some ⟨ax, 0, none⟩)) (.pointer (some ⟨ay, 0, none⟩)) x14 x15 x16 x17 x18 x19 x20 x21 x22 x23 x24 x25 x26 x27 x28 x29 x30 x31 x32 x33 x34 x35 x36 x37 x38 x39 x40 x41 x42 x43 x44 x45 x46 x47 x48 x49 x50 x51 x52 x53 x54 x55 x56 x57 x58 x59 x60 x61 x62 x63 x64 x65 x66 x67 x68 x69 x70 x71 x72 x73 x74 x75 x76 x77 x78 H1 = some (.bool true, H') := by
  have hk := known12_is m (by omega) H1
  have l1 := ld_pl11 hb
  obtain ⟨C1, k1, xc1⟩ := check_is hp (m := m) (by omega) (by omega)
  rw [hok] at k1
  have lx := ld_pl11 (ld_of hbx xc1)
  obtain ⟨C2, k2, xc2⟩ := check_is ((hp.next hx hxl).ext xc1) (m := m) (by omega) (by omega)
  rw [okx] at k2
  have ly := ld_pl11 (ld_of (ld_of hby xc1) xc2)
  obtain ⟨C3, k3, xc3⟩ := check_is (((hp.next hy hyl).ext xc1).ext xc2) (m := m) (by omega) (by omega)
  rw [oky] at k3
  have ee0 : (errno true == 0) = true := rfl
  have ee : (errno false == 120) = true := rfl
  unfold f5_e0_0
  refine ⟨C3, ?_⟩
  simp -implicitDefEqProofs only [r_opt, r_ret, ob_some, ifB_true, iteV_true, iteV_false, r_gdt, r_gdt2, r_gdtf, r_gdtf2, r_gdff, r_gdff2, r_gdft, r_gdft2, r_gdu, r_gdu2, pick_t, pick_f, ext_0, ext_1, x_newB, r_nil, r_fAddr, Nat.zero_add, b_lss, b_leq, b_gtr, b_geq, b_eql, b_neq, u_not, Bool.not_true, Bool.not_false, oneOf_one, oneOf_two, again_normal, again_exit, again_ret, Bool.and_true, hk, l1, k1, ee0, lx, k2, ee, ly, k3]

theorem lrows_loop {H0 : Heap} {a ax ay n v8 : Nat} {xv : Value} {NX : List (List Int)} {r : List Int} (hv8 : v8 < 256) (hn0 : 2 ≤ n) (hn6 : n ≤ 6) (hpn : p.nodes = (n : Int)) (hpl : p.next.length = n) (hrl : ∀ r ∈ p.next, r.length = n) (hr8 : p.next[v8 % n]? = some r)
    (hm : 17592186045100 < m) (hm2 : m ≤ 72057594037927936) (hp : PV H0 p ev wv nv) (hb : H0[a]? = some (plB p ev wv nv)) (hok : checkOk p = true) (hay : H0.length ≤ ay)
    (hx : Rows H0 xv NX) (hxl : NX.length ≤ 1000) (hbx : H0[ax]? = some (plB { p with next := NX } ev wv xv)) (okx : checkOk { p with next := NX } = false) :
    ∀ (q i k : Nat) (H1 : Heap) (yv : Value) (us : List SV), n - i = q → i ≤ n → q < k → Ext H0 H1 → Rw sC 24 1 H1 yv us → New H0 yv → us.length = i → (∀ (j : Nat) (u : SV) (xs : List Int), us[j]? = some u → (p.next.set (v8 % n) (r.take (n - 1)))[j]? = some xs → Is H0 u.1 xs) → (∃ N', H1[ay]? = some (plB { p with next := N' } ev wv yv)) → ∀ (x0 x1 x2 x3 x5 x6 x7 x8 x9 x10 x15 x16 x17 x18 x19 x20 x21 x22 x23 x24 x25 x26 x27 x28 x29 x30 x31 x32 x33 x34 x35 x36 x37 x38 x39 x40 x41 x42 x43 x44 x45 x46 x47 x48 x49 x50 x51 x52 x53 x54 x55 x56 x57 x58 x59 x60 x61 x62 x63 x64 x65 x66 x67 x68 x69 x70 x71 x72 x73 x74 x75 x76 x77 x78 : Value),
    ∃ H', loopN k (runCode Try.prog (lvl Try.prog pk12 m) (loopN m) f5_c0) (f5_k0 (lvl Try.prog pk12 m) (loopN m)) [x0, x1, x2, x3, (.int .u8 v8), x5, x6, x7, x8, x9, x10, (.pointer (some ⟨a, 0, none⟩)), (.pointer (some ⟨ax, 0, none⟩)), (.pointer (some ⟨ay, 0, none⟩)), (.int .i64 (i : Nat)), x15, x16, x17, x18, x19, x20, x21, x22, x23, x24, x25, x26, x27, x28, x29, x30, x31, x32, x33, x34, x35, x36, x37, x38, x39, x40, x41, x42, x43, x44, x45, x46, x47, x48, x49, x50, x51, x52, x53, x54, x55, x56, x57, x58, x59, x60, x61, x62, x63, x64, x65, x66, x67, x68, x69, x70, x71, x72, x73, x74, x75, x76, x77, x78] H1 = some (.bool true, H') := by
  intro q
  have hvn : v8 % n < n := Nat.mod_lt _ (by omega)
  have hrn : r.length = n := hrl r (List.mem_of_getElem? hr8)
  induction q with
  | zero =>
    intro i k H1 yv us hr hi hk he hy hnew hus huse hby
    intros
    obtain ⟨k, rfl⟩ : ∃ n, k = n + 1 := ⟨k - 1, by omega⟩
    have hlen := (hp.ext he).n.len
    have l10 := ld_pl (ld_of hb he) 10 _ rfl
    have e : decide ((i : Int) < (p.next.length : Nat)) = false := decide_eq_false (by omega)
    obtain ⟨N', hby⟩ := hby
    have hry : Rows H1 yv (p.next.set (v8 % n) (r.take (n - 1))) := by
      refine ⟨us.map (·.1), ?_, by simp; omega, fun j u xs hu hx => ?_⟩
      · have := hy.rs
        rcases this with ⟨h1, h2⟩ | ⟨b, o, cap, h1, h2, h3⟩
        · exact .inl ⟨h1, by rw [h2]; rfl⟩
        · refine .inr ⟨b, o, cap, by rw [List.length_map]; exact h1, by rw [List.length_map]; exact h2, fun hne => ?_⟩
          rw [← sC_map]
          exact h3 fun hh => hne (by rw [hh]; rfl)
      · rw [List.getElem?_map] at hu
        obtain ⟨s, hs, rfl⟩ := Option.map_eq_some_iff.mp hu
        exact (huse j s xs hs hx).ext he
    have oky : checkOk { p with next := p.next.set (v8 % n) (r.take (n - 1)) } = false := bad_row (r := r.take (n - 1)) (List.mem_of_getElem? (List.getElem?_set_self (by omega))) (by simp only [List.length_take]; omega)
    rw [loop_succ, f5_b0_eq]
    unfold f5_b0
    simp -implicitDefEqProofs only [r_opt, r_ret, ob_some, ifB_true, iteV_true, iteV_false, r_gdt, r_gdt2, r_gdtf, r_gdtf2, r_gdff, r_gdff2, r_gdft, r_gdft2, r_gdu, r_gdu2, pick_t, pick_f, ext_0, ext_1, x_newB, r_nil, r_fAddr, Nat.zero_add, b_lss, b_leq, b_gtr, b_geq, b_eql, b_neq, u_not, Bool.not_true, Bool.not_false, oneOf_one, oneOf_two, again_normal, again_exit, again_ret, Bool.and_true, l10, hlen, e]
    rw [f5_e0_0_eq]
    exact lrows_end (H0 := H0) hm hm2 (hp.ext he) (ld_of hb he) hok (hx.ext he) hxl (ld_of hbx he) okx hry (by simp; omega) hby oky ..
  | succ q ih =>
    intro i k H1 yv us hr hi hk he hy hnew hus huse hby
    intros
    obtain ⟨k, rfl⟩ : ∃ n, k = n + 1 := ⟨k - 1, by omega⟩
    have hp1 := hp.ext he
    have hlen := hp1.n.len
    have l10 := ld_pl (ld_of hb he) 10 _ rfl
    have e : decide ((i : Int) < (p.next.length : Nat)) = true := decide_eq_true (by omega)
    have e3 : IntKind.i64.wrap ((i : Int) + 1) = ((i + 1 : Nat) : Int) := by rw [wrap_i64 (by omega) (by omega)]; omega
    obtain ⟨N', hby⟩ := hby
    have ly := ld_pl hby 10 _ rfl
    obtain ⟨xs, hxs⟩ : ∃ xs, p.next[i]? = some xs := ⟨_, List.getElem?_eq_getElem (by omega)⟩
    have hxn : xs.length = n := hrl xs (List.mem_of_getElem? hxs)
    obtain ⟨a0, u, g1, g2, g3⟩ := hp.n.at_ hxs .i64
    have g2' : ld1 a0 H1 = some (u, H1) := ld1_ext he g2
    have c1 := fun H => cvU H v8 hv8
    have c2 := remI v8 n p.next.length (by rw [hpl]) (by omega)
    have fin : ∀ (w : Value), Is H0 w (if i = v8 % n then xs.take (n - 1) else xs) → ∃ yv2 H2 H3, bldSlice 24 1 1 [.slice none 0 0] [(0, w)] H1 = some (.slice (some ⟨H1.length, 0, none⟩) 1 1, H1 ++ [.cells [w] 24 .row]) ∧ app 24 1 24 yv (.slice (some ⟨H1.length, 0, none⟩) 1 1) (H1 ++ [.cells [w] 24 .row]) = some (yv2, H2) ∧ stN 1 (.pointer (some ⟨ay, 10, none⟩)) yv2 H2 = some (undef, H3) ∧
        ∀ (x0 x1 x2 x3 x5 x6 x7 x8 x9 x10 x15 x16 x17 x18 x19 x20 x21 x22 x23 x24 x25 x26 x27 x28 x29 x30 x31 x32 x33 x34 x35 x36 x37 x38 x39 x40 x41 x42 x43 x44 x45 x46 x47 x48 x49 x50 x51 x52 x53 x54 x55 x56 x57 x58 x59 x60 x61 x62 x63 x64 x65 x66 x67 x68 x69 x70 x71 x72 x73 x74 x75 x76 x77 x78 : Value), ∃ H', loopN k (runCode Try.prog (lvl Try.prog pk12 m) (loopN m) f5_c0) (f5_k0 (lvl Try.prog pk12 m) (loopN m)) [x0, x1, x2, x3, (.int .u8 v8), x5, x6, x7, x8, x9, x10, (.pointer (some ⟨a, 0, none⟩)), (.pointer (some ⟨ax, 0, none⟩)), (.pointer (some ⟨ay, 0, none⟩)), (.int .i64 (i + 1 : Nat)), x15, x16, x17, x18, x19, x20, x21, x22, x23, x24, x25, x26, x27, x28, x29, x30, x31, x32, x33, x34, x35, x36, x37, x38, x39, x40, x41, x42, x43, x44, x45, x46, x47, x48, x49, x50, x51, x52, x53, x54, x55, x56, x57, x58, x59, x60, x61, x62, x63, x64, x65, x66, x67, x68, x69, x70, x71, x72, x73, x74, x75, x76, x77, x78] H3 = some (.bool true, H') := by
      intro w hw
      have hsv := Rs.sv hw
      obtain ⟨s, hs⟩ : ∃ s : SV, s = ⟨w, hsv⟩ := ⟨_, rfl⟩
      have hsw : s.1 = w := by rw [hs]
      have hsc : sC s = [w] := by unfold sC; rw [hsw]
      obtain ⟨yv2, H2, H3, r1, r2, r3, r4, r5, r6, _⟩ := push_field (by' := 24) (H0 := H0) (b := ay) (j := 10) sC_len sC_all (by decide) s hby (by show 10 < 11; omega) hy hnew hay he (roomy_mono (n := 1000000) (by decide) (by omega))
      rw [hsc] at r1
      refine ⟨yv2, H2, H3, ?_, r1, r2, ?_⟩
      · have h0 : w.cells = #[w] := hsv.2
        unfold bldSlice
        have : Instr.fill (fun i => some (i * 1, 1)) (List.replicate 1 [Value.slice none 0 0]).flatten.toArray [(0, w)] = some #[w] := by
          rw [← hsw]
          have := s.2.2
          simp [Instr.fill, this]
        rw [this]
      · refine ih (i + 1) k H3 yv2 (us ++ [s]) (by omega) (by omega) (by omega) r5 r3 r4 (by simp [hus]) (fun j u ys hu hys => ?_) ⟨p.next, r6⟩
        by_cases hj : j < i
        · rw [List.getElem?_append_left (by omega)] at hu
          exact huse j u ys hu hys
        · have hji : j = i := by
            have := (List.getElem?_eq_some_iff.mp hu).1
            simp at this
            omega
          subst hji
          rw [List.getElem?_append_right (by omega)] at hu
          simp [hus] at hu
          subst hu
          rw [hsw]
          by_cases hc : j = v8 % n
          · rw [if_pos hc] at hw
            rw [← hc, List.getElem?_set_self (by omega)] at hys
            rw [hc, hr8] at hxs
            cases hxs
            cases hys
            exact hw
          · rw [if_neg hc] at hw
            rw [List.getElem?_set_ne (fun h => hc h.symm), hxs] at hys
            cases hys
            exact hw
    rw [loop_succ, f5_b0_eq]
    unfold f5_b0
    by_cases hc : i = v8 % n
    · have d : ((i : Int) == ((v8 % n : Nat) : Int)) = true := by rw [hc]; simp
      have hlx := g3.len
      have e4 : IntKind.i64.wrap ((xs.length : Int) - 1) = ((n - 1 : Nat) : Int) := by rw [wrap_i64 (by omega) (by omega)]; omega
      have hne : xs ≠ [] := fun h => by rw [h] at hxn; simp at hxn; omega
      obtain ⟨w, t1, t2, _⟩ := (g3.ext he).sub (P := Try.prog) inC_len szI hne (lo := none) rfl (bnd_nat xs.length .i64 (n - 1)) (Nat.zero_le _) (by omega)
      obtain ⟨w0, t3, t4, _⟩ := g3.sub (P := Try.prog) inC_len szI hne (lo := none) rfl (bnd_nat xs.length .i64 (n - 1)) (Nat.zero_le _) (by omega)
      have := sl_same t1 t3
      subst this
      rw [List.drop_zero] at t4
      obtain ⟨yv2, H2, H3, r1, r2, r3, r4⟩ := fin w (by rw [if_pos hc]; exact t4)
      simp -implicitDefEqProofs only [r_opt, r_ret, ob_some, ifB_true, iteV_true, iteV_false, r_gdt, r_gdt2, r_gdtf, r_gdtf2, r_gdff, r_gdff2, r_gdft, r_gdft2, r_gdu, r_gdu2, pick_t, pick_f, ext_0, ext_1, x_newB, r_nil, r_fAddr, Nat.zero_add, b_lss, b_leq, b_gtr, b_geq, b_eql, b_neq, u_not, Bool.not_true, Bool.not_false, oneOf_one, oneOf_two, again_normal, again_exit, again_ret, Bool.and_true, l10, hlen, e, g1, g2', c1, c2, d, hlx, b_sub, e4, t1, ly, r1, r2, r3, b_add, e3]
      exact r4 ..
    · have d : ((i : Int) == ((v8 % n : Nat) : Int)) = false := by simp; omega
      obtain ⟨yv2, H2, H3, r1, r2, r3, r4⟩ := fin u (by rw [if_neg hc]; exact g3)
      simp -implicitDefEqProofs only [r_opt, r_ret, ob_some, ifB_true, iteV_true, iteV_false, r_gdt, r_gdt2, r_gdtf, r_gdtf2, r_gdff, r_gdff2, r_gdft, r_gdft2, r_gdu, r_gdu2, pick_t, pick_f, ext_0, ext_1, x_newB, r_nil, r_fAddr, Nat.zero_add, b_lss, b_leq, b_gtr, b_geq, b_eql, b_neq, u_not, Bool.not_true, Bool.not_false, oneOf_one, oneOf_two, again_normal, again_exit, again_ret, Bool.and_true, l10, hlen, e, g1, g2', c1, c2, d, ly, r1, r2, r3, b_add, e3]
      exact r4 ..

theorem planRows_true (nodes room more joined v : Nat) (h1 : nodes < 256) (h2 : room < 256) (h3 : more < 256) (h4 : joined < 65536) (h5 : v < 256) :
    ∃ H', lvl Try.prog pk12 18014398509481984 (.func 5) [.int .u8 nodes, .int .u8 room, .int .u8 more, .int .u16 joined, .int .u8 v] H = some (.bool true, H') ∧ True := by
  obtain ⟨H1, u, g1, hmd⟩ := make_is (m := 18014398509481984 - 1) nodes room more joined h1 h2 h3 h4 (us_nil H) (by simp) (by simp) (by omega)
  obtain ⟨ev, wv, nv, rfl, x1, hp⟩ := hmd.pv
  obtain ⟨p, hpp⟩ : ∃ p, p = mkP nodes room more joined [] := ⟨_, rfl⟩
  obtain ⟨n, hnn⟩ : ∃ n, n = mkN nodes := ⟨_, rfl⟩
  have hok := mk_ok nodes room more joined []
  have hn2 := mkN_is nodes
  have hpn : (mkP nodes room more joined []).nodes = (mkN nodes : Int) := rfl
  have hpl : (mkP nodes room more joined []).next.length = mkN nodes := by simp [mkP]
  have hrl : ∀ r ∈ (mkP nodes room more joined []).next, r.length = mkN nodes := by
    intro r hr
    simp only [mkP, List.mem_map] at hr
    obtain ⟨v, _, rfl⟩ := hr
    simp [mkRow]
  rw [← hpp] at hp g1 hok hpn hpl hrl
  rw [← hnn] at hpn hpl hrl hn2
  have cp := pl_copy hp H1
  obtain ⟨H2, hH2⟩ : ∃ H2, H2 = H1 ++ [plB p ev wv nv] := ⟨_, rfl⟩
  rw [← hH2] at cp
  have x2 : Ext H1 H2 := by rw [hH2]; exact Fr.app _ _ _
  have b2 : H2[H1.length]? = some (plB p ev wv nv) := by rw [hH2]; exact at_last _ _
  have l2 := ld_pl11 b2
  have hp2 := hp.ext x2
  -- x
  have cx := pl_copy hp2 H2
  obtain ⟨X0, hX0⟩ : ∃ X0, X0 = H2 ++ [plB p ev wv nv] := ⟨_, rfl⟩
  rw [← hX0] at cx
  have xX0 : Ext H2 X0 := by rw [hX0]; exact Fr.app _ _ _
  have bX0 : X0[H2.length]? = some (plB p ev wv nv) := by rw [hX0]; exact at_last _ _
  have l10 := ld_pl (ld_of b2 xX0) 10 _ rfl
  have hlen := (hp2.ext xX0).n.len
  have e1 : IntKind.i64.wrap ((p.next.length : Int) - 1) = ((n - 1 : Nat) : Int) := by rw [wrap_i64 (by omega) (by omega)]; omega
  have hne : p.next ≠ [] := fun h => by rw [h] at hpl; simp at hpl; omega
  obtain ⟨xv, t1, t2⟩ := (hp2.ext xX0).n.sub hne (bnd_nat p.next.length .i64 (n - 1)) (by omega)
  obtain ⟨sh1, sh2, _⟩ := Rows.shape t2
  have s1 := st_pl (q' := { p with next := p.next.take (n - 1) }) (ev' := ev) (wv' := wv) (nv' := xv) (j := 10) (v := xv) bX0 sh1 sh2 (by omega) rfl
  obtain ⟨X1, hX1⟩ : ∃ X1, X1 = X0.set H2.length (plB { p with next := p.next.take (n - 1) } ev wv xv) := ⟨_, rfl⟩
  rw [← hX1] at s1
  have xX1 : Ext H2 X1 := by rw [hX1]; exact set_ext xX0 (Nat.le_refl _)
  have bX1 : X1[H2.length]? = some (plB { p with next := p.next.take (n - 1) } ev wv xv) := by rw [hX1]; exact List.getElem?_set_self (List.getElem?_eq_some_iff.mp bX0).1
  have hp3 := hp2.ext xX1
  have hx3 : Rows X1 xv (p.next.take (n - 1)) := by
    obtain ⟨xv2, u1, u2⟩ := hp3.n.sub hne (bnd_nat p.next.length .i64 (n - 1)) (by omega)
    have := sl_same t1 u1
    rw [this]
    exact u2
  have b3 := ld_of b2 xX1
  have l3 := ld_pl11 b3
  -- y
  have cy := pl_copy hp3 X1
  obtain ⟨Y0, hY0⟩ : ∃ Y0, Y0 = X1 ++ [plB p ev wv nv] := ⟨_, rfl⟩
  rw [← hY0] at cy
  have xY0 : Ext X1 Y0 := by rw [hY0]; exact Fr.app _ _ _
  have bY0 : Y0[X1.length]? = some (plB p ev wv nv) := by rw [hY0]; exact at_last _ _
  have s2 := st_pl (q' := { p with next := [] }) (ev' := ev) (wv' := wv) (nv' := .slice none 0 0) (j := 10) (v := .slice none 0 0) bY0 rfl rfl (by omega) rfl
  obtain ⟨Y1, hY1⟩ : ∃ Y1, Y1 = Y0.set X1.length (plB { p with next := [] } ev wv (.slice none 0 0)) := ⟨_, rfl⟩
  rw [← hY1] at s2
  have xY1 : Ext X1 Y1 := by rw [hY1]; exact set_ext xY0 (Nat.le_refl _)
  have bY1 : Y1[X1.length]? = some (plB { p with next := [] } ev wv (.slice none 0 0)) := by rw [hY1]; exact List.getElem?_set_self (List.getElem?_eq_some_iff.mp bY0).1
  have hvn : v % n < n := Nat.mod_lt _ (by omega)
  obtain ⟨r, hr8⟩ : ∃ r, p.next[v % n]? = some r := ⟨_, List.getElem?_eq_getElem (by omega)⟩
  have okx : checkOk { p with next := p.next.take (n - 1) } = false := bad_next (by simp only [List.length_take]; omega)
  refine lvl_ex1 (pk_no rfl rfl) (by omega) ?_
  rw [f5_eq]
  unfold f5
  simp -implicitDefEqProofs only [r_opt, r_ret, ob_some, ifB_true, iteV_true, iteV_false, r_gdt, r_gdt2, r_gdtf, r_gdtf2, r_gdff, r_gdff2, r_gdft, r_gdft2, r_gdu, r_gdu2, pick_t, pick_f, ext_0, ext_1, x_newB, r_nil, r_fAddr, Nat.zero_add, b_lss, b_leq, b_gtr, b_geq, b_eql, b_neq, u_not, Bool.not_true, Bool.not_false, oneOf_one, oneOf_two, again_normal, again_exit, again_ret, Bool.and_true, g1, plZ_is, cp, l2, cx, l10, hlen, b_sub, e1, t1, s1, l3, cy, s2]
  exact Exists.imp (fun H' h => ⟨h, trivial⟩) (lrows_loop (m := 18014398509481984 - 1) (NX := p.next.take (n - 1)) h5 hn2.1 hn2.2 hpn hpl hrl hr8 (by omega) (by omega) hp3 b3 hok (Nat.le_refl _) hx3 (by simp; omega) bX1 okx n 0 (18014398509481984 - 1) Y1 (.slice none 0 0) [] (by omega) (by omega) (by omega) xY1 Rw.nil (New.nil _) rfl (fun j u xs h => by simp at h) ⟨[], bY1⟩ ..)
end

end Go.Proofs.Ytdobnaldfmpimaa
