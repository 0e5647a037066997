/-
  LINKS: contracts of Take, Twice, Bend, All.
-/
import Derived.Test.YtcmmlgdbpnogjaaAbsLk
set_option linter.unusedSimpArgs false
set_option linter.unusedVariables false
set_option maxRecDepth 100000
namespace Go.Proofs.Ytcmmlgdbpnogjaa
open Go.Abs

section
variable {pr : Prims} {H : Heap} {m : Nat}

theorem del_ok (hn : pr (.func 44) = none) (hm : 0 < m) {v : Value} {n : Nat} {cs : List Value} (h : RowC 29 1 H v n cs) {i : Nat} (hi : i < n) (hall : allCells cs = true) :
    ∃ v' H', lvl Try.prog pr m (.func 44) [v, .int .i64 i, .int .i64 (i + 1 : Nat)] H = some (v', H') ∧ RowC 29 1 H' v' (n - 1) (cs.eraseIdx i) ∧ (∀ b, home v' b → home v b) ∧ H'.length = H.length ∧ ∀ b, ¬ home v b → H'[b]? = H[b]? := by
  obtain ⟨hcs, ⟨rfl, h0⟩ | ⟨c, cap, rest, rfl, hcap, hrest, hb⟩⟩ := h
  · omega
  rw [Nat.mul_one] at hcs hrest
  have hlt := (List.getElem?_eq_some_iff.mp hb).1
  obtain ⟨k, hk⟩ : ∃ k, n = i + 1 + k := ⟨n - (i + 1), by omega⟩
  obtain ⟨y, hy⟩ : ∃ y, (cs.drop i).drop k = [y] := by
    have : ((cs.drop i).drop k).length = 1 := by simp; omega
    exact List.length_eq_one_iff.mp this
  have hsplit : cs ++ rest = cs.take i ++ (cs.drop i).take k ++ (y :: rest) := by
    have h1 := List.take_append_drop i cs
    have h2 := List.take_append_drop k (cs.drop i)
    rw [hy] at h2
    rw [List.append_assoc, show y :: rest = [y] ++ rest from rfl, ← List.append_assoc (List.take k _), h2, ← List.append_assoc, h1]
  have hb' := hb
  rw [hsplit] at hb'
  have hv1 := slc_is (P := Try.prog) (H := H) (o := 0) (sz := 1) hb (fun _ => szRow) (len := n) (cap := cap) (bnd_nat 0 .i64 i) (bnd_nat n .i64 (i + 1)) (bnd_nat cap .i64 n) (by omega) (by omega) hcap
  have hv4 := slc_is (P := Try.prog) (H := H) (o := 0) (sz := 1) hb (fun _ => szRow) (len := n) (cap := cap) (lo := none) (mx := none) rfl (bnd_nat n .i64 i) rfl (by omega) (by omega) (Nat.le_refl _)
  have hv5 := slc_is (P := Try.prog) (H := H) (o := 0) (sz := 1) hb (fun _ => szRow) (len := n) (cap := cap) (hi := none) (mx := none) (bnd_nat 0 .i64 (i + 1)) rfl rfl (by omega) hcap (Nat.le_refl _)
  simp only [Nat.zero_mul, Nat.mul_one, Nat.zero_add, Nat.add_zero, Nat.sub_zero] at hv1 hv4 hv5
  have hnk : n - (i + 1) = k := by omega
  rw [hnk] at hv5
  have hsrc : srcCells 1 (.slice (some ⟨c, i + 1, none⟩) k (cap - (i + 1))) k H = some (cs.drop (i + 1)) := by
    unfold srcCells
    by_cases h0 : k = 0
    · have : cs.drop (i + 1) = [] := by apply List.drop_eq_nil_of_le; omega
      simp [h0, this]
    · simp only
      rw [if_neg h0, hb]
      simp only
      rw [if_pos ⟨Nat.le_refl _, by simp; omega⟩, Nat.mul_one, List.drop_append_of_le_length (by omega), List.take_append_of_le_length (by simp; omega), List.take_of_length_le (by simp; omega)]
  have hall' : allCells (cs.drop (i + 1)) = true := by
    unfold allCells at hall ⊢
    rw [List.all_eq_true] at hall ⊢
    exact fun x hx => hall x (List.mem_of_mem_drop hx)
  have happ := app_in (by' := 24) (w := .slice (some ⟨c, i + 1, none⟩) k (cap - (i + 1))) (sz := 1) (n := i) (k := k) (cap := cap) hb' (by simp; omega) (by simp; omega) rfl hsrc (by omega) hall'
  obtain ⟨H1, hH1⟩ : ∃ H1, H1 = H.set c (.cells (cs.take i ++ cs.drop (i + 1) ++ (y :: rest)) 29 .row) := ⟨_, rfl⟩
  rw [← hH1] at happ
  have hb1 : H1[c]? = some (.cells (cs.take i ++ cs.drop (i + 1) ++ (y :: rest)) 29 .row) := by rw [hH1, List.getElem?_set_self hlt]
  have hv8 := slc_is (P := Try.prog) (H := H1) (o := 0) (sz := 1) hb1 (fun _ => szRow) (len := i + k) (cap := cap) (mx := none) (bnd_nat 0 .i64 (i + k)) (bnd_nat (i + k) .i64 n) rfl (by omega) hcap (Nat.le_refl _)
  simp only [Nat.mul_one, Nat.zero_add] at hv8
  have hn1 : n - (i + k) = 1 := by omega
  rw [hn1] at hv8
  have hplen : (cs.take i ++ cs.drop (i + 1)).length = i + k := by simp; omega
  have hclr : clr 1 [.slice none 0 0] (.slice (some ⟨c, i + k, none⟩) 1 (cap - (i + k))) H1 = some (.tuple #[], H1.set c (.cells (cs.take i ++ cs.drop (i + 1) ++ (.slice none 0 0 :: rest)) 29 .row)) := by
    have := setCells_mid [.slice none 0 0] [y] (cs.take i ++ cs.drop (i + 1)) rest rfl
    rw [hplen] at this
    unfold clr
    simp only
    rw [if_neg (by decide), hb1]
    simp only
    rw [if_pos ⟨by decide, by rw [List.length_append, hplen]; simp, rfl, rfl⟩]
    simp only [List.replicate, List.flatten_cons, List.flatten_nil, List.append_nil]
    rw [show y :: rest = [y] ++ rest from rfl, ← List.append_assoc, this]
    simp
  have e1 : ((i : Int) == ((i + 1 : Nat) : Int)) = false := by simp; omega
  refine ⟨.slice (some ⟨c, 0, none⟩) (i + k) cap, H1.set c (.cells (cs.take i ++ cs.drop (i + 1) ++ (.slice none 0 0 :: rest)) 29 .row), lvl_at hn hm ?_, ⟨?_, .inr ⟨c, cap, .slice none 0 0 :: rest, by congr 1; omega, by omega, by simp; omega, ?_⟩⟩, ?_, by rw [hH1]; simp, ?_⟩
  · rw [f44_eq]
    unfold f44
    simp -implicitDefEqProofs only [r_lenSl, hv1, hv4, hv5, hv8, happ, hclr, b_eql, e1, r_opt, ob_some, ifB_true, iteV_false, oneOf_one]
  · rw [List.eraseIdx_eq_take_drop_succ, hplen]; omega
  · rw [List.getElem?_set_self (by rw [hH1]; simpa using hlt), List.eraseIdx_eq_take_drop_succ]
  · rintro b ⟨o, n', c', hh⟩
    cases hh
    exact ⟨0, n, cap, rfl⟩
  · intro b hh
    have hne : b ≠ c := fun hx => hh ⟨0, n, cap, by rw [hx]⟩
    rw [get_set_ne hne, hH1, get_set_ne hne]

section
variable {a room : Nat} {bss : List (List UInt8)} {F : Nat → Prop}

theorem ltake_no (hn : pr (.func 20) = none) (ha : pr (.func 43) = none) (h : IsLink H a bss room F) (hm : 100 ≤ m) (i : Int) (hi : i < 0 ∨ (bss.length : Int) ≤ i) :
    lvl Try.prog pr m (.func 20) [.pointer (some ⟨a, 0, none⟩), .int .i64 i] H = some (.tuple #[.slice none 0 0, .bool false], H) := by
  have g := lat_no ha h (m := m - 1) (by omega) i hi
  refine lvl_at hn (by omega) ?_
  rw [f20_eq]
  unfold f20
  simp -implicitDefEqProofs only [g, r_opt, ob_some, ext_0, ext_1, iteV_false, oneOf_two]

theorem ltwice_no (hn : pr (.func 21) = none) (ha : pr (.func 43) = none) (h : IsLink H a bss room F) (hm : 100 ≤ m) (i : Int) (hi : i < 0 ∨ (bss.length : Int) ≤ i) :
    lvl Try.prog pr m (.func 21) [.pointer (some ⟨a, 0, none⟩), .int .i64 i] H = some (.bool false, H) := by
  have g := lat_no ha h (m := m - 1) (by omega) i hi
  refine lvl_at hn (by omega) ?_
  rw [f21_eq]
  unfold f21
  simp -implicitDefEqProofs only [g, r_opt, r_ret, ob_some, ext_0, ext_1, r_gdft, r_gdft2, pick_f, iteV_false, oneOf_one]

theorem ltwice_yes (hn : pr (.func 21) = none) (ha : pr (.func 43) = none) (hs : pr (.func 19) = none) (hc : pr (.func 42) = none) (h : IsLink H a bss room F) (hm : 200 ≤ m) (i : Nat) {bs : List UInt8} (hi : bss[i]? = some bs) :
    ∃ H', lvl Try.prog pr m (.func 21) [.pointer (some ⟨a, 0, none⟩), .int .i64 i] H = some (.bool (decide (bss.length < room)), H') ∧ Fr F H H' ∧ IsLink H' a (sent room bss bs) room (Up F H H') := by
  obtain ⟨u, g1, g2, g3⟩ := lat_yes ha h (m := m - 1) (by omega) i hi
  obtain ⟨H', c1, c2, c3⟩ := lsend_ok hs hc h (m := m - 1) (by omega) g2.rd (h.small _ (List.mem_of_getElem? hi))
  refine ⟨H', lvl_at hn (by omega) ?_, c2, c3⟩
  rw [f21_eq]
  unfold f21
  simp -implicitDefEqProofs only [g1, c1, r_opt, r_ret, ob_some, ext_0, ext_1, r_gdt, r_gdt2, pick_t, oneOf_one]

theorem ltake_yes (hn : pr (.func 20) = none) (ha : pr (.func 43) = none) (hd : pr (.func 44) = none) (h : IsLink H a bss room F) (hm : 100 ≤ m) (i : Nat) {bs : List UInt8} (hi : bss[i]? = some bs) :
    ∃ u H', lvl Try.prog pr m (.func 20) [.pointer (some ⟨a, 0, none⟩), .int .i64 i] H = some (.tuple #[u, .bool true], H') ∧ Fr F H H' ∧ IsLink H' a (bss.eraseIdx i) room F ∧ Bo 5 H' u bs ∧ H'.length = H.length ∧ ∀ c, lies u c → F c := by
  obtain ⟨v, G, h1, h2, h3, h4⟩ := h.ex
  obtain ⟨us, hr⟩ := h2
  have hlt : i < us.length := by
    have := (List.getElem?_eq_some_iff.mp hi).1
    have := hr.len
    omega
  have hu : us[i]? = some us[i] := List.getElem?_eq_getElem hlt
  obtain ⟨p, k1, k2, k3⟩ := hr.row.at_ i .i64 hlt
  have k3' := k3 H rfl 0 (by decide)
  simp only [Nat.mul_one, Nat.add_zero] at k1 k3'
  rw [hu, x_cell] at k3'
  have l0 := ldL0 v room h1
  have hlen := hr.row.len
  have e1 : decide ((i : Int) < 0) = false := decide_eq_false (by omega)
  have e2 : decide ((us.length : Int) ≤ i) = false := decide_eq_false (by omega)
  have g : lvl Try.prog pr (m - 1) (.func 43) [.pointer (some ⟨a, 0, none⟩), .int .i64 i] H = some (.tuple #[us[i], .bool true], H) := by
    refine lvl_at ha (by omega) ?_
    rw [f43_eq]
    unfold f43
    simp -implicitDefEqProofs only [b_lss, b_geq, e1, e2, r_nil, r_fAddr, Nat.zero_add, l0, hlen, r_opt, r_ret, ob_some, r_gdff, r_gdff2, pick_f, iteV_false, oneOf_two, k1, k3']
  have hall : allCells us = true := by
    unfold allCells
    rw [List.all_eq_true]
    intro x hx
    obtain ⟨j, hj⟩ := List.getElem?_of_mem hx
    have hjl := (List.getElem?_eq_some_iff.mp hj).1
    have := hr.len
    have := (hr.bo j x bss[j] hj (List.getElem?_eq_getElem (by omega))).all
    simpa [allCells] using this
  obtain ⟨v', H', d1, d2, d3, d4, d5⟩ := del_ok hd (m := m - 1) (by omega) hr.row hlt hall
  have hna : ¬ home v a := fun hh => h3 (hr.hv a hh)
  have hwrap : IntKind.i64.wrap ((i : Int) + 1) = ((i + 1 : Nat) : Int) := by
    have := h.few
    have := hr.len
    rw [wrap_i64 (by omega) (by omega)]
    omega
  have hH' : H'[a]? = some (.cells [v, .int .i64 room] 72 .fix) := by rw [d5 a hna, h1]
  have hst : stN 1 (.pointer (some ⟨a, 0, none⟩)) v' H' = some (undef, H'.set a (.cells [v', .int .i64 room] 72 .fix)) := by
    obtain ⟨_, ⟨rfl, _⟩ | ⟨c, cap, rest, rfl, _⟩⟩ := d2 <;> rw [x_stN 1 a 0 _ rfl, hH'] <;> rfl
  have hr' : RowI 29 5 H' v' (us.eraseIdx i) (bss.eraseIdx i) G := by
    refine hr.cells neRU (by rw [List.length_eraseIdx_of_lt hlt]; exact d2) ?_ d4 d3 d5 (List.eraseIdx_sublist _ _) fun j u bs hu hb => ?_
    · have := hr.len
      rw [List.length_eraseIdx_of_lt hlt, List.length_eraseIdx_of_lt (by omega)]
      omega
    · rw [List.getElem?_eraseIdx] at hu hb
      by_cases hj : j < i
      · rw [if_pos hj] at hu hb
        exact ⟨j, hu, hb⟩
      · rw [if_neg hj] at hu hb
        exact ⟨j + 1, hu, hb⟩
  have keep : ∀ b, b ≠ a → (H'.set a (.cells [v', .int .i64 room] 72 .fix))[b]? = H'[b]? := fun b hb => get_set_ne hb
  have hGa : ∀ b, G b → b ≠ a := fun b hb hx => h3 (by rw [← hx]; exact hb)
  refine ⟨us[i], H'.set a (.cells [v', .int .i64 room] 72 .fix), lvl_at hn (by omega) ?_, ⟨by simp; omega, fun b hb hF => ?_⟩, ⟨⟨v', G, ?_, ⟨_, hr'.keep (fun b hb => keep b (hGa b hb)) (by simp)⟩, h3, h4⟩, h.at_, ?_, ⟨?_, h.few.2⟩, fun x hx => h.small x (List.mem_of_mem_eraseIdx hx)⟩, ?_, by simp [d4], fun c hc => h4 c (hr.hu _ (List.getElem_mem hlt) c hc)⟩
  · rw [f20_eq]
    unfold f20
    simp -implicitDefEqProofs only [g, r_opt, ob_some, ext_0, ext_1, iteV_true, oneOf_two, r_nil, r_fAddr, Nat.zero_add, l0, b_add, hwrap, d1, hst]
  · rw [keep b (fun hx => hF (by rw [hx]; exact h.at_)), d5 b (fun hh => hF (h4 b (hr.hv b hh)))]
  · exact List.getElem?_set_self (List.getElem?_eq_some_iff.mp hH').1
  · intro b hb
    simp [d4]
    exact h.lt b hb
  · have := h.few.1
    have := (List.getElem?_eq_some_iff.mp hi).1
    rw [List.length_eraseIdx_of_lt this]
    omega
  · have hm := List.getElem_mem hlt
    refine (hr.bo i _ bs hu hi).keep fun b hl => ?_
    rw [keep b (hGa b (hr.hu _ hm b hl)), d5 b fun hh => hr.apart neRU hh hm hl]

/-- bytes, one of them bent -/
def bent (bs : List UInt8) (at_ : Nat) (x : UInt8) : List UInt8 := bs.set (at_ % bs.length) (bs.getD (at_ % bs.length) 0 ^^^ x)

theorem lbend_no (hn : pr (.func 22) = none) (ha : pr (.func 43) = none) (h : IsLink H a bss room F) (hm : 100 ≤ m) (i at_ : Int) (x : UInt8) (hi : i < 0 ∨ (bss.length : Int) ≤ i ∨ at_ < 0 ∨ x = 0 ∨ bss[i.toNat]? = some []) :
    lvl Try.prog pr m (.func 22) [.pointer (some ⟨a, 0, none⟩), .int .i64 i, .int .i64 at_, .int .u8 x.toNat] H = some (.bool false, H) := by
  refine lvl_at hn (by omega) ?_
  rw [f22_eq]
  unfold f22
  by_cases hr : i < 0 ∨ (bss.length : Int) ≤ i
  · have g := lat_no ha h (m := m - 1) (by omega) i hr
    simp -implicitDefEqProofs only [g, r_opt, r_ret, ob_some, ext_0, ext_1, u_not, Bool.not_false, r_gdtf, r_gdtf2, r_gdu, r_gdu2, pick_t, iteV_true, oneOf_one]
  · obtain ⟨j, rfl⟩ : ∃ j : Nat, i = j := ⟨i.toNat, by omega⟩
    have hj : bss[j]? = some bss[j] := List.getElem?_eq_getElem (by omega)
    obtain ⟨u, g, g2, g3⟩ := lat_yes ha h (m := m - 1) (by omega) j hj
    have hlen := g2.rd.len
    by_cases h1 : at_ < 0
    · have e1 : decide (at_ < 0) = true := decide_eq_true h1
      simp -implicitDefEqProofs only [g, r_opt, r_ret, ob_some, ext_0, ext_1, u_not, Bool.not_true, r_gdff, r_gdff2, b_lss, e1, r_gdtf, r_gdtf2, r_gdu, r_gdu2, pick_f, pick_t, iteV_true, oneOf_one]
    · have e1 : decide (at_ < 0) = false := decide_eq_false h1
      by_cases h2 : x = 0
      · have e2 : (((x.toNat : Nat) : Int) == 0) = true := by subst h2; rfl
        simp -implicitDefEqProofs only [g, r_opt, r_ret, ob_some, ext_0, ext_1, u_not, Bool.not_true, r_gdff, r_gdff2, b_lss, b_eql, e1, e2, r_gdtf, r_gdtf2, r_gdu, r_gdu2, pick_f, pick_t, iteV_true, oneOf_one]
      · have e2 : (((x.toNat : Nat) : Int) == 0) = false := by
          have : x.toNat ≠ 0 := fun h0 => h2 (by apply UInt8.toNat_inj.mp; exact h0)
          simp
          exact this
        have h4 : bss[j] = [] := by
          rcases hi with hi | hi | hi | hi | hi
          · exact absurd (.inl hi) hr
          · exact absurd (.inr hi) hr
          · exact absurd hi h1
          · exact absurd hi h2
          · rw [Int.toNat_natCast, hj] at hi
            exact Option.some.inj hi
        rw [h4] at hlen
        have e3 : ((([] : List UInt8).length : Int) == 0) = true := rfl
        simp -implicitDefEqProofs only [g, r_opt, r_ret, ob_some, ext_0, ext_1, u_not, Bool.not_true, r_gdff, r_gdff2, b_lss, b_eql, e1, e2, e3, hlen, r_gdtf, r_gdtf2, r_gdu, r_gdu2, pick_f, pick_t, iteV_true, oneOf_one]

theorem lbend_yes (hn : pr (.func 22) = none) (ha : pr (.func 43) = none) (h : IsLink H a bss room F) (hm : 100 ≤ m) (i at_ : Nat) (x : UInt8) {bs : List UInt8} (hi : bss[i]? = some bs) (hx : x ≠ 0) (hb : bs ≠ []) :
    ∃ H', lvl Try.prog pr m (.func 22) [.pointer (some ⟨a, 0, none⟩), .int .i64 i, .int .i64 at_, .int .u8 x.toNat] H = some (.bool true, H') ∧ Fr F H H' ∧ IsLink H' a (bss.set i (bent bs at_ x)) room F ∧ H'.length = H.length := by
  obtain ⟨v, G, h1, h2, h3, h4⟩ := h.ex
  have hpos : 0 < bs.length := List.length_pos_iff.mpr hb
  have hj : at_ % bs.length < bs.length := Nat.mod_lt _ hpos
  have hjx : bs[at_ % bs.length]? = some (bs.getD (at_ % bs.length) 0) := by
    rw [List.getD_eq_getElem?_getD, List.getElem?_eq_getElem hj]
    rfl
  obtain ⟨u, p, b, o, H', k1, k2, k3, k4, k5, k6, k7, k8⟩ := h2.set neRU hi hj .i64 (bs.getD (at_ % bs.length) 0 ^^^ x)
  have l0 := ldL0 v room h1
  have hlen := h2.len
  have hlt := (List.getElem?_eq_some_iff.mp hi).1
  have e1 : decide ((i : Int) < 0) = false := decide_eq_false (by omega)
  have e2 : decide ((bss.length : Int) ≤ i) = false := decide_eq_false (by omega)
  have g : lvl Try.prog pr (m - 1) (.func 43) [.pointer (some ⟨a, 0, none⟩), .int .i64 i] H = some (.tuple #[u, .bool true], H) := by
    refine lvl_at ha (by omega) ?_
    rw [f43_eq]
    unfold f43
    simp -implicitDefEqProofs only [b_lss, b_geq, e1, e2, r_nil, r_fAddr, Nat.zero_add, l0, hlen, r_opt, r_ret, ob_some, r_gdff, r_gdff2, pick_f, iteV_false, oneOf_two, k1, k2 H rfl]
  have hul := k3.rd.len
  obtain ⟨b', o', q1, q2⟩ := k3.rd.get hjx .i64
  rw [k4] at q1
  cases q1
  have e3 : decide ((at_ : Int) < 0) = false := decide_eq_false (by omega)
  have e4 : (((x.toNat : Nat) : Int) == 0) = false := by
    have : x.toNat ≠ 0 := fun h0 => hx (by apply UInt8.toNat_inj.mp; exact h0)
    simp
    exact this
  have e5 : ((bs.length : Int) == 0) = false := by simp; exact hb
  have e6 : ((at_ : Int)).tmod bs.length = ((at_ % bs.length : Nat) : Int) := by rw [Int.tmod_eq_emod_of_nonneg (by omega)]; omega
  have r1 := b_rem (P := Try.prog) 3 .i64 (at_ : Int) bs.length (by omega)
  rw [e6] at r1
  refine ⟨H', lvl_at hn (by omega) ?_, k8.weak h4, ⟨⟨v, G, by rw [k8.2 a (h.lt a h.at_) h3, h1], k7, h3, h4⟩, h.at_, fun b hb => by rw [k6]; exact h.lt b hb, by simpa using h.few, fun y hy => ?_⟩, k6⟩
  · rw [f22_eq]
    unfold f22
    have e7 := b_xor8 (P := Try.prog) 5 (bs.getD (at_ % bs.length) 0) x
    have e8 : Value.int .u8 x.toNat = byteV x := rfl
    have e9 : bin Try.prog .eql 5 (byteV x) (.int .u8 0) = some (.bool false) := by
      unfold byteV
      rw [b_eql, e4]
    simp -implicitDefEqProofs only [g, r_opt, r_ret, ob_some, ext_0, ext_1, u_not, Bool.not_true, r_gdff, r_gdff2, b_lss, b_eql, e3, e4, e5, hul, pick_f, iteV_false, oneOf_one, r1, k4, q2, e8, e9, e7, k5]
  · rcases List.mem_or_eq_of_mem_set hy with hy | rfl
    · exact h.small y hy
    · unfold bent
      rw [List.length_set]
      exact h.small bs (List.mem_of_getElem? hi)

end

section
variable (H0 : Heap) (w : Value) (bss : List (List UInt8)) (G : Nat → Prop)

theorem all_loop (hc : pr (.func 42) = none) (h2 : RowL H0 w bss G) (hl : bss.length ≤ 100000) (hsm : ∀ bs ∈ bss, bs.length ≤ 100000) : ∀ (r i k : Nat) (H : Heap) (o : Value), bss.length - i = r → i ≤ bss.length → r < k → 0 < m → Ext H0 H → RowL H o (bss.take i) (Nw H0 H) → ∀ (x0 x1 x2 x4 x5 x6 x7 x8 x12 x13 x14 x15 x16 x17 x18 x19 x20 x21 : Value),
    ∃ v H', loopN k (runCode Try.prog (lvl Try.prog pr m) (loopN m) f18_c0) (f18_k0 (lvl Try.prog pr m) (loopN m)) [x0, x1, x2, o, x4, x5, x6, x7, x8, w, (.int .i64 (bss.length : Nat)), (.int .i64 (i : Nat)), x12, x13, x14, x15, x16, x17, x18, x19, x20, x21] H = some (v, H') ∧ Ext H0 H' ∧ RowL H' v bss (Nw H0 H') := by
  intro r
  induction r with
  | zero =>
    intro i k H o hr hi hk hm hE hO
    intros
    obtain ⟨k, rfl⟩ : ∃ n, k = n + 1 := ⟨k - 1, by omega⟩
    obtain rfl : i = bss.length := by omega
    have e : decide ((bss.length : Int) < bss.length) = false := by simp
    refine ⟨o, H, ?_, hE, by rw [List.take_length] at hO; exact hO⟩
    rw [loop_succ, f18_b0_eq]
    unfold f18_b0
    simp -implicitDefEqProofs only [b_lss, e, r_opt, ob_some, iteV_false, again_exit]
    rw [f18_e0_0_eq]
    unfold f18_e0_0
    simp -implicitDefEqProofs only [oneOf_one]
  | succ r ih =>
    intro i k H o hr hi hk hm hE hO
    intros
    obtain ⟨k, rfl⟩ : ∃ n, k = n + 1 := ⟨k - 1, by omega⟩
    have e : decide ((i : Int) < bss.length) = true := by simp; omega
    have hb : bss[i]? = some bss[i] := List.getElem?_eq_getElem (by omega)
    obtain ⟨u, p, g1, g2, g3, g4, g5⟩ := h2.get hb .i64
    have hld := g3 H (hE.2 p (h2.lt p g2) id)
    have hub : Br H u bss[i] := g4.rd.keep fun b hl => hE.2 b (h2.lt b (g5 b hl)) id
    obtain ⟨u', H1, c1, c2, c3, c4⟩ := clone_ok hc hub (by have := hsm _ (List.getElem_mem (show i < bss.length by omega)); omega) hm
    have hO1 : RowL H1 o (bss.take i) (Nw H0 H) := hO.keep (fun b hb => c2.2 b hb.2 id) c2.1
    have htl : (bss.take i).length = i := by simp; omega
    obtain ⟨w', H2, v', H3, p1, p2, p3, p4, p5⟩ := hO1.push neRU c3 (fun b hl hF => by have := c4 b hl; have := hF.2; omega) (by' := 24) (roomyR (by rw [htl]; omega)) (.slice none 0 0)
    have e3 : IntKind.i64.wrap ((i : Int) + 1) = ((i + 1 : Nat) : Int) := by rw [wrap_i64 (by omega) (by omega)]; omega
    have hE3 : Ext H0 H3 := ⟨by have := hE.1; have := c2.1; have := p5.1; omega, fun b hb _ => by
      rw [p5.2 b (by have := hE.1; have := c2.1; omega) (fun hx => by have := hx.1; omega), c2.2 b (by have := hE.1; omega) id, hE.2 b hb id]⟩
    have htk : bss.take i ++ [bss[i]] = bss.take (i + 1) := by rw [List.take_add_one, hb]; rfl
    rw [htk] at p4
    have hO3 : RowL H3 v' (bss.take (i + 1)) (Nw H0 H3) := p4.weak (fun b hb => by
      have h1 := hE.1
      have h2 := c2.1
      have h3 := p5.1
      rcases hb with (hb | hb) | hb
      · exact ⟨hb.1, by have := hb.2; omega⟩
      · obtain ⟨cs, hcs⟩ := c3.lt b hb
        have := (List.getElem?_eq_some_iff.mp hcs).1
        exact ⟨by have := c4 b hb; omega, by omega⟩
      · exact ⟨by have := hb.1; omega, hb.2⟩) (fun b hb => hb.2)
    rw [loop_succ, f18_b0_eq]
    unfold f18_b0
    simp -implicitDefEqProofs only [b_lss, e, r_opt, ob_some, iteV_true, g1, hld, c1, p1, p3, b_add, e3, again_normal]
    exact ih (i + 1) k H3 v' (by omega) (by omega) (by omega) hm hE3 hO3 ..
end

theorem lall_ok {a room : Nat} {bss : List (List UInt8)} {F : Nat → Prop} (hn : pr (.func 18) = none) (hc : pr (.func 42) = none) (h : IsLink H a bss room F) (hm : 100 ≤ m) :
    ∃ v H', lvl Try.prog pr m (.func 18) [.pointer (some ⟨a, 0, none⟩)] H = some (v, H') ∧ Ext H H' ∧ RowL H' v bss (Nw H H') := by
  obtain ⟨v, G, h1, h2, h3, h4⟩ := h.ex
  have l0 := ldL0 v room h1
  have hlen := h2.len
  have hf := h.few
  obtain ⟨v', H', g1, g2, g3⟩ := all_loop (pr := pr) (m := m - 1) H v bss G hc h2 (by omega) h.small bss.length 0 (m - 1) H (.slice none 0 0) (by omega) (by omega) (by omega) (by omega) (Fr.refl _ _) (Row.nil.mpr fun b hb => hb.2)
    (.pointer (some ⟨a, 0, none⟩)) undef (.slice none 0 0) undef undef (.pointer (some ⟨a, 0, none⟩)) (.pointer (some ⟨a, 0, none⟩)) (.pointer (some ⟨a, 0, none⟩)) undef undef undef undef undef undef undef undef undef undef
  refine ⟨v', H', lvl_at hn (by omega) ?_, g2, g3⟩
  rw [f18_eq]
  unfold f18
  simp -implicitDefEqProofs only [r_nil, r_fAddr, Nat.zero_add, l0, hlen, r_opt, ob_some]
  exact g1

end

end Go.Proofs.Ytcmmlgdbpnogjaa
