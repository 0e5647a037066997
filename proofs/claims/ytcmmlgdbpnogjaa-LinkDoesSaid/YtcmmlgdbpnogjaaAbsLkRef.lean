/-
  The reference's link: contracts.
-/
import Derived.Test.YtcmmlgdbpnogjaaAbsLkSame
set_option linter.unusedSimpArgs false
set_option linter.unusedVariables false
set_option maxRecDepth 100000
namespace Go.Proofs.Ytcmmlgdbpnogjaa
open Go.Abs

theorem bR (n : Int) : bld Try.prog 44 [(1, .int .i64 n)] = some (.agg #[.slice none 0 0, .int .i64 n]) := rfl
theorem eR (a : Addr) : bin Try.prog .eql 40 (.pointer (some a)) (.pointer none) = some (.bool false) := x_eqNil 40 44 (by kernel_rfl) a
theorem eR0 : bin Try.prog .eql 40 (.pointer none) (.pointer none) = some (.bool true) := x_eqNil0 40 44 (by kernel_rfl)

theorem chk_sl {H : Heap} {v : Value} (h : v = .slice none 0 0 ∨ ∃ b o n c, v = .slice (some ⟨b, o, none⟩) n c) : chk (some (v, H)) v = true := by
  rcases h with rfl | ⟨b, o, n, c, rfl⟩ <;> simp [chk, veq]

section
variable {eR eB : TypeId} {H : Heap} {v : Value} {us : List Value} {bss : List (List UInt8)} {F : Nat → Prop}

theorem Row.shape (h : Row eR eB H v bss F) : v = .slice none 0 0 ∨ ∃ b o n c, v = .slice (some ⟨b, o, none⟩) n c := by
  obtain ⟨us, hi⟩ := h
  obtain ⟨_, ⟨rfl, _⟩ | ⟨c, cap, rest, rfl, _⟩⟩ := hi.row
  · exact .inl rfl
  · exact .inr ⟨_, _, _, _, rfl⟩

/-- another element in a place -/
theorem RowI.put (h : RowI eR eB H v us bss F) (hne : eR ≠ eB) {i : Nat} (hi : i < us.length) {u' : Value} {bs' : List UInt8} (hb : Bo eB H u' bs') (hf : ∀ b, lies u' b → ¬ F b) (k : IntKind) :
    ∃ p H', iAddr 1 v (.int k i) = some (.pointer (some ⟨p, i, none⟩)) ∧ stN 1 (.pointer (some ⟨p, i, none⟩)) u' H = some (undef, H') ∧ RowI eR eB H' v (us.set i u') (bss.set i bs') (fun b => F b ∨ lies u' b) ∧ H'.length = H.length ∧ Fr F H H' ∧ F p := by
  obtain ⟨hcs, ⟨rfl, h0⟩ | ⟨c, cap, rest, rfl, hcap, hrest, hb1⟩⟩ := h.row
  · omega
  · have hlt := (List.getElem?_eq_some_iff.mp hb1).1
    have hhome : home (.slice (some ⟨c, 0, none⟩) us.length cap) c := ⟨0, _, _, rfl⟩
    have hcell := hb.cells
    have hall := hb.all
    have hone : u'.cells.toList = [u'] := by rw [hcell]
    have hlies : ∀ b, lies u' b → b ≠ c := fun b hl hx => hf b hl (by rw [hx]; exact h.hv c hhome)
    refine ⟨c, H.set c (.cells ((us.set i u') ++ rest) eR .row), ?_, ?_, ⟨⟨by simp, .inr ⟨c, cap, rest, by rw [List.length_set], by rw [List.length_set]; exact hcap, by rw [List.length_set]; exact hrest, by rw [List.getElem?_set_self hlt]⟩⟩, by simp [h.len], ?_, ?_, ?_, ?_, ?_⟩, by simp, Fr.set F (h.hv c hhome) H _, h.hv c hhome⟩
    · rw [r_iAddr _ _ _ _ _ _ _ (by omega) (by omega)]
      simp
    · rw [x_stN 1 c i u' (by rw [hone]; rfl), hb1, hone, x_stC _ _ _ _ _ _ (by decide) (by simp; omega) hall]
      simp only [setCells]
      rw [List.set_append_left _ _ hi]
    · intro j w ws hw hws
      by_cases hj : i = j
      · subst hj
        rw [List.getElem?_set_self hi] at hw
        rw [List.getElem?_set_self (by rw [← h.len]; exact hi)] at hws
        cases hw
        cases hws
        exact hb.keep fun b hl => get_set_ne (hlies b hl)
      · rw [List.getElem?_set_ne hj] at hw hws
        exact (h.bo j w ws hw hws).keep fun b hl => get_set_ne fun hx => h.apart hne hhome (List.mem_of_getElem? hw) (by rw [← hx]; exact hl)
    · rw [List.pairwise_iff_getElem]
      intro j1 j2 h1 h2 hjj b hb1' hb2'
      rw [List.length_set] at h1 h2
      rw [List.getElem_set] at hb1' hb2'
      by_cases e1 : i = j1
      · rw [if_pos e1] at hb1'
        rw [if_neg (by omega)] at hb2'
        exact hf b hb1' (h.hu _ (List.getElem_mem h2) b hb2')
      · rw [if_neg e1] at hb1'
        by_cases e2 : i = j2
        · rw [if_pos e2] at hb2'
          exact hf b hb2' (h.hu _ (List.getElem_mem h1) b hb1')
        · rw [if_neg e2] at hb2'
          exact List.pairwise_iff_getElem.mp h.sep j1 j2 h1 h2 hjj b hb1' hb2'
    · rintro b ⟨o, n', c', hh⟩
      cases hh
      exact .inl (h.hv c hhome)
    · intro w hw b hl
      rcases List.mem_or_eq_of_mem_set hw with hw | rfl
      · exact .inl (h.hu w hw b hl)
      · exact .inr hl
    · intro b hb'
      rw [List.length_set]
      rcases hb' with hb' | hb'
      · exact h.lt b hb'
      · obtain ⟨cs, hcs'⟩ := hb.lt b hb'
        exact (List.getElem?_eq_some_iff.mp hcs').1
end

section
variable {H : Heap} {m : Nat}

theorem rclone_ok {u : Value} {bs : List UInt8} (h : Br H u bs) (hl : bs.length ≤ 1000000) (hm : 0 < m) :
    ∃ u' H', lvl Try.prog pk m (.func 45) [u] H = some (u', H') ∧ Ext H H' ∧ Bo 5 H' u' bs ∧ ∀ b, lies u' b → H.length ≤ b := by
  obtain ⟨v', H', g1, g2, g3, g4, g5⟩ := app_row (by' := 1) (RowC.nil 5 1 H) h.srcLen h.src (by rw [Nat.zero_add]; exact roomyB hl) (all_bytes bs) (by decide)
  refine ⟨v', H', lvl_at (flatPr_no rfl) hm ?_, ⟨g3, fun b hb _ => g4 b hb (fun ⟨o, n, c, hh⟩ => by cases hh)⟩, Bo.of_row (by simpa using g2), fun b hl => ?_⟩
  · rw [f45_eq]
    unfold f45
    simp -implicitDefEqProofs only [g1, ob_some, oneOf_one]
  · obtain ⟨o, n, c, hv⟩ := hl
    rcases g5 b ⟨o, _, c, hv⟩ with ⟨o, n, c, hh⟩ | hh
    · cases hh
    · exact hh.1

structure RLink (H : Heap) (a : Nat) (bss : List (List UInt8)) (room : Nat) (F : Nat → Prop) : Prop where
  ex : ∃ v G, H[a]? = some (.cells [v, .int .i64 room] 44 .fix) ∧ RowL H v bss G ∧ ¬ G a ∧ ∀ b, G b → F b
  at_ : F a
  lt : ∀ b, F b → b < H.length
  few : bss.length ≤ room ∧ room ≤ 64
  small : ∀ bs ∈ bss, bs.length ≤ 100000

theorem RLink.keep {H' : Heap} {a : Nat} {bss : List (List UInt8)} {room : Nat} {F : Nat → Prop} (h : RLink H a bss room F) (hk : ∀ b, F b → H'[b]? = H[b]?) (hl : H.length ≤ H'.length) : RLink H' a bss room F := by
  obtain ⟨v, G, h1, h2, h3, h4⟩ := h.ex
  exact ⟨⟨v, G, by rw [hk a h.at_, h1], h2.keep (fun b hb => hk b (h4 b hb)) hl, h3, h4⟩, h.at_, fun b hb => Nat.lt_of_lt_of_le (h.lt b hb) hl, h.few, h.small⟩
theorem RLink.weak {a : Nat} {bss : List (List UInt8)} {room : Nat} {F F' : Nat → Prop} (h : RLink H a bss room F) (hF : ∀ b, F b → F' b) (hl : ∀ b, F' b → b < H.length) : RLink H a bss room F' := by
  obtain ⟨v, G, h1, h2, h3, h4⟩ := h.ex
  exact ⟨⟨v, G, h1, h2, h3, fun b hb => hF b (h4 b hb)⟩, hF a h.at_, hl, h.few, h.small⟩

theorem rnew_no (hm : 0 < m) (n : Int) (h : n < 1 ∨ 64 < n) : lvl Try.prog pk m (.func 23) [.int .i64 n] H = some (.pointer none, H) := by
  refine lvl_at (flatPr_no rfl) hm ?_
  rw [f23_eq]
  unfold f23
  by_cases h1 : n < 1
  · have e1 : decide (n < 1) = true := decide_eq_true h1
    simp -implicitDefEqProofs only [b_lss, e1, r_opt, r_ret, ob_some, r_gdtf, r_gdtf2, pick_t, iteV_true, oneOf_one]
  · have e1 : decide (n < 1) = false := decide_eq_false h1
    have e2 : decide (64 < n) = true := decide_eq_true (by omega)
    simp -implicitDefEqProofs only [b_lss, b_gtr, e1, e2, r_opt, r_ret, ob_some, r_gdff, r_gdff2, pick_f, iteV_true, oneOf_one]

theorem rnew_ok (hm : 0 < m) (n : Nat) (h : 1 ≤ n ∧ n ≤ 64) : ∃ H', lvl Try.prog pk m (.func 23) [.int .i64 n] H = some (.pointer (some ⟨H.length, 0, none⟩), H') ∧ Ext H H' ∧ RLink H' H.length [] n (Nw H H') := by
  have e1 : decide ((n : Int) < 1) = false := decide_eq_false (by omega)
  have e2 : decide (64 < (n : Int)) = false := decide_eq_false (by omega)
  refine ⟨H ++ [.cells [.slice none 0 0, .int .i64 n] 44 .fix], lvl_at (flatPr_no rfl) hm ?_, Fr.app _ _ _, ⟨⟨.slice none 0 0, fun _ => False, by simp, Row.nil.mpr (fun b hb => hb.elim), id, fun b hb => hb.elim⟩, ⟨Nat.le_refl _, by simp⟩, fun b hb => hb.2, ⟨by simp, h.2⟩, by simp⟩⟩
  rw [f23_eq]
  unfold f23
  simp -implicitDefEqProofs only [b_lss, b_gtr, e1, e2, r_opt, r_ret, ob_some, r_gdff, r_gdff2, pick_f, iteV_false, bR, x_newB, oneOf_one]
  rfl

theorem ldR0 (hv : Value) (room : Nat) {a : Nat} (h : H[a]? = some (.cells [hv, .int .i64 room] 44 .fix)) : ld1 (.pointer (some ⟨a, 0, none⟩)) H = some (hv, H) := by rw [x_ld1, h]; rfl
theorem ldR1 (hv : Value) (room : Nat) {a : Nat} (h : H[a]? = some (.cells [hv, .int .i64 room] 44 .fix)) : ld1 (.pointer (some ⟨a, 1, none⟩)) H = some (.int .i64 room, H) := by rw [x_ld1, h]; rfl
theorem stR0 {v v' : Value} {room a : Nat} {bss : List (List UInt8)} {G : Nat → Prop} (h : H[a]? = some (.cells [v, .int .i64 room] 44 .fix)) (hv : RowL H v' bss G) : stN 1 (.pointer (some ⟨a, 0, none⟩)) v' H = some (undef, H.set a (.cells [v', .int .i64 room] 44 .fix)) := by
  rcases Row.shape hv with rfl | ⟨b, o, n, c, rfl⟩ <;> rw [x_stN 1 a 0 _ rfl, h] <;> rfl

section
variable {a room : Nat} {bss : List (List UInt8)} {F : Nat → Prop}

theorem rsend_ok (h : RLink H a bss room F) (hm : 100 ≤ m) {u : Value} {bs : List UInt8} (hb : Br H u bs) (hl : bs.length ≤ 100000) :
    ∃ H', lvl Try.prog pk m (.func 27) [.pointer (some ⟨a, 0, none⟩), u] H = some (.bool (decide (bss.length < room)), H') ∧ Fr F H H' ∧ RLink H' a (sent room bss bs) room (Up F H H') := by
  obtain ⟨v, G, h1, h2, h3, h4⟩ := h.ex
  have l0 := ldR0 v room h1
  have l1 := ldR1 v room h1
  have hlen := h2.len
  by_cases hf : bss.length = room
  · have e1 : decide ((room : Int) ≤ (bss.length : Int)) = true := by simp [hf]
    refine ⟨H, lvl_at (flatPr_no rfl) (by omega) ?_, Fr.refl _ _, ?_⟩
    · rw [f27_eq]
      unfold f27
      have e2 : decide (bss.length < room) = false := decide_eq_false (by omega)
      simp -implicitDefEqProofs only [r_nil, r_fAddr, Nat.zero_add, l0, l1, hlen, b_geq, e1, e2, r_opt, ob_some, ifB_true, iteV_true, oneOf_one]
    · unfold sent
      rw [if_pos hf]
      exact h.weak (fun b hb => .inl hb) fun b hb => hb.elim (h.lt b) fun hx => hx.2
  · have hlt : bss.length < room := by
      have := h.few.1
      omega
    have e1 : decide ((room : Int) ≤ (bss.length : Int)) = false := decide_eq_false (by omega)
    have e2 : decide (bss.length < room) = true := decide_eq_true hlt
    obtain ⟨u', H1, c1, c2, c3, c4⟩ := rclone_ok hb (by omega) (m := m - 1) (by omega)
    have ha := h.lt a h.at_
    have h1' : H1[a]? = some (.cells [v, .int .i64 room] 44 .fix) := by rw [c2.2 a ha id, h1]
    have h2' : RowL H1 v bss G := h2.keep (fun b hb => c2.2 b (h2.lt b hb) id) c2.1
    have l0' := ldR0 v room h1'
    have hck : chk (ld1 (.pointer (some ⟨a, 0, none⟩)) H1) v = true := by
      rw [l0']
      exact chk_sl (Row.shape h2')
    obtain ⟨w, H2, v', H3, g1, g2, g3, g4, g5⟩ := h2'.push neRU c3 (fun b hl hF => by have := c4 b hl; have := h2.lt b hF; omega) (by' := 24) (roomyR (by have := h.few; omega)) (.slice none 0 0)
    have hH3 : H3[a]? = some (.cells [v, .int .i64 room] 44 .fix) := by rw [g5.2 a (by have := c2.1; omega) h3, h1']
    have hlt3 := (List.getElem?_eq_some_iff.mp hH3).1
    have hst := stR0 hH3 g4
    refine ⟨H3.set a (.cells [v', .int .i64 room] 44 .fix), lvl_at (flatPr_no rfl) (by omega) ?_, ⟨by have := c2.1; have := g5.1; simp; omega, fun b hb hF => ?_⟩, ?_⟩
    · rw [f27_eq]
      unfold f27
      simp -implicitDefEqProofs only [r_nil, r_fAddr, Nat.zero_add, l0, l1, hlen, b_geq, e1, e2, r_opt, ob_some, ifB_true, iteV_false, oneOf_one, c1, hck, Bool.and_true, g1, g3, hst]
    · rw [get_set_ne (fun hx => hF (by rw [hx]; exact h.at_)), g5.2 b (by have := c2.1; omega) (fun hx => hF (h4 b hx)), c2.2 b hb id]
    · unfold sent
      rw [if_neg hf]
      have hna : ¬ Up (fun b => G b ∨ lies u' b) H1 H3 a := by
        rintro ((hx | hx) | hx)
        · exact h3 hx
        · have := c4 a hx
          omega
        · have := c2.1
          omega
      refine ⟨⟨v', Up (fun b => G b ∨ lies u' b) H1 H3, by rw [List.getElem?_set_self hlt3], g4.keep (fun b hb => get_set_ne fun hx => hna (by rw [← hx]; exact hb)) (by simp), hna, fun b hb => ?_⟩, .inl h.at_, fun b hb => ?_, ⟨by simp; omega, h.few.2⟩, ?_⟩
      · rcases hb with (hx | hx) | hx
        · exact .inl (h4 b hx)
        · exact .inr ⟨c4 b hx, by have := g4.lt b (.inl (.inr hx)); simpa using this⟩
        · exact .inr ⟨by have := c2.1; omega, by simpa using hx.2⟩
      · rcases hb with hb | hb
        · have := h.lt b hb
          have := c2.1
          have := g5.1
          simp
          omega
        · exact hb.2
      · intro x hx
        rcases List.mem_append.mp hx with hx | hx
        · exact h.small x hx
        · rw [List.mem_singleton] at hx
          subst hx
          exact hl

theorem rtwice_no (h : RLink H a bss room F) (hm : 100 ≤ m) (i : Int) (hi : i < 0 ∨ (bss.length : Int) ≤ i) :
    lvl Try.prog pk m (.func 25) [.pointer (some ⟨a, 0, none⟩), .int .i64 i] H = some (.bool false, H) := by
  obtain ⟨v, G, h1, h2, h3, h4⟩ := h.ex
  have l0 := ldR0 v room h1
  have hlen := h2.len
  refine lvl_at (flatPr_no rfl) (by omega) ?_
  rw [f25_eq]
  unfold f25
  by_cases h0 : i < 0
  · have e1 : decide (0 ≤ i) = false := decide_eq_false (by omega)
    simp -implicitDefEqProofs only [b_geq, e1, r_opt, r_ret, ob_some, r_gdft, r_gdft2, r_gdu, r_gdu2, pick_f, oneOf_one]
  · have e1 : decide (0 ≤ i) = true := decide_eq_true (by omega)
    have e2 : decide (i < (bss.length : Int)) = false := decide_eq_false (by omega)
    simp -implicitDefEqProofs only [b_geq, b_lss, e1, e2, r_nil, r_fAddr, Nat.zero_add, l0, hlen, r_opt, r_ret, ob_some, r_gdt, r_gdt2, r_gdft, r_gdft2, r_gdu, r_gdu2, pick_t, pick_f, oneOf_one]

theorem rtwice_yes (h : RLink H a bss room F) (hm : 200 ≤ m) (i : Nat) {bs : List UInt8} (hi : bss[i]? = some bs) :
    ∃ H', lvl Try.prog pk m (.func 25) [.pointer (some ⟨a, 0, none⟩), .int .i64 i] H = some (.bool (decide (bss.length < room)), H') ∧ Fr F H H' ∧ RLink H' a (sent room bss bs) room (Up F H H') := by
  obtain ⟨v, G, h1, h2, h3, h4⟩ := h.ex
  have l0 := ldR0 v room h1
  have hlen := h2.len
  have hlt := (List.getElem?_eq_some_iff.mp hi).1
  obtain ⟨u, p, g1, g2, g3, g4, g5⟩ := h2.get hi .i64
  obtain ⟨H', c1, c2, c3⟩ := rsend_ok h (m := m - 1) (by omega) g4.rd (h.small _ (List.mem_of_getElem? hi))
  have e1 : decide ((0 : Int) ≤ i) = true := decide_eq_true (by omega)
  have e2 : decide ((i : Int) < (bss.length : Int)) = true := decide_eq_true (by omega)
  refine ⟨H', lvl_at (flatPr_no rfl) (by omega) ?_, c2, c3⟩
  rw [f25_eq]
  unfold f25
  simp -implicitDefEqProofs only [b_geq, b_lss, e1, e2, r_nil, r_fAddr, Nat.zero_add, l0, hlen, r_opt, r_ret, ob_some, r_gdt, r_gdt2, pick_t, g1, g3 H rfl, c1, oneOf_one]

theorem rtake_no (h : RLink H a bss room F) (hm : 100 ≤ m) (i : Int) (hi : i < 0 ∨ (bss.length : Int) ≤ i) :
    lvl Try.prog pk m (.func 24) [.pointer (some ⟨a, 0, none⟩), .int .i64 i] H = some (.tuple #[.slice none 0 0, .bool false], H) := by
  obtain ⟨v, G, h1, h2, h3, h4⟩ := h.ex
  have l0 := ldR0 v room h1
  have hlen := h2.len
  refine lvl_at (flatPr_no rfl) (by omega) ?_
  rw [f24_eq]
  unfold f24
  by_cases h0 : i < 0
  · have e1 : decide (i < 0) = true := decide_eq_true h0
    simp -implicitDefEqProofs only [b_lss, e1, r_opt, r_ret, ob_some, r_gdtf, r_gdtf2, r_gdu, r_gdu2, pick_t, iteV_true, oneOf_two]
  · have e1 : decide (i < 0) = false := decide_eq_false h0
    have e2 : decide ((bss.length : Int) ≤ i) = true := decide_eq_true (by omega)
    simp -implicitDefEqProofs only [b_lss, b_geq, e1, e2, r_nil, r_fAddr, Nat.zero_add, l0, hlen, r_opt, r_ret, ob_some, r_gdff, r_gdff2, pick_f, iteV_true, oneOf_two]

theorem rtake_yes (h : RLink H a bss room F) (hm : 100 ≤ m) (i : Nat) {bs : List UInt8} (hi : bss[i]? = some bs) :
    ∃ u H', lvl Try.prog pk m (.func 24) [.pointer (some ⟨a, 0, none⟩), .int .i64 i] H = some (.tuple #[u, .bool true], H') ∧ Fr F H H' ∧ RLink H' a (bss.eraseIdx i) room (Up F H H') ∧ Br H' u bs := by
  obtain ⟨v, G, h1, h2, h3, h4⟩ := h.ex
  obtain ⟨us, hr⟩ := h2
  have hul := hr.len
  have hlt : i < us.length := by
    have := (List.getElem?_eq_some_iff.mp hi).1
    omega
  have hu : us[i]? = some us[i] := List.getElem?_eq_getElem hlt
  have l0 := ldR0 v room h1
  have hlen := hr.row.len
  have hrow := hr.row
  obtain ⟨hcs, ⟨rfl, h0⟩ | ⟨c, cap, rest, rfl, hcap, hrest, hb⟩⟩ := hrow
  · omega
  have hfew := h.few
  have hGc : G c := hr.hv c ⟨0, _, _, rfl⟩
  have hcl := (List.getElem?_eq_some_iff.mp hb).1
  have hat : iAddr 1 (.slice (some ⟨c, 0, none⟩) us.length cap) (.int .i64 i) = some (.pointer (some ⟨c, i, none⟩)) := by
    rw [r_iAddr _ _ _ _ _ _ _ (by omega) (by omega)]
    simp
  have hld : ld1 (.pointer (some ⟨c, i, none⟩)) H = some (us[i], H) := by
    rw [x_ld1, hb, x_ldC, List.getElem?_append_left hlt, hu, x_cell]
  have hv1 := slc_is (P := Try.prog) (H := H) (o := 0) (sz := 1) hb (fun _ => szRow) (len := us.length) (cap := cap) (lo := none) (mx := none) rfl (bnd_nat us.length .i64 i) rfl (by omega) (by omega) (Nat.le_refl _)
  simp only [Nat.zero_mul, Nat.add_zero, Nat.sub_zero] at hv1
  have hallu : ∀ l : List Value, (∀ x ∈ l, x ∈ us) → allCells l = true := by
    intro l hl
    unfold allCells
    rw [List.all_eq_true]
    intro x hx
    obtain ⟨j, hj⟩ := List.getElem?_of_mem (hl x hx)
    have hjl := (List.getElem?_eq_some_iff.mp hj).1
    have := (hr.bo j x bss[j] hj (List.getElem?_eq_getElem (by omega))).all
    simpa [allCells] using this
  have hsrc1 : srcCells 1 (.slice (some ⟨c, 0, none⟩) i cap) i H = some (us.take i) := by
    unfold srcCells
    by_cases h0 : i = 0
    · simp [h0]
    · simp only
      rw [if_neg h0, hb]
      simp only
      rw [if_pos ⟨Nat.le_refl _, by simp; omega⟩, Nat.mul_one, List.drop_zero, List.take_append_of_le_length (by omega)]
  obtain ⟨w1, H1, a1, a2, a3, a4, a5⟩ := app_row (by' := 24) (w := .slice (some ⟨c, 0, none⟩) i cap) (k := i) (RowC.nil 29 1 H) rfl hsrc1 (by rw [Nat.zero_add]; exact roomyR (by omega)) (hallu _ fun x hx => List.mem_of_mem_take hx) (by decide)
  rw [Nat.zero_add, List.nil_append] at a2
  have same1 : ∀ b, b < H.length → H1[b]? = H[b]? := fun b hb => a4 b hb (fun ⟨o, n, c, hh⟩ => by cases hh)
  have hb1 : H1[c]? = some (.cells (us ++ rest) 29 .row) := by rw [same1 c hcl, hb]
  have h11 : H1[a]? = some (.cells [.slice (some ⟨c, 0, none⟩) us.length cap, .int .i64 room] 44 .fix) := by rw [same1 a (h.lt a h.at_), h1]
  have l1 := ldR0 _ room h11
  have hv2 := slc_is (P := Try.prog) (H := H1) (o := 0) (sz := 1) hb1 (fun _ => szRow) (len := us.length) (cap := cap) (hi := none) (mx := none) (bnd_nat 0 .i64 (i + 1)) rfl rfl (by omega) hcap (Nat.le_refl _)
  simp only [Nat.mul_one, Nat.zero_add] at hv2
  have hsrc2 : srcCells 1 (.slice (some ⟨c, i + 1, none⟩) (us.length - (i + 1)) (cap - (i + 1))) (us.length - (i + 1)) H1 = some (us.drop (i + 1)) := by
    unfold srcCells
    by_cases h0 : us.length - (i + 1) = 0
    · have : us.drop (i + 1) = [] := by apply List.drop_eq_nil_of_le; omega
      simp [h0, this]
    · simp only
      rw [if_neg h0, hb1]
      simp only
      rw [if_pos ⟨Nat.le_refl _, by simp; omega⟩, Nat.mul_one, List.drop_append_of_le_length (by omega), List.take_append_of_le_length (by simp), List.take_of_length_le (by simp)]
  obtain ⟨w2, H2, d1, d2, d3, d4, d5⟩ := app_row (by' := 24) (w := .slice (some ⟨c, i + 1, none⟩) (us.length - (i + 1)) (cap - (i + 1))) (k := us.length - (i + 1)) a2 rfl hsrc2 (roomyR (by omega)) (hallu _ fun x hx => List.mem_of_mem_drop hx) (by decide)
  have home1 : ∀ b, home w1 b → H.length ≤ b := fun b hb => by
    rcases a5 b hb with ⟨o, n, c, hh⟩ | hh
    · cases hh
    · exact hh.1
  have same2 : ∀ b, b < H.length → H2[b]? = H[b]? := fun b hb => by
    rw [d4 b (by omega) (fun hh => by have := home1 b hh; omega), same1 b hb]
  have home2 : ∀ b, home w2 b → H.length ≤ b ∧ b < H2.length := fun b hb => by
    refine ⟨?_, d2.lt b hb⟩
    rcases d5 b hb with hh | hh
    · exact home1 b hh
    · omega
  have h12 : H2[a]? = some (.cells [.slice (some ⟨c, 0, none⟩) us.length cap, .int .i64 room] 44 .fix) := by rw [same2 a (h.lt a h.at_), h1]
  have herase : us.take i ++ us.drop (i + 1) = us.eraseIdx i := (List.eraseIdx_eq_take_drop_succ ..).symm
  rw [herase] at d2
  have hel : i + (us.length - (i + 1)) = (us.eraseIdx i).length := by rw [List.length_eraseIdx_of_lt hlt]; omega
  rw [hel] at d2
  have hr2 : RowI 29 5 H2 w2 (us.eraseIdx i) (bss.eraseIdx i) (fun b => G b ∨ Nw H H2 b) := by
    refine ⟨d2, by rw [List.length_eraseIdx_of_lt hlt, List.length_eraseIdx_of_lt (by omega)]; omega, fun j u bs hu hb => ?_, hr.sep.sublist (List.eraseIdx_sublist _ _), fun b hb => .inr (home2 b hb), fun u hu b hb => .inl (hr.hu u (List.mem_of_mem_eraseIdx hu) b hb), fun b hb => hb.elim (fun hx => by have := hr.lt b hx; omega) fun hx => hx.2⟩
    have : ∃ j' : Nat, us[j']? = some u ∧ bss[j']? = some bs := by
      rw [List.getElem?_eraseIdx] at hu hb
      by_cases hj : j < i
      · rw [if_pos hj] at hu hb
        exact ⟨j, hu, hb⟩
      · rw [if_neg hj] at hu hb
        exact ⟨j + 1, hu, hb⟩
    obtain ⟨j', q1, q2⟩ := this
    exact (hr.bo j' u bs q1 q2).keep fun b hl => same2 b (hr.lt b (hr.hu u (List.mem_of_getElem? q1) b hl))
  have hst := stR0 h12 ⟨_, hr2⟩
  have hlt2 := (List.getElem?_eq_some_iff.mp h12).1
  have hna : ¬ (G a ∨ Nw H H2 a) := by
    rintro (hx | hx)
    · exact h3 hx
    · have := h.lt a h.at_
      have := hx.1
      omega
  have hwrap : IntKind.i64.wrap ((i : Int) + 1) = ((i + 1 : Nat) : Int) := by rw [wrap_i64 (by omega) (by omega)]; omega
  have e1 : decide ((i : Int) < 0) = false := decide_eq_false (by omega)
  have e2 : decide ((us.length : Int) ≤ i) = false := decide_eq_false (by omega)
  refine ⟨us[i], H2.set a (.cells [w2, .int .i64 room] 44 .fix), lvl_at (flatPr_no rfl) (by omega) ?_, ⟨by simp; omega, fun b hb hF => ?_⟩, ⟨⟨w2, fun b => G b ∨ Nw H H2 b, by rw [List.getElem?_set_self hlt2], ⟨_, hr2.keep (fun b hb => get_set_ne fun hx => hna (by rw [← hx]; exact hb)) (by simp)⟩, hna, fun b hb => ?_⟩, .inl h.at_, fun b hb => ?_, ⟨?_, h.few.2⟩, fun x hx => h.small x (List.mem_of_mem_eraseIdx hx)⟩, ?_⟩
  · rw [f24_eq]
    unfold f24
    simp -implicitDefEqProofs only [b_lss, b_geq, e1, e2, r_nil, r_fAddr, Nat.zero_add, l0, hlen, r_opt, r_ret, ob_some, r_gdff, r_gdff2, pick_f, iteV_false, hat, hld, hv1, a1, l1, b_add, hwrap, hv2, d1, hst, oneOf_two]
  · rw [get_set_ne (fun hx => hF (by rw [hx]; exact h.at_)), same2 b hb]
  · rcases hb with hx | hx
    · exact .inl (h4 b hx)
    · exact .inr ⟨hx.1, by simpa using hx.2⟩
  · rcases hb with hx | hx
    · have := h.lt b hx
      simp
      omega
    · exact hx.2
  · rw [List.length_eraseIdx_of_lt (by omega)]
    omega
  · have hm := List.getElem_mem hlt
    refine ((hr.bo i _ bs hu hi).keep fun b hl => ?_).rd
    have hG := hr.hu _ hm b hl
    rw [get_set_ne (fun hx => h3 (by rw [← hx]; exact hG)), same2 b (hr.lt b hG)]

theorem rbend_no (h : RLink H a bss room F) (hm : 100 ≤ m) (i at_ : Int) (x : UInt8) (hi : i < 0 ∨ (bss.length : Int) ≤ i ∨ at_ < 0 ∨ x = 0 ∨ bss[i.toNat]? = some []) :
    lvl Try.prog pk m (.func 26) [.pointer (some ⟨a, 0, none⟩), .int .i64 i, .int .i64 at_, .int .u8 x.toNat] H = some (.bool false, H) := by
  obtain ⟨v, G, h1, h2, h3, h4⟩ := h.ex
  have l0 := ldR0 v room h1
  have hlen := h2.len
  refine lvl_at (flatPr_no rfl) (by omega) ?_
  rw [f26_eq]
  unfold f26
  by_cases h0 : i < 0
  · have e1 : decide (i < 0) = true := decide_eq_true h0
    simp -implicitDefEqProofs only [b_lss, e1, r_opt, r_ret, ob_some, r_gdtf, r_gdtf2, r_gdu, r_gdu2, pick_t, iteV_true, oneOf_one]
  · have e1 : decide (i < 0) = false := decide_eq_false h0
    by_cases hr : (bss.length : Int) ≤ i
    · have e2 : decide ((bss.length : Int) ≤ i) = true := decide_eq_true hr
      simp -implicitDefEqProofs only [b_lss, b_geq, e1, e2, r_nil, r_fAddr, Nat.zero_add, l0, hlen, r_opt, r_ret, ob_some, r_gdff, r_gdff2, r_gdtf, r_gdtf2, r_gdu, r_gdu2, pick_t, pick_f, iteV_true, oneOf_one]
    · have e2 : decide ((bss.length : Int) ≤ i) = false := decide_eq_false hr
      obtain ⟨j, rfl⟩ : ∃ j : Nat, i = j := ⟨i.toNat, by omega⟩
      have hj : bss[j]? = some bss[j] := List.getElem?_eq_getElem (by omega)
      obtain ⟨u, p, g1, g2, g3, g4, g5⟩ := h2.get hj .i64
      have ulen := g4.rd.len
      by_cases h5 : at_ < 0
      · have e3 : decide (at_ < 0) = true := decide_eq_true h5
        simp -implicitDefEqProofs only [b_lss, b_geq, e1, e2, e3, r_nil, r_fAddr, Nat.zero_add, l0, hlen, r_opt, r_ret, ob_some, r_gdff, r_gdff2, r_gdtf, r_gdtf2, r_gdu, r_gdu2, pick_t, pick_f, iteV_true, oneOf_one]
      · have e3 : decide (at_ < 0) = false := decide_eq_false h5
        by_cases hx : x = 0
        · have e4 : (((x.toNat : Nat) : Int) == 0) = true := by subst hx; rfl
          simp -implicitDefEqProofs only [b_lss, b_geq, b_eql, e1, e2, e3, e4, r_nil, r_fAddr, Nat.zero_add, l0, hlen, r_opt, r_ret, ob_some, r_gdff, r_gdff2, r_gdtf, r_gdtf2, r_gdu, r_gdu2, pick_t, pick_f, iteV_true, oneOf_one]
        · have e4 : (((x.toNat : Nat) : Int) == 0) = false := by
            have : x.toNat ≠ 0 := fun h0 => hx (by apply UInt8.toNat_inj.mp; exact h0)
            simp
            exact this
          have h6 : bss[j] = [] := by
            rcases hi with hi | hi | hi | hi | hi
            · exact absurd hi h0
            · exact absurd hi hr
            · exact absurd hi h5
            · exact absurd hi hx
            · rw [Int.toNat_natCast, hj] at hi
              exact Option.some.inj hi
          have e5 : ((bss[j].length : Int) == 0) = true := by rw [h6]; rfl
          simp -implicitDefEqProofs only [b_lss, b_geq, b_eql, e1, e2, e3, e4, e5, g1, g3 H rfl, ulen, r_nil, r_fAddr, Nat.zero_add, l0, hlen, r_opt, r_ret, ob_some, r_gdff, r_gdff2, r_gdtf, r_gdtf2, r_gdu, r_gdu2, pick_t, pick_f, iteV_true, oneOf_one]

theorem rbend_yes (h : RLink H a bss room F) (hm : 100 ≤ m) (i at_ : Nat) (x : UInt8) {bs : List UInt8} (hi : bss[i]? = some bs) (hx : x ≠ 0) (hb : bs ≠ []) :
    ∃ H', lvl Try.prog pk m (.func 26) [.pointer (some ⟨a, 0, none⟩), .int .i64 i, .int .i64 at_, .int .u8 x.toNat] H = some (.bool true, H') ∧ Fr F H H' ∧ RLink H' a (bss.set i (bent bs at_ x)) room (Up F H H') := by
  obtain ⟨v, G, h1, h2, h3, h4⟩ := h.ex
  have l0 := ldR0 v room h1
  have hlen := h2.len
  have hlt := (List.getElem?_eq_some_iff.mp hi).1
  have hpos : 0 < bs.length := List.length_pos_iff.mpr hb
  have hj : at_ % bs.length < bs.length := Nat.mod_lt _ hpos
  have hjx : bs[at_ % bs.length]? = some (bs.getD (at_ % bs.length) 0) := by
    rw [List.getD_eq_getElem?_getD, List.getElem?_eq_getElem hj]
    rfl
  obtain ⟨u, p, g1, g2, g3, g4, g5⟩ := h2.get hi .i64
  have ulen := g4.rd.len
  have hsm := h.small _ (List.mem_of_getElem? hi)
  obtain ⟨u', H1, c1, c2, c3, c4⟩ := rclone_ok g4.rd (by omega) (m := m - 1) (by omega)
  have ulen' := c3.rd.len
  obtain ⟨b', o', q1, q2⟩ := c3.rd.get hjx .i64
  obtain ⟨b, o, H2, s1, s2, s3, s4, s5, s6⟩ := c3.set hj .i64 (bs.getD (at_ % bs.length) 0 ^^^ x)
  rw [s1] at q1
  cases q1
  have hbl : H.length ≤ b' := c4 b' s5
  have ha := h.lt a h.at_
  have hc1 := c2.1
  have h12 : H2[a]? = some (.cells [v, .int .i64 room] 44 .fix) := by rw [s6 a (by omega), c2.2 a ha id, h1]
  have l2 := ldR0 v room h12
  have h22 : RowL H2 v bss G := h2.keep (fun c hc => by rw [s6 c (by have := h2.lt c hc; omega), c2.2 c (h2.lt c hc) id]) (by omega)
  obtain ⟨us, hr⟩ := h22
  obtain ⟨p', H3, t1, t2, t3, t4, t5, t6⟩ := RowI.put hr neRU (i := i) (by have := hr.len; omega) s3 (fun c hc hG => by have := c4 c hc; have := h2.lt c hG; omega) .i64
  rw [g1] at t1
  cases t1
  have e1 : decide ((i : Int) < 0) = false := decide_eq_false (by omega)
  have e2 : decide ((bss.length : Int) ≤ i) = false := decide_eq_false (by omega)
  have e3 : decide ((at_ : Int) < 0) = false := decide_eq_false (by omega)
  have e4 : (((x.toNat : Nat) : Int) == 0) = false := by
    have : x.toNat ≠ 0 := fun h0 => hx (by apply UInt8.toNat_inj.mp; exact h0)
    simp
    exact this
  have e5 : ((bs.length : Int) == 0) = false := by simp; exact hb
  have e6 : ((at_ : Int)).tmod bs.length = ((at_ % bs.length : Nat) : Int) := by rw [Int.tmod_eq_emod_of_nonneg (by omega)]; omega
  have r1 := b_rem (P := Try.prog) 3 .i64 (at_ : Int) bs.length (by omega)
  rw [e6] at r1
  have h13 : H3[a]? = some (.cells [v, .int .i64 room] 44 .fix) := by rw [t5.2 a (by omega) h3, h12]
  refine ⟨H3, lvl_at (flatPr_no rfl) (by omega) ?_, ⟨by omega, fun c hc hF => ?_⟩, ⟨⟨v, fun c => G c ∨ lies u' c, h13, ⟨_, t3⟩, ?_, fun c hc => ?_⟩, .inl h.at_, fun c hc => ?_, by simpa using h.few, fun y hy => ?_⟩⟩
  · rw [f26_eq]
    unfold f26
    have e7 := b_xor8 (P := Try.prog) 5 (bs.getD (at_ % bs.length) 0) x
    have e8 : Value.int .u8 x.toNat = byteV x := rfl
    have e9 : bin Try.prog .eql 5 (byteV x) (.int .u8 0) = some (.bool false) := by
      unfold byteV
      rw [b_eql, e4]
    simp -implicitDefEqProofs only [b_lss, b_geq, e8, e9, b_eql, e1, e2, e3, e5, g1, g3 H rfl, ulen, ulen', r_nil, r_fAddr, Nat.zero_add, l0, l2, hlen, r_opt, r_ret, ob_some, r_gdff, r_gdff2, pick_f, iteV_false, c1, r1, s1, q2, e7, s2, t2, oneOf_one]
  · rw [t5.2 c (by omega) (fun hG => hF (h4 c hG)), s6 c (by omega), c2.2 c hc id]
  · rintro (hx' | hx')
    · exact h3 hx'
    · have := c4 a hx'
      omega
  · rcases hc with hx' | hx'
    · exact .inl (h4 c hx')
    · exact .inr ⟨c4 c hx', t3.lt c (.inr hx')⟩
  · rcases hc with hx' | hx'
    · have := h.lt c hx'
      omega
    · exact hx'.2
  · rcases List.mem_or_eq_of_mem_set hy with hy | rfl
    · exact h.small y hy
    · unfold bent
      rw [List.length_set]
      exact hsm

end
end

end Go.Proofs.Ytcmmlgdbpnogjaa
