/-
  LINKS: contracts.
-/
import Derived.Test.YtcmmlgdbpnogjaaAbsLink
import Derived.Test.YtcmmlgdbpnogjaaAbsByteRow
import Derived.Test.YtcmmlgdbpnogjaaAbsSimp
import Derived.Test.YtcmmlgdbpnogjaaAbsRow
set_option linter.unusedSimpArgs false
set_option linter.unusedVariables false
set_option maxRecDepth 100000
namespace Go.Proofs.Ytcmmlgdbpnogjaa
open Go.Abs

theorem eBn (a : Addr) (n c : Nat) : bin Try.prog .eql 29 (.slice (some a) n c) (.slice none 0 0) = some (.bool false) := by
  have h : Try.prog.underlying 29 = some (.slice 5) := by kernel_rfl
  simp [bin, flat, eqAny, nilKind, h, eqV]
theorem eBn0 : bin Try.prog .eql 29 (.slice none 0 0) (.slice none 0 0) = some (.bool true) := by
  have h : Try.prog.underlying 29 = some (.slice 5) := by kernel_rfl
  simp [bin, flat, eqAny, nilKind, h, eqV]
theorem cB (v : Value) (bs : List UInt8) {H : Heap} (h : Br H v bs) : conv Try.prog 29 9 v H = some (.string ⟨bs.toArray⟩, H) := by
  have h1 : Try.prog.underlying 29 = some (.slice 5) := by kernel_rfl
  have h2 : Try.prog.underlying 9 = some .string := by kernel_rfl
  have h3 : Try.prog.underlying 5 = some (.int .u8) := by kernel_rfl
  have := h.str
  rcases h.isSl with rfl | ⟨b, o, n, c, rfl⟩ <;> simp [conv, h1, h2, h3, this]
theorem bL (n : Int) : bld Try.prog 72 [(1, .int .i64 n)] = some (.agg #[.slice none 0 0, .int .i64 n]) := rfl
theorem eL (a : Addr) : bin Try.prog .eql 25 (.pointer (some a)) (.pointer none) = some (.bool false) := x_eqNil 25 72 (by kernel_rfl) a
theorem eL0 : bin Try.prog .eql 25 (.pointer none) (.pointer none) = some (.bool true) := x_eqNil0 25 72 (by kernel_rfl)
theorem szRow : Try.prog.cellsOf 29 = 1 := by kernel_rfl
theorem neRU : 29 ≠ 5 := by decide

abbrev RowL := Row 29 5

section
variable {pr : Prims} {H : Heap} {m : Nat}

theorem roomyB {n : Nat} (h : n ≤ 1000000) : roomy n 1 = true := by simp [roomy]; omega
theorem roomyR {n : Nat} (h : n ≤ 1000000) : roomy n 24 = true := by simp [roomy]; omega

theorem clone_ok (hn : pr (.func 42) = none) {u : Value} {bs : List UInt8} (h : Br H u bs) (hl : bs.length ≤ 1000000) (hm : 0 < m) :
    ∃ u' H', lvl Try.prog pr m (.func 42) [u] H = some (u', H') ∧ Ext H H' ∧ Bo 5 H' u' bs ∧ ∀ b, lies u' b → H.length ≤ b := by
  rcases h.isSl with rfl | ⟨b, o, n, c, rfl⟩
  · have hb : bs = [] := by
      rcases h with ⟨h, _⟩ | ⟨_, _, _, _, _, _, h, _⟩
      · exact h
      · cases h
    refine ⟨.slice none 0 0, H, lvl_at hn hm ?_, Fr.refl _ _, .inl ⟨hb, .inl rfl⟩, fun b hl => ?_⟩
    · rw [f42_eq]
      unfold f42
      simp -implicitDefEqProofs only [eBn0, r_opt, ob_some, iteV_true, oneOf_one]
    · obtain ⟨o, n, c, hv⟩ := hl
      cases hv
  · have g0 : bldSlice 5 1 0 [.int .u8 0] [] H = some (.slice (some ⟨H.length, 0, none⟩) 0 0, H ++ [.cells [] 5 .row]) := rfl
    have hold : ∀ b, b < H.length → (H ++ [Blk.cells [] 5 .row])[b]? = H[b]? := fun b hb => List.getElem?_append_left hb
    have hbr : Br (H ++ [Blk.cells [] 5 .row]) (.slice (some ⟨b, o, none⟩) n c) bs := by
      rcases h with h | ⟨b', o', c', cs, e, k, h1, h2, h3, h4⟩
      · exact .inl h
      · exact .inr ⟨b', o', c', cs, e, k, h1, h2, by rw [hold _ (List.getElem?_eq_some_iff.mp h3).1, h3], h4⟩
    obtain ⟨v', H', g1, g2, g3, g4, g5⟩ := app_row (by' := 1) (v := .slice (some ⟨H.length, 0, none⟩) 0 0) (n := 0) (cs := []) (e := 5) (sz := 1) (H := H ++ [Blk.cells [] 5 .row])
      ⟨rfl, .inr ⟨H.length, 0, [], rfl, Nat.le_refl _, rfl, by simp⟩⟩ hbr.srcLen hbr.src (by rw [Nat.zero_add]; exact roomyB hl) (all_bytes bs) (by decide)
    simp only [List.length_append, List.length_cons, List.length_nil] at g3 g4 g5
    refine ⟨v', H', lvl_at hn hm ?_, ⟨by omega, fun b hb _ => ?_⟩, Bo.of_row (by simpa using g2), fun b hl => ?_⟩
    · rw [f42_eq]
      unfold f42
      simp -implicitDefEqProofs only [eBn, r_opt, ob_some, iteV_false, oneOf_one, g0, g1]
    · rw [g4 b (by omega) (fun ⟨o, n, c, hh⟩ => by cases hh; omega), hold b hb]
    · obtain ⟨o, n, c, hv⟩ := hl
      rcases g5 b ⟨o, _, c, hv⟩ with ⟨o, n, c, hh⟩ | hh
      · cases hh
        exact Nat.le_refl _
      · omega

/-- a link: what is on its way; its blocks are in F -/
structure IsLink (H : Heap) (a : Nat) (bss : List (List UInt8)) (room : Nat) (F : Nat → Prop) : Prop where
  ex : ∃ v G, H[a]? = some (.cells [v, .int .i64 room] 72 .fix) ∧ RowL H v bss G ∧ ¬ G a ∧ ∀ b, G b → F b
  at_ : F a
  lt : ∀ b, F b → b < H.length
  few : bss.length ≤ room ∧ room ≤ 64
  small : ∀ bs ∈ bss, bs.length ≤ 100000

theorem IsLink.keep {H' : Heap} {a : Nat} {bss : List (List UInt8)} {room : Nat} {F : Nat → Prop} (h : IsLink H a bss room F) (hk : ∀ b, F b → H'[b]? = H[b]?) (hl : H.length ≤ H'.length) : IsLink H' a bss room F := by
  obtain ⟨v, G, h1, h2, h3, h4⟩ := h.ex
  exact ⟨⟨v, G, by rw [hk a h.at_, h1], h2.keep (fun b hb => hk b (h4 b hb)) hl, h3, h4⟩, h.at_, fun b hb => Nat.lt_of_lt_of_le (h.lt b hb) hl, h.few, h.small⟩

theorem IsLink.weak {a : Nat} {bss : List (List UInt8)} {room : Nat} {F F' : Nat → Prop} (h : IsLink H a bss room F) (hF : ∀ b, F b → F' b) (hl : ∀ b, F' b → b < H.length) : IsLink H a bss room F' := by
  obtain ⟨v, G, h1, h2, h3, h4⟩ := h.ex
  exact ⟨⟨v, G, h1, h2, h3, fun b hb => hF b (h4 b hb)⟩, hF a h.at_, hl, h.few, h.small⟩

theorem lnew_no (hn : pr (.func 17) = none) (hm : 0 < m) (n : Int) (h : n < 1 ∨ 64 < n) : lvl Try.prog pr m (.func 17) [.int .i64 n] H = some (.pointer none, H) := by
  refine lvl_at hn hm ?_
  rw [f17_eq]
  unfold f17
  by_cases h1 : n < 1
  · have e1 : decide (n < 1) = true := decide_eq_true h1
    simp -implicitDefEqProofs only [b_lss, e1, r_opt, r_ret, ob_some, r_gdtf, r_gdtf2, pick_t, iteV_true, oneOf_one]
  · have e1 : decide (n < 1) = false := decide_eq_false h1
    have e2 : decide (64 < n) = true := decide_eq_true (by omega)
    simp -implicitDefEqProofs only [b_lss, b_gtr, e1, e2, r_opt, r_ret, ob_some, r_gdff, r_gdff2, pick_f, iteV_true, oneOf_one]

theorem lnew_ok (hn : pr (.func 17) = none) (hm : 0 < m) (n : Nat) (h : 1 ≤ n ∧ n ≤ 64) : ∃ H', lvl Try.prog pr m (.func 17) [.int .i64 n] H = some (.pointer (some ⟨H.length, 0, none⟩), H') ∧ Ext H H' ∧ IsLink H' H.length [] n (Nw H H') := by
  have e1 : decide ((n : Int) < 1) = false := decide_eq_false (by omega)
  have e2 : decide (64 < (n : Int)) = false := decide_eq_false (by omega)
  refine ⟨H ++ [.cells [.slice none 0 0, .int .i64 n] 72 .fix], lvl_at hn hm ?_, Fr.app _ _ _, ⟨⟨.slice none 0 0, fun _ => False, by simp, Row.nil.mpr (fun b hb => hb.elim), id, fun b hb => hb.elim⟩, ⟨Nat.le_refl _, by simp⟩, fun b hb => hb.2, ⟨by simp, h.2⟩, by simp⟩⟩
  rw [f17_eq]
  unfold f17
  simp -implicitDefEqProofs only [b_lss, b_gtr, e1, e2, r_opt, r_ret, ob_some, r_gdff, r_gdff2, pick_f, iteV_false, bL, x_newB, oneOf_one]
  rfl

theorem ldL0 (hv : Value) (room : Nat) {a : Nat} (h : H[a]? = some (.cells [hv, .int .i64 room] 72 .fix)) : ld1 (.pointer (some ⟨a, 0, none⟩)) H = some (hv, H) := by rw [x_ld1, h]; rfl
theorem ldL1 (hv : Value) (room : Nat) {a : Nat} (h : H[a]? = some (.cells [hv, .int .i64 room] 72 .fix)) : ld1 (.pointer (some ⟨a, 1, none⟩)) H = some (.int .i64 room, H) := by rw [x_ld1, h]; rfl

section
variable {a room : Nat} {bss : List (List UInt8)} {F : Nat → Prop}

theorem lat_no (hn : pr (.func 43) = none) (h : IsLink H a bss room F) (hm : 0 < m) (i : Int) (hi : i < 0 ∨ (bss.length : Int) ≤ i) :
    lvl Try.prog pr m (.func 43) [.pointer (some ⟨a, 0, none⟩), .int .i64 i] H = some (.tuple #[.slice none 0 0, .bool false], H) := by
  obtain ⟨v, G, h1, h2, h3, h4⟩ := h.ex
  have l0 := ldL0 v room h1
  have hl := h2.len
  refine lvl_at hn hm ?_
  rw [f43_eq]
  unfold f43
  by_cases h0 : i < 0
  · have e1 : decide (i < 0) = true := decide_eq_true h0
    simp -implicitDefEqProofs only [b_lss, e1, r_opt, r_ret, ob_some, r_gdtf, r_gdtf2, r_gdu, r_gdu2, pick_t, iteV_true, oneOf_two]
  · have e1 : decide (i < 0) = false := decide_eq_false h0
    have e2 : decide ((bss.length : Int) ≤ i) = true := decide_eq_true (by omega)
    simp -implicitDefEqProofs only [b_lss, b_geq, e1, e2, r_nil, r_fAddr, Nat.zero_add, l0, hl, r_opt, r_ret, ob_some, r_gdff, r_gdff2, pick_f, iteV_true, oneOf_two]

theorem lat_yes (hn : pr (.func 43) = none) (h : IsLink H a bss room F) (hm : 0 < m) (i : Nat) {bs : List UInt8} (hi : bss[i]? = some bs) :
    ∃ u, lvl Try.prog pr m (.func 43) [.pointer (some ⟨a, 0, none⟩), .int .i64 i] H = some (.tuple #[u, .bool true], H) ∧ Bo 5 H u bs ∧ ∀ b, lies u b → F b := by
  obtain ⟨v, G, h1, h2, h3, h4⟩ := h.ex
  have l0 := ldL0 v room h1
  have hl := h2.len
  have hlt := (List.getElem?_eq_some_iff.mp hi).1
  obtain ⟨u, p, g1, g2, g3, g4, g5⟩ := h2.get hi .i64
  have g6 := fun b hb => h4 b (g5 b hb)
  have e1 : decide ((i : Int) < 0) = false := decide_eq_false (by omega)
  have e2 : decide ((bss.length : Int) ≤ i) = false := decide_eq_false (by omega)
  refine ⟨u, lvl_at hn hm ?_, g4, g6⟩
  rw [f43_eq]
  unfold f43
  simp -implicitDefEqProofs only [b_lss, b_geq, e1, e2, r_nil, r_fAddr, Nat.zero_add, l0, hl, r_opt, r_ret, ob_some, r_gdff, r_gdff2, pick_f, iteV_false, oneOf_two, g1, g3 H rfl]

/-- what a row is behind a send -/
def sent (room : Nat) (bss : List (List UInt8)) (bs : List UInt8) : List (List UInt8) := if bss.length = room then bss else bss ++ [bs]

theorem lsend_ok (hn : pr (.func 19) = none) (hc : pr (.func 42) = none) (h : IsLink H a bss room F) (hm : 100 ≤ m) {u : Value} {bs : List UInt8} (hb : Br H u bs) (hl : bs.length ≤ 100000) :
    ∃ H', lvl Try.prog pr m (.func 19) [.pointer (some ⟨a, 0, none⟩), u] H = some (.bool (decide (bss.length < room)), H') ∧ Fr F H H' ∧ IsLink H' a (sent room bss bs) room (Up F H H') := by
  obtain ⟨v, G, h1, h2, h3, h4⟩ := h.ex
  have l0 := ldL0 v room h1
  have l1 := ldL1 v room h1
  have hlen := h2.len
  by_cases hf : bss.length = room
  · have e1 : ((bss.length : Int) == (room : Int)) = true := by simp [hf]
    refine ⟨H, lvl_at hn (by omega) ?_, Fr.refl _ _, ?_⟩
    · rw [f19_eq]
      unfold f19
      have e2 : decide (bss.length < room) = false := decide_eq_false (by omega)
      simp -implicitDefEqProofs only [r_nil, r_fAddr, Nat.zero_add, l0, l1, hlen, b_eql, e1, e2, r_opt, ob_some, ifB_true, iteV_true, oneOf_one]
    · unfold sent
      rw [if_pos hf]
      exact h.weak (fun b hb => .inl hb) fun b hb => hb.elim (h.lt b) fun hx => hx.2
  · have hlt : bss.length < room := by
      have := h.few.1
      omega
    have e1 : ((bss.length : Int) == (room : Int)) = false := by simp; omega
    have e2 : decide (bss.length < room) = true := decide_eq_true hlt
    obtain ⟨u', H1, c1, c2, c3, c4⟩ := clone_ok hc hb (by omega) (m := m - 1) (by omega)
    have ha := h.lt a h.at_
    have h1' : H1[a]? = some (.cells [v, .int .i64 room] 72 .fix) := by rw [c2.2 a ha id, h1]
    have h2' : RowL H1 v bss G := h2.keep (fun b hb => c2.2 b (h2.lt b hb) id) c2.1
    have l0' := ldL0 v room h1'
    have hck : chk (ld1 (.pointer (some ⟨a, 0, none⟩)) H1) v = true := by
      rw [l0']
      obtain ⟨us, hi⟩ := h2'
      obtain ⟨_, ⟨rfl, _⟩ | ⟨c, cap, rest, rfl, _⟩⟩ := hi.row <;> simp [chk, veq]
    obtain ⟨w, H2, v', H3, g1, g2, g3, g4, g5⟩ := h2'.push neRU c3 (fun b hl hF => by have := c4 b hl; have := h2.lt b hF; omega) (by' := 24) (roomyR (by have := h.few; omega)) (.slice none 0 0)
    have hH3 : H3[a]? = some (.cells [v, .int .i64 room] 72 .fix) := by rw [g5.2 a (by have := c2.1; omega) h3, h1']
    have hlt3 := (List.getElem?_eq_some_iff.mp hH3).1
    have hst : stN 1 (.pointer (some ⟨a, 0, none⟩)) v' H3 = some (undef, H3.set a (.cells [v', .int .i64 room] 72 .fix)) := by
      obtain ⟨us, hi⟩ := g4
      obtain ⟨_, ⟨rfl, _⟩ | ⟨c, cap, rest, rfl, _⟩⟩ := hi.row <;> rw [x_stN 1 a 0 _ rfl, hH3] <;> rfl
    refine ⟨H3.set a (.cells [v', .int .i64 room] 72 .fix), lvl_at hn (by omega) ?_, ⟨by have := c2.1; have := g5.1; simp; omega, fun b hb hF => ?_⟩, ?_⟩
    · rw [f19_eq]
      unfold f19
      simp -implicitDefEqProofs only [r_nil, r_fAddr, Nat.zero_add, l0, l1, hlen, b_eql, e1, e2, r_opt, ob_some, ifB_true, iteV_false, oneOf_one, c1, hck, Bool.and_true, g1, g3, hst]
    · rw [get_set_ne (fun hx => hF (by rw [hx]; exact h.at_)), g5.2 b (by have := c2.1; omega) (fun hx => hF (h4 b hx)), c2.2 b hb id]
    · unfold sent
      rw [if_neg hf]
      have hna : ¬ Up (fun b => G b ∨ lies u' b) H1 H3 a := by
        rintro ((hx | hx) | hx)
        · exact h3 hx
        · have := c4 a hx
          omega
        · have := c2.1
          omega
      refine ⟨⟨v', Up (fun b => G b ∨ lies u' b) H1 H3, by rw [List.getElem?_set_self hlt3], g4.keep (fun b hb => get_set_ne fun hx => hna (by rw [← hx]; exact hb)) (by simp), hna, fun b hb => ?_⟩, .inl h.at_, fun b hb => ?_, ⟨by simp; omega, h.few.2⟩, ?_⟩
      · rcases hb with (hx | hx) | hx
        · exact .inl (h4 b hx)
        · exact .inr ⟨c4 b hx, by have := g4.lt b (.inl (.inr hx)); simpa using this⟩
        · exact .inr ⟨by have := c2.1; omega, by simpa using hx.2⟩
      · rcases hb with hb | hb
        · have := h.lt b hb
          have := c2.1
          have := g5.1
          simp
          omega
        · exact hb.2
      · intro x hx
        rcases List.mem_append.mp hx with hx | hx
        · exact h.small x hx
        · rw [List.mem_singleton] at hx
          subst hx
          exact hl

end
end

end Go.Proofs.Ytcmmlgdbpnogjaa
