/-
  RINGS: contracts of Push, Pop.
-/
import Derived.Test.YtcmmlgdbpnogjaaAbsRg2
set_option linter.unusedSectionVars false
set_option linter.unusedSimpArgs false
set_option linter.unusedVariables false
set_option maxRecDepth 100000
namespace Go.Proofs.Ytcmmlgdbpnogjaa
open Go.Abs

/-- maps and rows of ints -/
def AQ (x : Blk) : Prop := match x with
  | .map _ _ => True
  | .dead => True
  | .cells _ e k => e = 3 ∧ k = .row
theorem AQ_AR (x : Blk) (h : AQ x) : AR x := by
  cases x with
  | map _ _ => trivial
  | dead => trivial
  | cells cs e k => exact .inr (.inr h)

theorem wayB (w : Way) (H : Heap) : stN 3 (.pointer (some ⟨H.length, 0, none⟩)) (wayV w) (H ++ [.cells [.int .i64 0, .int .i64 0, .int .i64 0] 82 .fix]) = some (undef, H ++ [.cells [.int .i64 w.1, .int .i64 w.2.1, .int .i64 w.2.2] 82 .fix]) := by
  have hc : (Value.cells (wayV w)).toList = [.int .i64 w.1, .int .i64 w.2.1, .int .i64 w.2.2] := rfl
  rw [x_stN 3 _ _ _ rfl, x_last, hc, x_stC _ _ _ _ _ _ (by decide) (by simp) rfl]
  simp [setCells]
theorem ld_way {H : Heap} {b : Nat} {w : Way} (h : H[b]? = some (.cells [.int .i64 w.1, .int .i64 w.2.1, .int .i64 w.2.2] 82 .fix)) : ldN 3 (.pointer (some ⟨b, 0, none⟩)) H = some (wayV w, H) := by
  rw [x_ldN, h, x_ldNC _ _ _ _ _ (by simp)]
  rfl

section
variable {H : Heap} {a n ports lanes m : Nat} {L : List En}

/-- behind a step of the pool: all that isn't the pool's own -/
theorem RI.pooled {H1 : Heap} {p s mb : Nat} {l : List Slot} {top free : Int} {fl : List Nat} {f : Way → Option Value} (hi : RI H a L n ports lanes p s mb l top free fl f) (hs : ∀ b, b < H.length → b ≠ p → b ≠ s → H1[b]? = H[b]?) :
    (∀ (b : Nat) (x : Blk), H[b]? = some x → (∀ cs, x ≠ .cells cs 94 .fix) → (∀ cs, x ≠ .cells cs 97 .row) → H1[b]? = some x) := by
  intro b x hx h1 h2
  have hlt := (List.getElem?_eq_some_iff.mp hx).1
  have hp : b ≠ p := fun hh => by
    subst hh
    rw [hi.pool.pool.hp] at hx
    cases hx
    exact h1 _ rfl
  have hss : b ≠ s := fun hh => by
    subst hh
    rw [hi.pool.pool.hs] at hx
    cases hx
    exact h2 _ rfl
  rw [hs b hlt hp hss, hx]

theorem rgPush_no (h : IsRings H a L n ports lanes) (hm : 100 < m) (w : Way) (x : Pkt) (hno : valid w ports lanes = false ∨ n ≤ L.length) :
    ∃ H', lvl Try.prog pk8 m (.func 33) [.pointer (some ⟨a, 0, none⟩), .int .i64 w.1, .int .i64 w.2.1, .int .i64 w.2.2, x.val] H = some (.bool false, H') ∧ Ext H H' := by
  obtain ⟨hw, hH⟩ : ∃ WB : Blk, WB = .cells [.int .i64 w.1, .int .i64 w.2.1, .int .i64 w.2.2] 82 .fix := ⟨_, rfl⟩
  have h2 := (h.app [pkB x]).app [hw]
  have hr := right_is h2 (m := m - 1) (by omega) w
  have hx : Blk.cells (Value.cells x.val).toList 50 .fix = pkB x := rfl
  have hb := bW w.1 w.2.1 w.2.2
  have hst := wayB w (H ++ [pkB x])
  rw [← hH] at hst hr
  have hld : ldN 3 (.pointer (some ⟨(H ++ [pkB x]).length, 0, none⟩)) (H ++ [pkB x] ++ [hw]) = some (wayV w, H ++ [pkB x] ++ [hw]) := ld_way (by rw [x_last, hH])
  cases hv : valid w ports lanes with
  | false =>
    rw [hv] at hr
    refine ⟨H ++ [pkB x] ++ [hw] ++ [hw], lvl_at (flatPr_no rfl) (by omega) ?_, by rw [List.append_assoc, List.append_assoc]; exact Fr.app _ _ _⟩
    rw [f33_eq]
    unfold f33
    simp -implicitDefEqProofs only [x_newB, hx, hb, hst, hld, hr, u_not, Bool.not_false, r_opt, ob_some, iteV_true, oneOf_one]
  | true =>
    have hcnt : n ≤ L.length := by
      rcases hno with hno | hno
      · rw [hv] at hno; cases hno
      · exact hno
    rw [hv] at hr
    obtain ⟨p, s, mb, l, top, free, fl, f, hi⟩ := h2.app [hw]
    have hfl : fl = [] := by
      have := hi.cnt
      exact List.length_eq_zero_iff.mp (by omega)
    subst hfl
    have hp := hi.pool.put0 (pr := pk8) (flatPr_no rfl) (m := m - 1) (by omega) x
    have l0 := hi.ld0
    have hldx : ldN 4 (.pointer (some ⟨H.length, 0, none⟩)) (H ++ [pkB x] ++ [hw] ++ [hw]) = some (x.val, H ++ [pkB x] ++ [hw] ++ [hw]) := ld_pkAt (by rw [List.append_assoc, List.append_assoc, List.getElem?_append_right (Nat.le_refl _)]; simp)
    refine ⟨H ++ [pkB x] ++ [hw] ++ [hw] ++ [pkB x], lvl_at (flatPr_no rfl) (by omega) ?_, by rw [List.append_assoc, List.append_assoc, List.append_assoc]; exact Fr.app _ _ _⟩
    rw [f33_eq]
    unfold f33
    simp -implicitDefEqProofs only [x_newB, hx, hb, hst, hld, hr, u_not, Bool.not_true, r_opt, ob_some, ifB_true, iteV_false, r_nil, r_fAddr, Nat.zero_add, l0, hldx, hp, ext_0, ext_1, oneOf_one]

theorem rgPush_yes (h : IsRings H a L n ports lanes) (hm : 100 < m) (w : Way) (x : Pkt) (hv : valid w ports lanes = true) (hn : L.length < n) :
    ∃ H' k, lvl Try.prog pk8 m (.func 33) [.pointer (some ⟨a, 0, none⟩), .int .i64 w.1, .int .i64 w.2.1, .int .i64 w.2.2, x.val] H = some (.bool true, H') ∧ Ch AR H H' ∧ IsRings H' a (L ++ [(w, k, x)]) n ports lanes := by
  obtain ⟨hw, hH⟩ : ∃ WB : Blk, WB = .cells [.int .i64 w.1, .int .i64 w.2.1, .int .i64 w.2.2] 82 .fix := ⟨_, rfl⟩
  have h2 := (h.app [pkB x]).app [hw]
  have hr := right_is h2 (m := m - 1) (by omega) w
  have hx : Blk.cells (Value.cells x.val).toList 50 .fix = pkB x := rfl
  have hb := bW w.1 w.2.1 w.2.2
  have hst := wayB w (H ++ [pkB x])
  rw [← hH] at hst hr
  have hld : ldN 3 (.pointer (some ⟨(H ++ [pkB x]).length, 0, none⟩)) (H ++ [pkB x] ++ [hw]) = some (wayV w, H ++ [pkB x] ++ [hw]) := ld_way (by rw [x_last, hH])
  rw [hv] at hr
  obtain ⟨H0, hH0⟩ : ∃ H0, H0 = H ++ [pkB x] ++ [hw] ++ [hw] := ⟨_, rfl⟩
  have hc0 : Ch AR H H0 := by rw [hH0, List.append_assoc, List.append_assoc]; exact Ch.app _ _ _
  have h3 := h2.app [hw]
  rw [← hH0] at h3 hr
  obtain ⟨p, s, mb, l, top, free, fl, f, hi⟩ := h3
  have hWat : H0[(H ++ [pkB x]).length]? = some hw := by rw [hH0, List.getElem?_append_left (by simp), List.getElem?_append_right (Nat.le_refl _)]; simp
  obtain ⟨k, ks, rfl⟩ : ∃ k ks, fl = k :: ks := by
    cases fl with
    | nil => have := hi.cnt; simp at this; omega
    | cons k ks => exact ⟨k, ks, rfl⟩
  obtain ⟨H1, q, d, hp, hM1, hkl, hlen1, hsame⟩ := hi.pool.put (pr := pk8) (flatPr_no rfl) (m := m - 1) (by omega) x
  have keep1 := hi.pooled hsame
  have l0 := hi.ld0
  have hldx : ldN 4 (.pointer (some ⟨H.length, 0, none⟩)) H0 = some (x.val, H0) := ld_pkAt (by rw [hH0, List.append_assoc, List.append_assoc, List.getElem?_append_right (Nat.le_refl _)]; simp)
  have hd1 := keep1 _ _ hi.hd (fun cs hh => by cases hh) (fun cs hh => by cases hh)
  have l1 : ld1 (.pointer (some ⟨a, 1, none⟩)) H1 = some (.map (some mb), H1) := by rw [x_ld1, hd1]; rfl
  have hW1 : H1[(H ++ [pkB x]).length]? = some hw := keep1 _ _ hWat (fun cs hh => by rw [hH] at hh; cases hh) (fun cs hh => by rw [hH] at hh; cases hh)
  have hld1 : ldN 3 (.pointer (some ⟨(H ++ [pkB x]).length, 0, none⟩)) H1 = some (wayV w, H1) := ld_way (by rw [hW1, hH])
  have hm1 : IsMap wayV H1 mb f := by
    obtain ⟨es, c, e1, e2⟩ := hi.mp
    exact ⟨es, c, keep1 _ _ e1 (fun cs hh => by cases hh) (fun cs hh => by cases hh), e2⟩
  have hq1 : ∀ w' v, f w' = some v → RowO 3 H1 v ((qOf L w').map intV) := fun w' v hf => by
    have := (hi.yes w' v hf).1
    refine this.keep fun b hb => ?_
    obtain ⟨xs, hxs⟩ := this.blk hb
    rw [hxs, keep1 _ _ hxs (fun cs hh => by cases hh) (fun cs hh => by cases hh)]
  have hc1 : Ch AR H0 H1 := ⟨hlen1, fun b y hy hn' => keep1 b y hy (fun cs hh => hn' (by rw [hh]; exact .inl ⟨rfl, rfl⟩)) (fun cs hh => hn' (by rw [hh]; exact .inr (.inl ⟨rfl, rfl⟩)))⟩
  -- the slot's number, in a row of its own
  obtain ⟨H2, hH2⟩ : ∃ H2, H2 = H1 ++ [Blk.cells [intV k] 3 .row] := ⟨_, rfl⟩
  have hbi : bldSlice 3 1 1 [.int .i64 0] [(0, .int .i64 (k : Nat))] H1 = some (.slice (some ⟨H1.length, 0, none⟩) 1 1, H2) := by rw [hH2]; exact bldI H1 k
  have hm2 : IsMap wayV H2 mb f := hm1.keep (by
    obtain ⟨es, c, e1, e2⟩ := hm1
    rw [hH2, List.getElem?_append_left (List.getElem?_eq_some_iff.mp e1).1])
  obtain ⟨born, X, hent, ⟨xe, xc, hX⟩, hstore⟩ := hm2.entry keyW w (.slice none 0 0)
  obtain ⟨H3, hH3⟩ : ∃ H3, H3 = H2.set mb X := ⟨_, rfl⟩
  rw [← hH3] at hent
  have hmblk : ∃ es c, H2[mb]? = some (.map es c) := by
    obtain ⟨es, c, e1, e2⟩ := hm2
    exact ⟨_, _, e1⟩
  have hmlt : mb < H2.length := by
    obtain ⟨es, c, e1⟩ := hmblk
    exact (List.getElem?_eq_some_iff.mp e1).1
  have hlen2 : H2.length = H1.length + 1 := by rw [hH2]; simp
  have hlen3 : H3.length = H1.length + 1 := by rw [hH3]; simp [hlen2]
  -- cells of H1 in H3
  have k13 : ∀ (b : Nat) (cs : List Value) (e : TypeId) (kk : Kind), H1[b]? = some (.cells cs e kk) → H3[b]? = some (.cells cs e kk) := by
    intro b cs e kk hb
    have hlt := (List.getElem?_eq_some_iff.mp hb).1
    have hb2 : H2[b]? = some (.cells cs e kk) := by rw [hH2, List.getElem?_append_left hlt, hb]
    have hne : b ≠ mb := fun hh => by
      subst hh
      obtain ⟨es, c, e1⟩ := hmblk
      rw [hb2] at e1
      cases e1
    rw [hH3, get_set_ne hne, hb2]
  have hX3 : H3[mb]? = some X := by rw [hH3, List.getElem?_set_self hmlt]
  have hsrcb : H3[H1.length]? = some (.cells [intV k] 3 .row) := by
    have hb2 : H2[H1.length]? = some (.cells [intV k] 3 .row) := by rw [hH2]; simp
    have hne : H1.length ≠ mb := fun hh => by
      obtain ⟨es, c, e1⟩ := hmblk
      rw [← hh, hb2] at e1
      cases e1
    rw [hH3, get_set_ne hne, hb2]
  have hsl : srcLen (.slice (some ⟨H1.length, 0, none⟩) 1 1) = some 1 := rfl
  have hsc : srcCells 1 (.slice (some ⟨H1.length, 0, none⟩) 1 1) 1 H3 = some [intV k] := by simp [srcCells, hsrcb]
  have hall : allCells [intV k] = true := rfl
  have hqlen : (qOf L w).length ≤ 200 := by
    have h1 : (qOf L w).length ≤ L.length := by simp [qOf, List.length_filter_le]
    have := hi.cnt
    have := hi.b1
    omega
  -- the queue grows
  obtain ⟨v', H4, happ, hrow, hl4, hsame4, hhome, hnew⟩ : ∃ v' H4, app 3 1 8 ((f w).getD (.slice none 0 0)) (.slice (some ⟨H1.length, 0, none⟩) 1 1) H3 = some (v', H4) ∧ RowO 3 H4 v' ((qOf L w).map intV ++ [intV k]) ∧ H3.length ≤ H4.length ∧
      (∀ b, b < H3.length → ¬ (∃ v, f w = some v ∧ home v b) → H4[b]? = H3[b]?) ∧ (∀ b, home v' b → (∃ v, f w = some v ∧ home v b) ∨ (H3.length ≤ b ∧ b < H4.length)) ∧ True := by
    cases hf : f w with
    | none =>
      obtain ⟨g1, g2⟩ := push_nil (e := 3) (H := H3) (by' := 8) hsl hsc (by decide)
      refine ⟨_, _, g1, by rw [hi.no w hf]; exact g2, by simp, fun b hb _ => List.getElem?_append_left hb, ?_, trivial⟩
      rintro b ⟨oo, nn, cc, hh⟩
      cases hh
      exact .inr ⟨Nat.le_refl _, by simp⟩
    | some v =>
      have hr3 : RowO 3 H3 v ((qOf L w).map intV) := (hq1 w v hf).keep fun b hb => by
        obtain ⟨xs, hxs⟩ := (hq1 w v hf).blk hb
        rw [hxs, k13 _ _ _ _ hxs]
      obtain ⟨v', H4, g1, g2, g3, g4, g5, g6⟩ := hr3.push (by' := 8) hsl hsc (by simp [roomy]; omega) hall
      exact ⟨v', H4, g1, g2, g3, fun b hb hn => g4 b hb fun hh => hn ⟨v, rfl, hh⟩, fun b hb => (g5 b hb).imp (fun hh => ⟨v, rfl, hh⟩) id, trivial⟩
  have hnomb : ¬ ∃ v, f w = some v ∧ home v mb := by
    rintro ⟨v, hf, hh⟩
    obtain ⟨xs, hxs⟩ := (hq1 w v hf).blk hh
    obtain ⟨es, c, e1, e2⟩ := hm1
    rw [hxs] at e1
    cases e1
  have hX4 : H4[mb]? = some X := by rw [hsame4 mb (by omega) hnomb, hX3]
  obtain ⟨X', hset, hm5, ⟨ye, yc, hX'⟩⟩ := hstore H4 v' hX4
  -- what is not a map nor a row of ints stays from H1 on
  have k15 : ∀ (b : Nat) (cs : List Value) (e : TypeId) (kk : Kind), H1[b]? = some (.cells cs e kk) → (∀ v, f w = some v → ¬ home v b) → (H4.set mb X')[b]? = some (.cells cs e kk) := by
    intro b cs e kk hb hh
    have hlt := (List.getElem?_eq_some_iff.mp hb).1
    have h3 := k13 b cs e kk hb
    have hne : b ≠ mb := fun hx => by
      subst hx
      rw [hX3, hX] at h3
      cases h3
    rw [get_set_ne hne, hsame4 b (by omega) (fun ⟨v, hf, hv⟩ => hh v hf hv), h3]
  have k15' : ∀ (b : Nat) (cs : List Value) (e : TypeId) (kk : Kind), H1[b]? = some (.cells cs e kk) → ¬ (e = 3 ∧ kk = .row) → (H4.set mb X')[b]? = some (.cells cs e kk) := fun b cs e kk hb hne => k15 b cs e kk hb fun v hf hh => by
    obtain ⟨xs, hxs⟩ := (hq1 w v hf).blk hh
    rw [hb] at hxs
    cases hxs
    exact hne ⟨rfl, rfl⟩
  refine ⟨H4.set mb X', k, lvl_at (flatPr_no rfl) (by omega) ?_, ?_, ⟨p, s, mb, l.set k (some (q, x), d), d, free - 1, ks, upd f w (some v'), ?_⟩⟩
  · rw [f33_eq]
    unfold f33
    simp -implicitDefEqProofs only [x_newB, hx, hb, hst, hld, hr, u_not, Bool.not_true, r_opt, ob_some, ifB_true, iteV_false, iteV_true, r_nil, r_fAddr, Nat.zero_add, l0, hldx, hp, ext_0, ext_1, l1, hld1, hbi, hent, happ, hset, oneOf_one]
  · refine (hc0.trans hc1).trans ⟨by simp; omega, fun b y hy hn' => ?_⟩
    cases y with
    | map es c => exact absurd trivial hn'
    | dead => exact absurd trivial hn'
    | cells cs e kk => exact k15' b cs e kk hy fun hh => hn' (.inr (.inr hh))
  · refine ⟨k15' _ _ _ _ hd1 (by rintro ⟨hh, _⟩; revert hh; decide), hM1.keepT fun b cs e kk hb hh => k15' b cs e kk hb (by
      rintro ⟨h1, h2⟩
      subst h1 h2
      rcases hh with ⟨h1, _⟩ | ⟨h1, _⟩ | ⟨h1, _⟩ <;> revert h1 <;> decide), by simp [hi.len], by have := hi.cnt; simp at this ⊢; omega, ?_, ?_, hm5, ?_, ?_, ?_, hi.b1, hi.b2⟩
    · rw [List.map_append, List.nodup_append]
      refine ⟨hi.nd, by simp, fun y hy z hz hyz => ?_⟩
      simp at hz
      obtain ⟨e, he, rfl⟩ := List.mem_map.mp hy
      obtain ⟨q', d', hs⟩ := hi.full e he
      obtain ⟨d'', hf⟩ := (hi.pool.full k).mp (by simp)
      rw [hyz, hz, hf] at hs
      cases hs
    · intro e he
      rcases List.mem_append.mp he with he | he
      · obtain ⟨q', d', hs⟩ := hi.full e he
        have hne : k ≠ e.2.1 := fun hh => by
          obtain ⟨d'', hf⟩ := (hi.pool.full k).mp (by simp)
          rw [hh, hs] at hf
          cases hf
        exact ⟨q', d', by rw [List.getElem?_set_ne hne, hs]⟩
      · rw [List.mem_singleton] at he
        subst he
        exact ⟨q, d, List.getElem?_set_self hkl⟩
    · intro w' hw'
      unfold upd at hw'
      by_cases hww : w' = w
      · rw [if_pos hww] at hw'
        cases hw'
      · rw [if_neg hww] at hw'
        rw [q_app, if_neg (fun hh => hww hh.symm)]
        exact hi.no w' hw'
    · intro w' v hw'
      unfold upd at hw'
      by_cases hww : w' = w
      · rw [if_pos hww] at hw'
        cases hw'
        subst hww
        rw [q_app, if_pos rfl]
        refine ⟨?_, by simp⟩
        rw [List.map_append]
        refine hrow.keep fun b hb => get_set_ne fun hh => ?_
        subst hh
        obtain ⟨xs, hxs⟩ := hrow.blk hb
        rw [hX4, hX] at hxs
        cases hxs
      · rw [if_neg hww] at hw'
        rw [q_app, if_neg (fun hh => hww hh.symm)]
        refine ⟨(hq1 w' v hw').keep fun b hb => ?_, (hi.yes w' v hw').2⟩
        obtain ⟨xs, hxs⟩ := (hq1 w' v hw').blk hb
        rw [hxs, k15 b _ _ _ hxs fun v2 hf2 hh => hi.sep w' w v v2 b hw' hf2 hww hb hh]
    · intro w1 w2 v1 v2 b hf1 hf2 hne hh1 hh2
      have old : ∀ w' v, f w' = some v → home v b → b < H1.length := fun w' v hf hh => by
        obtain ⟨xs, hxs⟩ := (hq1 w' v hf).blk hh
        exact (List.getElem?_eq_some_iff.mp hxs).1
      unfold upd at hf1 hf2
      by_cases e1 : w1 = w
      · rw [if_pos e1] at hf1
        cases hf1
        rw [if_neg (fun hh => hne (e1.trans hh.symm))] at hf2
        rcases hhome b hh1 with ⟨v, hf, hh⟩ | hh
        · exact hi.sep w w2 v v2 b hf hf2 (by rw [← e1]; exact hne) hh hh2
        · have := old w2 v2 hf2 hh2
          omega
      · rw [if_neg e1] at hf1
        by_cases e2 : w2 = w
        · rw [if_pos e2] at hf2
          cases hf2
          rcases hhome b hh2 with ⟨v, hf, hh⟩ | hh
          · exact hi.sep w1 w v1 v b hf1 hf e1 hh1 hh
          · have := old w1 v1 hf1 hh1
            omega
        · rw [if_neg e2] at hf2
          exact hi.sep w1 w2 v1 v2 b hf1 hf2 hne hh1 hh2

end

end Go.Proofs.Ytcmmlgdbpnogjaa
