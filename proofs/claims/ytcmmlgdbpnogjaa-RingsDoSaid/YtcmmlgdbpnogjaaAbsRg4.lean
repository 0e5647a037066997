/-
  RINGS: contracts of Pop, All.
-/
import Derived.Test.YtcmmlgdbpnogjaaAbsRg3
set_option linter.unusedSectionVars false
set_option linter.unusedSimpArgs false
set_option linter.unusedVariables false
set_option maxRecDepth 100000
namespace Go.Proofs.Ytcmmlgdbpnogjaa
open Go.Abs

section
variable {H : Heap} {a n ports lanes m : Nat} {L : List En}

/-- a packet of the function's own is written -/
theorem RI.store {p s mb : Nat} {l : List Slot} {top free : Int} {fl : List Nat} {f : Way → Option Value} (hi : RI H a L n ports lanes p s mb l top free fl f) {b : Nat} {y x : Pkt} (hb : H[b]? = some (pkB y)) (hq : ∀ (i q : Nat) (z : Pkt) (d : Int), l[i]? = some (some (q, z), d) → q ≠ b) :
    RI (H.set b (pkB x)) a L n ports lanes p s mb l top free fl f := by
  have keep : ∀ (c : Nat) (z : Blk), H[c]? = some z → (∀ cs, z ≠ .cells cs 50 .fix) → (H.set b (pkB x))[c]? = some z := fun c z hc hz => by
    rw [get_set_ne (fun hh => by subst hh; rw [hb] at hc; cases hc; exact hz _ rfl), hc]
  refine ⟨keep _ _ hi.hd (fun cs hh => by cases hh), ⟨⟨keep _ _ hi.pool.pool.hp (fun cs hh => by cases hh), keep _ _ hi.pool.pool.hs (fun cs hh => by cases hh), fun i q z d hl => by
    rw [get_set_ne (hq i q z d hl), hi.pool.pool.hq i q z d hl]⟩, hi.pool.chain, hi.pool.nodup, hi.pool.full, hi.pool.cnt, hi.pool.len⟩, hi.len, hi.cnt, hi.nd, hi.full, ?_, hi.no, fun w v hv => ⟨?_, (hi.yes w v hv).2⟩, hi.sep, hi.b1, hi.b2⟩
  · obtain ⟨es, c, h1, h2⟩ := hi.mp
    exact ⟨es, c, keep _ _ h1 (fun cs hh => by cases hh), h2⟩
  · refine (hi.yes w v hv).1.keep fun c hc => ?_
    obtain ⟨xs, hx⟩ := (hi.yes w v hv).1.blk hc
    rw [hx]
    exact keep _ _ hx (fun cs hh => by cases hh)

theorem rgPop_no (h : IsRings H a L n ports lanes) (hm : 100 < m) (i o k : Int) (hp : pkOf L (i, o, k) = []) :
    ∃ H', lvl Try.prog pk8 m (.func 35) [.pointer (some ⟨a, 0, none⟩), .int .i64 i, .int .i64 o, .int .i64 k] H = some (headV [], H') ∧ Ext H H' := by
  obtain ⟨H1, g1, g2⟩ := rgHead_is (h.app [pkB pk0]) (m := m - 1) (by omega) i o k
  rw [hp] at g1
  have hv : headV [] = .tuple #[pk0.val, .bool false] := rfl
  rw [hv] at g1
  have hb0 : H1[H.length]? = some (pkB pk0) := by rw [g2.2 H.length (by simp) id]; simp
  have hl1 : H.length < H1.length := by have := g2.1; simp at this; omega
  have hst : stN 4 (.pointer (some ⟨H1.length, 0, none⟩)) pk0.val (H1 ++ [pkB pk0]) = some (undef, H1 ++ [pkB pk0]) := st_pk0 H1 pk0
  have hld : ldN 4 (.pointer (some ⟨H1.length, 0, none⟩)) (H1 ++ [pkB pk0]) = some (pk0.val, H1 ++ [pkB pk0]) := ld_pkAt (by simp)
  have hb1 : (H1 ++ [pkB pk0])[H.length]? = some (pkB pk0) := by rw [List.getElem?_append_left hl1, hb0]
  have hst2 : stN 4 (.pointer (some ⟨H.length, 0, none⟩)) pk0.val (H1 ++ [pkB pk0]) = some (undef, H1 ++ [pkB pk0]) := by
    rw [st_pkAt (y := pk0) hb1, setSame hb1]
  have hld2 : ldN 4 (.pointer (some ⟨H.length, 0, none⟩)) (H1 ++ [pkB pk0]) = some (pk0.val, H1 ++ [pkB pk0]) := ld_pkAt hb1
  refine ⟨H1 ++ [pkB pk0], lvl_at (flatPr_no rfl) (by omega) ?_, ⟨by simp; omega, fun b hb _ => ?_⟩⟩
  · rw [f35_eq]
    unfold f35
    simp -implicitDefEqProofs only [pkB_zero, x_newB, g1, ext_0, ext_1, hst, hld, hst2, hld2, r_opt, ob_some, iteV_false, oneOf_two]
    rfl
  · rw [List.getElem?_append_left (by omega), g2.2 b (by simp; omega) id, List.getElem?_append_left hb]

theorem rgPop_yes (h : IsRings H a L n ports lanes) (hm : 100 < m) (i o k : Int) {x : Pkt} {xs : List Pkt} (hp : pkOf L (i, o, k) = x :: xs) :
    ∃ H', lvl Try.prog pk8 m (.func 35) [.pointer (some ⟨a, 0, none⟩), .int .i64 i, .int .i64 o, .int .i64 k] H = some (.tuple #[x.val, .bool true], H') ∧ Ch AR H H' ∧ IsRings H' a (popL L (i, o, k)) n ports lanes := by
  obtain ⟨H1, g1, g2⟩ := rgHead_is (h.app [pkB pk0]) (m := m - 1) (by omega) i o k
  rw [hp] at g1
  have hv : headV (x :: xs) = .tuple #[x.val, .bool true] := rfl
  rw [hv] at g1
  obtain ⟨w, hw⟩ : ∃ w : Way, w = (i, o, k) := ⟨_, rfl⟩
  obtain ⟨p, s, mb, l, top, free, fl, f, hi0⟩ := h
  have hqlt : ∀ (j q : Nat) (z : Pkt) (d : Int), l[j]? = some (some (q, z), d) → q < H.length := fun j q z d hl => (List.getElem?_eq_some_iff.mp (hi0.pool.pool.hq j q z d hl)).1
  have hl1 : H.length < H1.length := by have := g2.1; simp at this; omega
  have hi1 : RI H1 a L n ports lanes p s mb l top free fl f := hi0.keep fun b y hb _ => by
    have hlt := (List.getElem?_eq_some_iff.mp hb).1
    rw [g2.2 b (by simp; omega) id, List.getElem?_append_left hlt, hb]
  have hb0 : H1[H.length]? = some (pkB pk0) := by rw [g2.2 H.length (by simp) id]; simp
  obtain ⟨WB, hWB⟩ : ∃ WB : Blk, WB = .cells [.int .i64 i, .int .i64 o, .int .i64 k] 82 .fix := ⟨_, rfl⟩
  obtain ⟨H5, hH5⟩ : ∃ H5, H5 = H1 ++ [pkB x] ++ [WB] := ⟨_, rfl⟩
  have hst1 : stN 4 (.pointer (some ⟨H1.length, 0, none⟩)) x.val (H1 ++ [pkB pk0]) = some (undef, H1 ++ [pkB x]) := st_pk0 H1 x
  have hst2 := wayB (i, o, k) (H1 ++ [pkB x])
  simp only at hst2
  rw [← hWB, ← hH5] at hst2
  have hi : RI H5 a L n ports lanes p s mb l top free fl f := by rw [hH5]; exact (hi1.app _).app _
  have hc5 : Ch AR H H5 := by
    refine (Ch.app AR H [pkB pk0]).trans ((Ch.ext g2).trans ?_)
    rw [hH5, List.append_assoc]
    exact Ch.app _ _ _
  have at0 : H5[H.length]? = some (pkB pk0) := by rw [hH5, List.append_assoc, List.getElem?_append_left hl1, hb0]
  have at4 : H5[H1.length]? = some (pkB x) := by rw [hH5, List.append_assoc, List.getElem?_append_right (Nat.le_refl _)]; simp
  have atW : H5[(H1 ++ [pkB x]).length]? = some WB := by rw [hH5, x_last]
  have l0 := hi.ld0
  have l1 := hi.ld1
  have hldw : ldN 3 (.pointer (some ⟨(H1 ++ [pkB x]).length, 0, none⟩)) H5 = some (wayV (i, o, k), H5) := ld_way (by rw [atW, hWB])
  -- the queue
  obtain ⟨v, hf⟩ : ∃ v, f w = some v := by
    cases hf : f w with
    | some v => exact ⟨v, rfl⟩
    | none =>
      have := hi.no w hf
      have h2 := qp_len L w
      rw [this, hw, hp] at h2
      simp at h2
  have hg := hi.mp.get keyW w (.slice none 0 0)
  rw [hf] at hg
  simp only [Option.getD_some] at hg
  obtain ⟨hr, hne⟩ := hi.yes w v hf
  obtain ⟨k0, ks, hq⟩ : ∃ k0 ks, qOf L w = k0 :: ks := by
    cases hx : qOf L w with
    | nil => exact absurd hx hne
    | cons a b => exact ⟨a, b, rfl⟩
  obtain ⟨x', xs', hp', hin, hlen, hrest⟩ := first_in hq
  rw [hw, hp] at hp'
  cases hp'
  rw [hq] at hr
  obtain ⟨bb, oo, a1, a2, a3⟩ := hr.get (i := 0) (x := intV k0) rfl .i64
  have a1' : iAddr 1 v (.int .i64 0) = some (.pointer (some ⟨bb, oo, none⟩)) := a1
  have hk0 : intV k0 = .int .i64 k0 := rfl
  obtain ⟨q0, d0, hslot⟩ := hi.full _ hin
  obtain ⟨H6, hd, hM6, hmore⟩ := hi.pool.drop (pr := pk8) (flatPr_no rfl) (flatPr_no rfl) (m := m - 1) (by omega) k0 (q0, x) d0 hslot
  have keep6 := hi.pooled hmore.same
  have c6 : Ch AR H5 H6 := ⟨hmore.len, fun b y hy hn' => keep6 b y hy (fun cs hh => hn' (by rw [hh]; exact .inl ⟨rfl, rfl⟩)) (fun cs hh => hn' (by rw [hh]; exact .inr (.inl ⟨rfl, rfl⟩)))⟩
  have hd6 := keep6 _ _ hi.hd (fun cs hh => by cases hh) (fun cs hh => by cases hh)
  have l16 : ld1 (.pointer (some ⟨a, 1, none⟩)) H6 = some (.map (some mb), H6) := by rw [x_ld1, hd6]; rfl
  have at06 := keep6 _ _ at0 (fun cs hh => by cases hh) (fun cs hh => by cases hh)
  have at46 := keep6 _ _ at4 (fun cs hh => by cases hh) (fun cs hh => by cases hh)
  have atW6 : H6[(H1 ++ [pkB x]).length]? = some WB := keep6 _ _ atW (fun cs hh => by rw [hWB] at hh; cases hh) (fun cs hh => by rw [hWB] at hh; cases hh)
  have hldw6 : ldN 3 (.pointer (some ⟨(H1 ++ [pkB x]).length, 0, none⟩)) H6 = some (wayV (i, o, k), H6) := ld_way (by rw [atW6, hWB])
  have hm6 : IsMap wayV H6 mb f := by
    obtain ⟨es, c, e1, e2⟩ := hi.mp
    exact ⟨es, c, keep6 _ _ e1 (fun cs hh => by cases hh) (fun cs hh => by cases hh), e2⟩
  have hq6 : ∀ w' v', f w' = some v' → RowO 3 H6 v' ((qOf L w').map intV) := fun w' v' hf' => by
    have := (hi.yes w' v' hf').1
    refine this.keep fun b hb => ?_
    obtain ⟨ys, hys⟩ := this.blk hb
    rw [hys, keep6 _ _ hys (fun cs hh => by cases hh) (fun cs hh => by cases hh)]
  have hg6 := hm6.get keyW w (.slice none 0 0)
  rw [hf] at hg6
  simp only [Option.getD_some] at hg6
  have hr6 := hq6 w v hf
  rw [hq] at hr6
  obtain ⟨v', hcut, hrow', hhome⟩ := RowO.tail (P := Try.prog) (x := intV k0) (cs := ks.map intV) hr6 szI
  obtain ⟨X, hset, hm7, ⟨xe, xc, hX⟩⟩ := hm6.set keyW w v' (by rw [hf]; simp)
  obtain ⟨H7, hH7⟩ : ∃ H7, H7 = H6.set mb X := ⟨_, rfl⟩
  rw [← hH7] at hset hm7
  have hmb6 : ∃ es c, H6[mb]? = some (.map es c) := by
    obtain ⟨es, c, e1, e2⟩ := hm6
    exact ⟨_, _, e1⟩
  have k67 : ∀ (b : Nat) (cs : List Value) (e : TypeId) (kk : Kind), H6[b]? = some (.cells cs e kk) → H7[b]? = some (.cells cs e kk) := fun b cs e kk hb => by
    have hne : b ≠ mb := fun hh => by
      subst hh
      obtain ⟨es, c, e1⟩ := hmb6
      rw [hb] at e1
      cases e1
    rw [hH7, get_set_ne hne, hb]
  have len7 : H7.length = H6.length := by rw [hH7]; simp
  have l17 : ld1 (.pointer (some ⟨a, 1, none⟩)) H7 = some (.map (some mb), H7) := by rw [x_ld1, k67 _ _ _ _ hd6]; rfl
  have hldw7 : ldN 3 (.pointer (some ⟨(H1 ++ [pkB x]).length, 0, none⟩)) H7 = some (wayV (i, o, k), H7) := ld_way (by rw [hWB] at atW6; rw [k67 _ _ _ _ atW6])
  have hg7 := hm7.get keyW w (.slice none 0 0)
  have hupd : upd f w (some v') w = some v' := by unfold upd; rw [if_pos rfl]
  rw [hupd] at hg7
  simp only [Option.getD_some] at hg7
  have hlen' := hrow'.len
  have c7 : Ch AR H6 H7 := by
    obtain ⟨es, c, e1⟩ := hmb6
    rw [hH7]
    exact Ch.set e1 trivial _
  -- the ending: from a heap H8 that is H7 but for the map
  have fin : ∀ (H8 : Heap) (f8 : Way → Option Value), Ch AR H7 H8 → (∀ (b : Nat) (cs : List Value) (e : TypeId) (kk : Kind), H6[b]? = some (.cells cs e kk) → H8[b]? = some (.cells cs e kk)) → H6.length ≤ H8.length → IsMap wayV H8 mb f8 →
      (∀ w', w' ≠ w → f8 w' = f w') → (f8 w = some v' ∧ ks ≠ [] ∨ f8 w = none ∧ ks = []) →
      ldN 4 (.pointer (some ⟨H1.length, 0, none⟩)) H8 = some (x.val, H8) ∧ stN 4 (.pointer (some ⟨H.length, 0, none⟩)) x.val H8 = some (undef, H8.set H.length (pkB x)) ∧ ldN 4 (.pointer (some ⟨H.length, 0, none⟩)) (H8.set H.length (pkB x)) = some (x.val, H8.set H.length (pkB x)) ∧ Ch AR H (H8.set H.length (pkB x)) ∧ IsRings (H8.set H.length (pkB x)) a (popL L w) n ports lanes := by
    intro H8 f8 c8 k68 hl8 hm8 hoth hself
    have at48 := k68 _ _ _ _ at46
    have at08 := k68 _ _ _ _ at06
    have at08' : H8[H.length]? = some (pkB pk0) := at08
    have hlt8 := (List.getElem?_eq_some_iff.mp at08).1
    refine ⟨ld_pkAt at48, st_pkAt at08', ld_pkAt (List.getElem?_set_self hlt8), ?_, ?_⟩
    · refine ⟨by simp; omega, fun b y hy hn' => ?_⟩
      have hltb := (List.getElem?_eq_some_iff.mp hy).1
      rw [get_set_ne (by omega)]
      exact (((hc5.trans c6).trans c7).trans c8).2 b y hy hn'
    · have hRI : RI H8 a (popL L w) n ports lanes p s mb (l.set k0 (none, top)) k0 (free + 1) (k0 :: fl) f8 := by
        refine ⟨k68 _ _ _ _ hd6, hM6.keepT fun b cs e kk hb _ => k68 b cs e kk hb, by simp [hi.len], by have := hi.cnt; simp; omega, ?_, ?_, hm8, ?_, ?_, ?_, hi.b1, hi.b2⟩
        · exact (List.Sublist.map _ (List.eraseP_sublist)).nodup hi.nd
        · intro e he
          obtain ⟨h1, h2⟩ := hrest e he
          obtain ⟨q', d', hs⟩ := hi.full e h1
          exact ⟨q', d', by rw [List.getElem?_set_ne (fun hh => h2 hi.nd hh.symm), hs]⟩
        · intro w' hw'
          by_cases hww : w' = w
          · subst hww
            rw [q_pop, if_pos rfl, hq]
            rcases hself with ⟨h1, _⟩ | ⟨_, h2⟩
            · rw [h1] at hw'; cases hw'
            · exact h2
          · rw [hoth w' hww] at hw'
            rw [q_pop, if_neg (fun hh => hww hh.symm)]
            exact hi.no w' hw'
        · intro w' u hw'
          by_cases hww : w' = w
          · subst hww
            rw [q_pop, if_pos rfl, hq]
            rcases hself with ⟨h1, h2⟩ | ⟨h1, _⟩
            · rw [h1] at hw'
              cases hw'
              refine ⟨hrow'.keep fun b hb => ?_, h2⟩
              obtain ⟨ys, hys⟩ := hrow'.blk hb
              rw [hys, k68 _ _ _ _ hys]
            · rw [h1] at hw'; cases hw'
          · rw [hoth w' hww] at hw'
            rw [q_pop, if_neg (fun hh => hww hh.symm)]
            refine ⟨(hq6 w' u hw').keep fun b hb => ?_, (hi.yes w' u hw').2⟩
            obtain ⟨ys, hys⟩ := (hq6 w' u hw').blk hb
            rw [hys, k68 _ _ _ _ hys]
        · intro w1 w2 v1 v2 b hf1 hf2 hne' hh1 hh2
          by_cases e1 : w1 = w
          · rw [hoth w2 (fun hh => hne' (e1.trans hh.symm))] at hf2
            rw [e1] at hf1
            rcases hself with ⟨h1, _⟩ | ⟨h1, _⟩
            · rw [h1] at hf1
              cases hf1
              exact hi.sep w w2 v v2 b hf hf2 (by rw [← e1]; exact hne') (hhome b hh1) hh2
            · rw [h1] at hf1; cases hf1
          · rw [hoth w1 e1] at hf1
            by_cases e2 : w2 = w
            · rw [e2] at hf2
              rcases hself with ⟨h1, _⟩ | ⟨h1, _⟩
              · rw [h1] at hf2
                cases hf2
                exact hi.sep w1 w v1 v b hf1 hf e1 hh1 (hhome b hh2)
              · rw [h1] at hf2; cases hf2
            · rw [hoth w2 e2] at hf2
              exact hi.sep w1 w2 v1 v2 b hf1 hf2 hne' hh1 hh2
      refine ⟨_, _, _, _, _, _, _, _, hRI.store at08' fun j q z d hl => ?_⟩
      by_cases hj : k0 = j
      · subst hj
        have hlt := (List.getElem?_eq_some_iff.mp hslot).1
        rw [List.getElem?_set_self hlt] at hl
        cases hl
      · rw [List.getElem?_set_ne hj] at hl
        have := hqlt j q z d hl
        omega
  rw [hw] at hg hg6 hset hg7
  cases hks : ks with
  | nil =>
    subst hks
    have e1 : ((([] : List Nat).map intV).length : Int) = 0 := rfl
    have e2 : ((((([] : List Nat).map intV).length : Nat) : Int) == 0) = true := rfl
    obtain ⟨X8, hdel, hm8, ⟨ye, yc, hX8⟩⟩ := hm7.del keyW w (by rw [hupd]; simp)
    have hmb7 : ∃ es c, H7[mb]? = some (.map es c) := by
      obtain ⟨es, c, e1, e2⟩ := hm7
      exact ⟨_, _, e1⟩
    obtain ⟨r1, r2, r3, r4, r5⟩ := fin (H7.set mb X8) _ (by
      obtain ⟨es, c, e1⟩ := hmb7
      exact Ch.set e1 trivial _) (fun b cs e kk hb => by
        have h7 := k67 b cs e kk hb
        have hne : b ≠ mb := fun hh => by
          subst hh
          obtain ⟨es, c, e1⟩ := hmb7
          rw [h7] at e1
          cases e1
        rw [get_set_ne hne, h7]) (by simp [len7]) hm8 (fun w' hww => by simp [upd, hww]) (.inr ⟨by simp [upd], rfl⟩)
    rw [hw] at hdel r5
    refine ⟨_, lvl_at (flatPr_no rfl) (by omega) ?_, r4, r5⟩
    rw [f35_eq]
    unfold f35
    simp -implicitDefEqProofs only [pkB_zero, x_newB, g1, ext_0, ext_1, hst1, bW, hst2, r_nil, r_fAddr, Nat.zero_add, l0, l1, hldw, hg, a1', a3 H5 rfl, hk0, hd, l16, hldw6, hg6, hcut, hset, l17, hldw7, hg7, hlen', b_eql, e2, hdel, r1, r2, r3, r_opt, ob_some, ifB_true, iteV_true, oneOf_two]
  | cons k1 ks1 =>
    subst hks
    have e2 : (((((k1 :: ks1).map intV).length : Nat) : Int) == 0) = false := by simp; omega
    obtain ⟨r1, r2, r3, r4, r5⟩ := fin H7 _ (Ch.refl _ _) k67 (by omega) hm7 (fun w' hww => by simp [upd, hww]) (.inl ⟨hupd, by simp⟩)
    rw [hw] at r5
    refine ⟨_, lvl_at (flatPr_no rfl) (by omega) ?_, r4, r5⟩
    rw [f35_eq]
    unfold f35
    simp -implicitDefEqProofs only [pkB_zero, x_newB, g1, ext_0, ext_1, hst1, bW, hst2, r_nil, r_fAddr, Nat.zero_add, l0, l1, hldw, hg, a1', a3 H5 rfl, hk0, hd, l16, hldw6, hg6, hcut, hset, l17, hldw7, hg7, hlen', b_eql, e2, r1, r2, r3, r_opt, ob_some, ifB_true, iteV_true, iteV_false, oneOf_two]

end

end Go.Proofs.Ytcmmlgdbpnogjaa
