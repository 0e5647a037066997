/-
  BOTH POOLS TOGETHER: each leaves the other's blocks.
-/
import Derived.Test.YtebcibedkcjbcaaAbsRefNew
set_option linter.unusedSimpArgs false
set_option linter.unusedVariables false
set_option maxRecDepth 100000
namespace Go.Proofs.Ytebcibedkcjbcaa
open Go.Abs

section
variable {H H' : Heap} {p s : Nat} {l : List Slot} {top free : Int} {fl : List Nat} {r lb fb c cap : Nat} {lv fv ev : Value} {ws : List Pkt} {hs es : List Nat} {rest : List Value}

theorem Model.ref (h : Model H p s l top free fl) (hr : RefS H r lb fb c cap lv fv ev ws hs es rest) (hk : RefK r lb fb c H H') : Model H' p s l top free fl := by
  have h1 := hr.ref.hr
  have h2 := hr.ref.L.blk
  have h3 := hr.ref.F.blk
  have h4 := hr.room.blk
  have keep : ∀ (b : Nat) (x : Blk), H[b]? = some x → (∀ cs, x ≠ .cells cs 76 .fix) → (∀ cs, x ≠ .cells cs 27 .row) → (∀ cs, x ≠ .cells cs 3 .row) → H'[b]? = some x := by
    intro b x hb n1 n2 n3
    have hlt := (List.getElem?_eq_some_iff.mp hb).1
    rw [hk.2 b hlt (fun e => ?_) (fun e => ?_) (fun e => ?_) (fun e => ?_), hb]
    · rw [e, h1] at hb; cases hb; exact n1 _ rfl
    · rw [e, h2] at hb; cases hb; exact n2 _ rfl
    · rw [e, h3] at hb; cases hb; exact n3 _ rfl
    · rw [e, h4] at hb; cases hb; exact n3 _ rfl
  exact ⟨⟨keep _ _ h.pool.hp (by simp [poolB]) (by simp [poolB]) (by simp [poolB]), keep _ _ h.pool.hs (by simp [slotsB]) (by simp [slotsB]) (by simp [slotsB]),
    fun i q x d hi => keep _ _ (h.pool.hq i q x d hi) (by simp [pkB]) (by simp [pkB]) (by simp [pkB])⟩, h.chain, h.nodup, h.full, h.cnt, h.len⟩

theorem Sl.ref {v : Value} {sz b : Nat} {rows : List (List Value)} (h : Sl H v sz b rows) (hr : RefS H r lb fb c cap lv fv ev ws hs es rest) (hk : RefK r lb fb c H H') : Sl H' v sz b rows := by
  have h1 := hr.ref.hr
  have h2 := hr.ref.L.blk
  have h3 := hr.ref.F.blk
  have h4 := hr.room.blk
  refine ⟨h.len, h.at_, fun h0 => ?_⟩
  obtain ⟨e, he⟩ := h.blk h0
  have hlt := (List.getElem?_eq_some_iff.mp he).1
  refine ⟨e, ?_⟩
  rw [hk.2 b hlt (fun e => ?_) (fun e => ?_) (fun e => ?_) (fun e => ?_), he]
  · rw [e, h1] at he; simp at he
  · rw [e, h2] at he; simp at he
  · rw [e, h3] at he; simp at he
  · rw [e, h4] at he; simp at he

theorem RefS.pool (h : RefS H r lb fb c cap lv fv ev ws hs es rest) (hp : IsPool H p s l top free) (hm : ∀ b, b < H.length → b ≠ p → b ≠ s → H'[b]? = H[b]?) : RefS H' r lb fb c cap lv fv ev ws hs es rest := by
  obtain ⟨_, _, _, _, _, l1, l2, l3, l4⟩ := h.ne's
  have a1 := hp.hp
  have a2 := hp.hs
  have nr : ∀ b (cs : List Value) e k, H[b]? = some (.cells cs e k) → e ≠ 69 → e ≠ 72 → b ≠ p ∧ b ≠ s := by
    intro b cs e k hb h1 h2
    constructor
    · intro e'
      rw [e', a1] at hb
      simp only [poolB, Option.some.injEq, Blk.cells.injEq] at hb
      exact h1 hb.2.1.symm
    · intro e'
      rw [e', a2] at hb
      simp only [slotsB, Option.some.injEq, Blk.cells.injEq] at hb
      exact h2 hb.2.1.symm
  have b1 := nr _ _ _ _ h.ref.hr (by decide) (by decide)
  have b2 := nr _ _ _ _ h.ref.L.blk (by decide) (by decide)
  have b3 := nr _ _ _ _ h.ref.F.blk (by decide) (by decide)
  have b4 := nr _ _ _ _ h.room.blk (by decide) (by decide)
  exact ⟨⟨by rw [hm r l1 b1.1 b1.2]; exact h.ref.hr, own_same h.ref.L (hm lb l3 b2.1 b2.2), own_same h.ref.F (hm fb l2 b3.1 b3.2)⟩, h.room.same (hm c l4 b4.1 b4.2), h.len, h.ne, h.es200⟩

theorem RefS.app (h : RefS H r lb fb c cap lv fv ev ws hs es rest) (G : Heap) : RefS (H ++ G) r lb fb c cap lv fv ev ws hs es rest := by
  obtain ⟨_, _, _, _, _, l1, l2, l3, l4⟩ := h.ne's
  exact ⟨⟨by rw [List.getElem?_append_left l1]; exact h.ref.hr, h.ref.L.app G, h.ref.F.app G⟩, h.room.same (List.getElem?_append_left l4), h.len, h.ne, h.es200⟩

end
structure Twin (H : Heap) (p s : Nat) (l : List Slot) (top free : Int) (fl : List Nat) (r lb fb c cap : Nat) (lv fv ev : Value) (ws : List Pkt) (rest : List Value) : Prop where
  m : Model H p s l top free fl
  r : RefS H r lb fb c cap lv fv ev ws (hasL l) fl.reverse rest
  w : ∀ (k q : Nat) (x : Pkt) (d : Int), l[k]? = some (some (q, x), d) → ws[k]? = some x
  n : l.length = ws.length

/-- is a slot full? -/
theorem hit (l : List Slot) (i : Int) : (∃ (k : Nat) (q : Nat × Pkt) (d : Int), i = k ∧ l[k]? = some (some q, d) ∧ (hasL l)[k]? = some 1) ∨
    ((i < 0 ∨ (l.length : Int) ≤ i ∨ ∃ d, l[i.toNat]? = some (none, d)) ∧ (decide (0 ≤ i) && decide ((hasL l)[i.toNat]? = some 1)) = false) := by
  by_cases h0 : 0 ≤ i
  · obtain ⟨k, rfl⟩ : ∃ k : Nat, i = k := ⟨i.toNat, by omega⟩
    by_cases hk : k < l.length
    · obtain ⟨⟨q, d⟩, hl⟩ : ∃ x, l[k]? = some x := ⟨_, List.getElem?_eq_getElem hk⟩
      have hh := hasL_get hl
      cases q with
      | none =>
        right
        refine ⟨.inr (.inr ⟨d, by rw [Int.toNat_natCast]; exact hl⟩), ?_⟩
        rw [Int.toNat_natCast, hh]
        simp
      | some q => exact .inl ⟨k, q, d, rfl, hl, hh⟩
    · right
      refine ⟨.inr (.inl (by omega)), ?_⟩
      rw [Int.toNat_natCast, List.getElem?_eq_none (by rw [hasL_len]; omega)]
      simp
  · right
    refine ⟨.inl (by omega), ?_⟩
    simp [h0]

section
variable {pr : Prims} {H : Heap} {p s : Nat} {l : List Slot} {top free : Int} {fl : List Nat} {r lb fb c cap : Nat} {lv fv ev : Value} {ws : List Pkt} {rest : List Value}

theorem Twin.drop (n40 : pr (.func 40) = none) (n19 : pr (.func 19) = none) (n41 : pr (.func 41) = none) (n22 : pr (.func 22) = none) (h : Twin H p s l top free fl r lb fb c cap lv fv ev ws rest) {m : Nat} (hm : 2 < m) (i : Int) :
    ∃ b H1 H2 l' top' free' fl' c' cap' ev' rest', lvl Try.prog pr m (.func 19) [.pointer (some ⟨p, 0, none⟩), .int .i64 i] H = some (.bool b, H1) ∧ lvl Try.prog pr m (.func 22) [.pointer (some ⟨r, 0, none⟩), .int .i64 i] H1 = some (.bool b, H2) ∧
      Twin H2 p s l' top' free' fl' r lb fb c' cap' lv fv ev' ws rest' ∧ l'.length = l.length ∧ ∀ v b rows, Sl H v 6 b rows → Sl H1 v 6 b rows ∧ Sl H2 v 6 b rows := by
  have hfl := h.m.fl_len
  rcases hit l i with ⟨k, q, d, rfl, hl, hh⟩ | ⟨h1, h2⟩
  · obtain ⟨H1, g1, m1, k1⟩ := h.m.drop n40 n19 (m := m) (by omega) k q d hl
    have r1 := h.r.pool h.m.pool k1.same
    obtain ⟨H2, ev', c', cap', rest', g2, r2, k2, _⟩ := ref_drop n41 n22 r1 (by simp; omega) (m := m) (by omega) k hh
    have e1 : (hasL l).set k 0 = hasL (l.set k (none, top)) := hasL_set l k (none, top)
    rw [e1] at r2
    refine ⟨true, H1, H2, _, _, _, k :: fl, c', cap', ev', rest', g1, g2, ⟨m1.ref r1 k2, by simpa using r2, ?_, by simpa using h.n⟩, by simp, fun v b rows hs => ?_⟩
    · intro j q' x' d' hj
      have hlt : k < l.length := (List.getElem?_eq_some_iff.mp hl).1
      by_cases ej : k = j
      · subst ej
        rw [List.getElem?_set_self hlt] at hj
        simp at hj
      · rw [List.getElem?_set_ne ej] at hj
        exact h.w j q' x' d' hj
    · have hs1 := sl_more hs h.m.pool k1.same
      exact ⟨hs1, Sl.ref hs1 r1 k2⟩
  · exact ⟨false, H, H, l, top, free, fl, c, cap, ev, rest, drop_no n40 n19 h.m.pool (by omega) i h1, ref_drop_no n41 n22 h.r (by omega) i h2, h, rfl, fun v b rows hs => ⟨hs, hs⟩⟩

theorem Twin.app (h : Twin H p s l top free fl r lb fb c cap lv fv ev ws rest) (G : Heap) : Twin (H ++ G) p s l top free fl r lb fb c cap lv fv ev ws rest := ⟨h.m.app G, h.r.app G, h.w, h.n⟩

theorem Twin.get (n40 : pr (.func 40) = none) (n17 : pr (.func 17) = none) (n41 : pr (.func 41) = none) (n23 : pr (.func 23) = none) (h : Twin H p s l top free fl r lb fb c cap lv fv ev ws rest) {m : Nat} (hm : 2 < m) (i : Int) :
    ∃ b x, (∀ G, lvl Try.prog pr m (.func 17) [.pointer (some ⟨p, 0, none⟩), .int .i64 i] (H ++ G) = some (.tuple #[Pkt.val x, .bool b], H ++ G ++ [pkB x])) ∧ ∀ G, lvl Try.prog pr m (.func 23) [.pointer (some ⟨r, 0, none⟩), .int .i64 i] (H ++ G) = some (.tuple #[Pkt.val x, .bool b], H ++ G ++ [pkB x]) := by
  rcases hit l i with ⟨k, q, d, rfl, hl, hh⟩ | ⟨h1, h2⟩
  · obtain ⟨q, x⟩ := q
    exact ⟨true, x, fun G => get_yes n40 n17 (h.app G).m.pool (by omega) k q x d hl, fun G => ref_get_yes n41 n23 (h.app G).r (by omega) k hh x (h.w k q x d hl)⟩
  · exact ⟨false, pk0, fun G => get_no n40 n17 (h.app G).m.pool (by omega) i h1, fun G => ref_get_no n41 n23 (h.app G).r (by omega) i h2⟩

theorem Twin.put (n20 : pr (.func 20) = none) (n24 : pr (.func 24) = none) (h : Twin H p s l top free fl r lb fb c cap lv fv ev ws rest) {m : Nat} (hm : 2 < m) (x : Pkt) :
    ∃ k b H1 H2 l' top' free' fl' c' cap' ev' ws' rest', lvl Try.prog pr m (.func 20) [.pointer (some ⟨p, 0, none⟩), x.val] H = some (.tuple #[.int .i64 k, .bool b], H1) ∧ lvl Try.prog pr m (.func 24) [.pointer (some ⟨r, 0, none⟩), x.val] H1 = some (.tuple #[.int .i64 k, .bool b], H2) ∧
      Twin H2 p s l' top' free' fl' r lb fb c' cap' lv fv ev' ws' rest' ∧ l'.length = l.length ∧ ∀ v b rows, Sl H v 6 b rows → Sl H1 v 6 b rows ∧ Sl H2 v 6 b rows := by
  cases fl with
  | nil =>
    have g1 := h.m.put0 n20 (m := m) (by omega) x
    have h1 := h.app [pkB x]
    have g2 := ref_put_no n24 h1.r (m := m) (by omega) x
    exact ⟨0, false, _, _, l, top, free, [], c, cap, ev, ws, rest, g1, g2, h1.app _, rfl, fun v b rows hs => ⟨hs.same fun hb => List.getElem?_append_left hb, (hs.same fun hb => List.getElem?_append_left hb).same fun hb => List.getElem?_append_left hb⟩⟩
  | cons k ks =>
    obtain ⟨H1, q, d, g1, m1, hlt, le1, k1⟩ := h.m.put n20 (m := m) (by omega) x
    have r1 := h.r.pool h.m.pool k1
    rw [List.reverse_cons] at r1
    have hn := h.n
    obtain ⟨H2, ev', g2, r2, k2⟩ := ref_put n24 r1 (by omega) (m := m) (by omega) x
    have e1 : (hasL l).set k 1 = hasL (l.set k (some (q, x), d)) := hasL_set l k (some (q, x), d)
    rw [e1] at r2
    refine ⟨k, true, H1, H2, _, _, _, ks, c, cap, ev', _, _, g1, g2, ⟨m1.ref r1 k2, r2, ?_, by simpa using h.n⟩, by simp, fun v b rows hs => ?_⟩
    · intro j q' x' d' hj
      by_cases ej : k = j
      · subst ej
        rw [List.getElem?_set_self hlt] at hj
        rw [List.getElem?_set_self (by omega)]
        simp at hj
        simp [hj]
      · rw [List.getElem?_set_ne ej] at hj
        rw [List.getElem?_set_ne ej]
        exact h.w j q' x' d' hj
    · have hs1 := sl_more hs h.m.pool k1
      exact ⟨hs1, Sl.ref hs1 r1 k2⟩

theorem Twin.cnt (n18 : pr (.func 18) = none) (n25 : pr (.func 25) = none) (h : Twin H p s l top free fl r lb fb c cap lv fv ev ws rest) {m : Nat} (hm : 2 < m) :
    lvl Try.prog pr m (.func 18) [.pointer (some ⟨p, 0, none⟩)] H = some (.int .i64 fl.length, H) ∧ lvl Try.prog pr m (.func 25) [.pointer (some ⟨r, 0, none⟩)] H = some (.int .i64 fl.length, H) := by
  have g1 := free_is n18 h.m.pool (m := m) (by omega)
  have g2 := ref_free (rest := rest) n25 h.r.ref h.r.room.val (m := m) (by omega)
  rw [h.m.cnt] at g1
  rw [List.length_reverse] at g2
  exact ⟨g1, g2⟩

end
end Go.Proofs.Ytebcibedkcjbcaa
