/-
  SLICES OF RECORDS that may be read, come in or made here (Rs); integers, and rows of rows.
-/
import Derived.Test.YtdobnaldfmpimaaAbsRw
import Derived.Test.YtdobnaldfmpimaaAbsArg3
import Derived.Test.YtdobnaldfmpimaaAbsSort
set_option linter.unusedSectionVars false
set_option linter.unusedSimpArgs false
set_option linter.unusedVariables false
namespace Go.Abs

def Rs {α : Type} (el : α → List Value) (e : TypeId) (H : Heap) (v : Value) (xs : List α) : Prop :=
  (v = .slice none 0 0 ∧ xs = []) ∨ ∃ b o cap, v = .slice (some ⟨b, o, none⟩) xs.length cap ∧ xs.length ≤ cap ∧
    (xs ≠ [] → ∃ e' k pre post, pre.length = o ∧ (k = .row → e' = e) ∧ H[b]? = some (.cells (pre ++ (xs.map el).flatten ++ post) e' k))

section
variable {α : Type} {el : α → List Value} {e : TypeId} {sz : Nat} {H H' : Heap} {v w : Value} {xs ys : List α}

theorem Rr.rs (h : Rr el e H v xs) : Rs el e H v xs := by
  rcases h with h | ⟨b, cap, k, pre, post, h1, h2, h3⟩
  · exact .inl h
  · exact .inr ⟨b, _, cap, h1, h2, fun _ => ⟨e, k, pre, post, rfl, fun _ => rfl, h3⟩⟩
theorem Rw.rs (h : Rw el e sz H v xs) : Rs el e H v xs := h.rr.rs

theorem Rs.rr (h : Rs el e H v xs) (hne : xs ≠ []) : ∃ e', Rr el e' H v xs := by
  rcases h with ⟨_, h⟩ | ⟨b, o, cap, h1, h2, h3⟩
  · exact absurd h hne
  · obtain ⟨e', k, pre, post, rfl, _, h5⟩ := h3 hne
    exact ⟨e', .inr ⟨b, cap, k, pre, post, h1, h2, h5⟩⟩

theorem Rs.len (h : Rs el e H v xs) : lenSl v = some (.int .i64 xs.length) := by
  rcases h with ⟨rfl, rfl⟩ | ⟨b, o, cap, rfl, _⟩ <;> rfl
theorem Rs.srcLen (h : Rs el e H v xs) : srcLen v = some xs.length := by
  rcases h with ⟨rfl, rfl⟩ | ⟨b, o, cap, rfl, _⟩ <;> rfl
theorem Rs.keep (h : Rs el e H v xs) (hk : ∀ b, home v b → b < H.length → H'[b]? = H[b]?) : Rs el e H' v xs := by
  rcases h with h | ⟨b, o, cap, rfl, h1, h2⟩
  · exact .inl h
  · refine .inr ⟨b, o, cap, rfl, h1, fun hne => ?_⟩
    obtain ⟨e', k, pre, post, h3, h4, h5⟩ := h2 hne
    exact ⟨e', k, pre, post, h3, h4, by rw [hk b ⟨_, _, _, rfl⟩ (List.getElem?_eq_some_iff.mp h5).1, h5]⟩
theorem Rs.ext (h : Rs el e H v xs) (he : Ext H H') : Rs el e H' v xs := h.keep fun b _ hb => he.2 b hb id
theorem Rs.src (hsz : ∀ x, (el x).length = sz) (h : Rs el e H v xs) : srcCells sz v xs.length H = some (xs.map el).flatten := by
  by_cases hne : xs = []
  · subst hne
    rcases h with ⟨rfl, _⟩ | ⟨b, o, cap, rfl, _⟩ <;> rfl
  · obtain ⟨e', hr⟩ := h.rr hne
    exact hr.src hsz
theorem Rs.at_ (hsz : ∀ x, (el x).length = sz) (h : Rs el e H v xs) {i : Nat} {x : α} (hx : xs[i]? = some x) (k : IntKind) : ∃ b o, iAddr sz v (.int k i) = some (.pointer (some ⟨b, o, none⟩)) ∧ home v b ∧
    ∀ H' : Heap, H'[b]? = H[b]? → ldN sz (.pointer (some ⟨b, o, none⟩)) H' = some (.agg ⟨el x⟩, H') ∧
      (∀ j y, (el x)[j]? = some y → ld1 (.pointer (some ⟨b, o + j, none⟩)) H' = some (y, H')) ∧
      (∀ j n, j + n ≤ sz → ldN n (.pointer (some ⟨b, o + j, none⟩)) H' = some (.agg ⟨((el x).drop j).take n⟩, H')) := by
  obtain ⟨e', hr⟩ := h.rr (fun h => by subst h; simp at hx)
  exact hr.at_ hsz hx k
theorem Rs.sub {P : Program} (hsz : ∀ x, (el x).length = sz) (he : P.cellsOf e = sz) (h : Rs el e H v xs) (hne : xs ≠ []) {l r : Nat} {lo hi : Option Value} (h1 : bnd 0 lo = some l) (h2 : bnd xs.length hi = some r) (hlr : l ≤ r) (hr : r ≤ xs.length) :
    ∃ v', slc P sz v lo hi none H = some (v', H) ∧ Rs el e H v' ((xs.take r).drop l) ∧ ∀ b, home v' b → home v b := by
  have hl := flat_len (xs.map el) (rows_sz hsz)
  have hlen : ((xs.take r).drop l).length = r - l := by simp; omega
  rcases h with ⟨_, h⟩ | ⟨b, o, cap, rfl, h3, h4⟩
  · exact absurd h hne
  · obtain ⟨e', k, pre, post, rfl, hk, hb⟩ := h4 hne
    refine ⟨_, slc_is (sz := sz) hb (fun h => by rw [hk h]; exact he) h1 h2 rfl hlr (by omega) (Nat.le_refl _), .inr ⟨b, _, cap - l, by rw [hlen], by rw [hlen]; omega, fun _ => ⟨e', k, pre ++ ((xs.take l).map el).flatten, ((xs.drop r).map el).flatten ++ post, ?_, hk, ?_⟩⟩, ?_⟩
    · have hf := flat_len ((xs.take l).map el) (rows_sz hsz)
      rw [List.length_map, List.length_take, Nat.min_eq_left (by omega)] at hf
      rw [List.length_append, hf]
    · rw [hb]
      have : xs = xs.take l ++ ((xs.take r).drop l ++ xs.drop r) := by
        conv => lhs; rw [← List.take_append_drop l xs]
        congr 1
        have := List.take_append_drop (r - l) (xs.drop l)
        rw [List.drop_drop, List.take_drop] at this
        rw [show l + (r - l) = r by omega] at this
        exact this.symm
      congr 2
      conv => lhs; rw [this]
      simp only [List.map_append, List.flatten_append, List.append_assoc]
    · rintro b' ⟨o', n, c, hv⟩
      cases hv
      exact ⟨_, _, _, rfl⟩

theorem Rw.addS (hsz : ∀ x, (el x).length = sz) (hall : ∀ x, allCells (el x) = true) (h0 : 0 < sz) {by' : Nat} {e' : TypeId} (h : Rw el e sz H v xs) (hw : Rs el e' H w ys) (hr : roomy (xs.length + ys.length) by' = true) :
    ∃ v' H', Go.Abs.app e sz by' v w H = some (v', H') ∧ Rw el e sz H' v' (xs ++ ys) ∧ H.length ≤ H'.length ∧ (∀ b, b < H.length → ¬ home v b → H'[b]? = H[b]?) ∧ (∀ b, home v' b → home v b ∨ (H.length ≤ b ∧ b < H'.length)) := by
  obtain ⟨v', H', h1, h2, h3⟩ := app_row h hw.srcLen (hw.src hsz) hr (flat_all hall ys) h0
  refine ⟨v', H', h1, ?_, h3⟩
  unfold Rw
  rw [List.length_append, List.map_append, List.flatten_append]
  exact h2

theorem Ext.tr {H0 H1 H2 : Heap} (h : Ext H0 H1) (h' : Ext H1 H2) : Ext H0 H2 := h.trans (h'.weak fun _ h => h.elim)
/-- a slice that is new since H0 -/
def New (H0 : Heap) (v : Value) : Prop := ∀ b, home v b → H0.length ≤ b
theorem New.nil (H0 : Heap) : New H0 (.slice none 0 0) := fun b ⟨_, _, _, h⟩ => by cases h

/-- append to a slice that is new -/
theorem Rw.more (hsz : ∀ x, (el x).length = sz) (hall : ∀ x, allCells (el x) = true) (h0 : 0 < sz) {by' : Nat} {e' : TypeId} {H0 : Heap} (h : Rw el e sz H v xs) (hw : Rs el e' H w ys) (hn : New H0 v) (he : Ext H0 H) (hr : roomy (xs.length + ys.length) by' = true) :
    ∃ v' H', Go.Abs.app e sz by' v w H = some (v', H') ∧ Rw el e sz H' v' (xs ++ ys) ∧ New H0 v' ∧ Ext H0 H' := by
  obtain ⟨v', H', h1, h2, h3, h4, h5⟩ := h.addS hsz hall h0 hw hr
  have hl := he.1
  refine ⟨v', H', h1, h2, fun b hb => ?_, ⟨by omega, fun b hb _ => ?_⟩⟩
  · rcases h5 b hb with h | ⟨h, _⟩
    · exact hn b h
    · omega
  · rw [h4 b (by omega) (fun h => by have := hn b h; omega), he.2 b hb id]
/-- append one that is laid ahead (the slice of one is laid by bldSlice) -/
theorem Rw.push1 (hsz : ∀ x, (el x).length = sz) (hall : ∀ x, allCells (el x) = true) (h0 : 0 < sz) {by' : Nat} {H0 : Heap} (h : Rw el e sz H v xs) (x : α) (hn : New H0 v) (he : Ext H0 H) (hr : roomy (xs.length + 1) by' = true) :
    ∃ v' H', Go.Abs.app e sz by' v (.slice (some ⟨H.length, 0, none⟩) 1 1) (H ++ [.cells (el x) e .row]) = some (v', H') ∧ Rw el e sz H' v' (xs ++ [x]) ∧ New H0 v' ∧ Ext H0 H' := by
  have hw : Rr el e (H ++ [.cells (el x) e .row]) (.slice (some ⟨H.length, 0, none⟩) 1 1) [x] := one_rr (el := el) x H
  exact (h.on _).more hsz hall h0 hw.rs hn (he.trans (Fr.app _ _ _)) hr

/-- so long as they are apart, what is laid behind one leaves the other -/
def Apart (H : Heap) (u v : Value) : Prop := ∀ b, home u b → b < H.length ∧ ¬ home v b
theorem Apart.up {u v' : Value} (h : Apart H u v) (hf : Fr (home v) H H') (hu : ∀ b, home v' b → Up (home v) H H' b) : Apart H' u v' := fun b hb => by
  obtain ⟨h1, h2⟩ := h b hb
  refine ⟨Nat.lt_of_lt_of_le h1 hf.1, fun hv => ?_⟩
  rcases hu b hv with h3 | ⟨h3, _⟩
  · exact h2 h3
  · omega
theorem Apart.ext {u : Value} (h : Apart H u v) (he : H.length ≤ H'.length) : Apart H' u v := fun b hb => ⟨Nat.lt_of_lt_of_le (h b hb).1 he, (h b hb).2⟩
theorem Rs.apart {u : Value} (h : Rs el e H u xs) (ha : Apart H u v) (hf : Fr (home v) H H') : Rs el e H' u xs := h.keep fun b hb hl => hf.2 b hl (ha b hb).2
theorem Rw.apart {u : Value} (h : Rw el e sz H u xs) (ha : Apart H u v) (hf : Fr (home v) H H') : Rw el e sz H' u xs := h.keep fun b hb => hf.2 b (ha b hb).1 (ha b hb).2
theorem Ext.fr' {F : Nat → Prop} (h : Ext H H') : Fr F H H' := h.weak fun _ hf => hf.elim
theorem Rw.push2 (hsz : ∀ x, (el x).length = sz) (hall : ∀ x, allCells (el x) = true) (h0 : 0 < sz) {by' : Nat} {H0 : Heap} (h : Rw el e sz H v xs) (x : α) (hn : New H0 v) (he : Ext H0 H) (hr : roomy (xs.length + 1) by' = true) :
    ∃ v' H', Go.Abs.app e sz by' v (.slice (some ⟨H.length, 0, none⟩) 1 1) (H ++ [.cells (el x) e .row]) = some (v', H') ∧ Rw el e sz H' v' (xs ++ [x]) ∧ New H0 v' ∧ Ext H0 H' ∧ Fr (home v) H H' ∧ ∀ b, home v' b → Up (home v) H H' b := by
  have hw : Rr el e (H ++ [.cells (el x) e .row]) (.slice (some ⟨H.length, 0, none⟩) 1 1) [x] := one_rr (el := el) x H
  obtain ⟨v', H', h1, h2, h3, h4, h5⟩ := (h.on _).addS hsz hall h0 hw.rs hr
  have hl := he.1
  rw [List.length_append] at h3 h4 h5
  simp only [List.length_cons, List.length_nil] at h3 h4 h5
  refine ⟨v', H', h1, h2, fun b hb => ?_, ⟨by omega, fun b hb _ => ?_⟩, ⟨by omega, fun b hb hF => ?_⟩, fun b hb => ?_⟩
  · rcases h5 b hb with h | ⟨h, _⟩
    · exact hn b h
    · omega
  · rw [h4 b (by omega) (fun h => by have := hn b h; omega), List.getElem?_append_left (by omega), he.2 b hb id]
  · rw [h4 b (by omega) hF, List.getElem?_append_left hb]
  · rcases h5 b hb with h | ⟨h, h'⟩
    · exact .inl h
    · exact .inr ⟨by omega, h'⟩

theorem roomy_mono {n k by' : Nat} (h : roomy n by' = true) (hk : k ≤ n) : roomy k by' = true := by
  unfold roomy at *
  simp only [Bool.and_eq_true, decide_eq_true_eq] at *
  refine ⟨?_, by omega⟩
  have : (2 * k + 256) * by' ≤ (2 * n + 256) * by' := Nat.mul_le_mul_right _ (by omega)
  omega

/-- a slice that came in -/
theorem Sl.rs {b c : Nat} (h : Sl H v sz b (xs.map el)) (hsz : ∀ x, (el x).length = sz) (hv : v = .slice none 0 0 ∧ xs = [] ∨ v = .slice (some ⟨c, 0, none⟩) xs.length xs.length) : Rs el e H v xs := by
  rcases hv with ⟨rfl, rfl⟩ | rfl
  · exact .inl ⟨rfl, rfl⟩
  · refine .inr ⟨c, 0, xs.length, rfl, Nat.le_refl _, fun hne => ?_⟩
    have h0 : 0 < xs.length := List.length_pos_iff.mpr hne
    have ha := h.at_ 0 .i64 (by rw [List.length_map]; exact h0)
    rw [r_iAddr _ _ _ _ _ _ _ (by omega) (by omega)] at ha
    simp at ha
    subst ha
    obtain ⟨e', he⟩ := h.blk (by rw [List.length_map]; exact h0)
    exact ⟨e', .ro, [], [], rfl, (fun h => by cases h), by rw [he]; simp⟩
end

theorem Rw.shape {H : Heap} {α : Type} {el : α → List Value} {e : TypeId} {sz : Nat} {v : Value} {xs : List α} (h : Rw el e sz H v xs) : v.cells.toList = [v] ∧ allCells [v] = true := by
  rcases h with ⟨_, ⟨rfl, _⟩ | ⟨_, _, _, rfl, _⟩⟩ <;> exact ⟨rfl, rfl⟩

/-! ### integers -/
def inC (n : Int) : List Value := [.int .i64 n]
theorem inC_len (n : Int) : (inC n).length = 1 := rfl
theorem inC_all (n : Int) : allCells (inC n) = true := rfl
theorem inC_flat : ∀ zs : List Int, (zs.map inC).flatten = zs.map (Value.int .i64)
  | [] => rfl
  | z :: zs => by rw [List.map_cons, List.flatten_cons, inC_flat zs]; rfl

/-- slices.Sort of a slice that may grow -/
theorem sort_rw {e : TypeId} {H H0 : Heap} {v : Value} {zs : List Int} (h : Rw inC e 1 H v zs) (hl : zs.length < 4611686018427387904) (hn : New H0 v) (he : Ext H0 H) : ∃ H', sortP [v] H = some (.tuple #[], H') ∧ Rw inC e 1 H' v (srt zs) ∧ Ext H0 H' := by
  obtain ⟨hcs, ⟨rfl, h0⟩ | ⟨c, cap, rest, rfl, h1, h2, h3⟩⟩ := h
  · obtain rfl := List.length_eq_zero_iff.mp h0
    exact ⟨H, rfl, Rw.nil, he⟩
  · by_cases h0 : zs.length = 0
    · obtain rfl := List.length_eq_zero_iff.mp h0
      exact ⟨H, by simp [sortP], ⟨hcs, .inr ⟨c, cap, rest, rfl, h1, h2, h3⟩⟩, he⟩
    · rw [inC_flat] at hcs h3
      have hlen : (zs.map (Value.int .i64)).length = zs.length := List.length_map _
      refine ⟨H.set c (.cells ((srt zs).map (Value.int .i64) ++ rest) e .row), ?_, ⟨by rw [inC_flat, List.length_map]; simp, .inr ⟨c, cap, rest, ?_, ?_, ?_, ?_⟩⟩, ⟨by rw [List.length_set]; exact he.1, fun b hb _ => ?_⟩⟩
      · unfold sortP
        simp only
        rw [if_neg h0, h3]
        simp only
        rw [if_pos ⟨by rw [List.length_append, hlen]; omega, hl⟩, List.drop_zero, ← hlen, List.take_left, intsOf_map]
        have := setCells_mid ((srt zs).map (Value.int .i64)) (zs.map (Value.int .i64)) [] rest (by rw [List.length_map, List.length_map, srt_len])
        simp only [List.nil_append, List.length_nil] at this
        simp only
        rw [this]
      · rw [srt_len]
      · rw [srt_len]; exact h1
      · rw [srt_len]; exact h2
      · rw [inC_flat]
        exact List.getElem?_set_self (List.getElem?_eq_some_iff.mp h3).1
      · have : c ≠ b := fun hh => by
          have := hn c ⟨_, _, _, rfl⟩
          omega
        rw [List.getElem?_set_ne this, he.2 b hb id]
end Go.Abs
