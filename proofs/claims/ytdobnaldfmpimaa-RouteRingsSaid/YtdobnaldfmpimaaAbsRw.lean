/-
  SLICES OF RECORDS: to read (Rr), and to grow (Rw).
-/
import Derived.Test.YtdobnaldfmpimaaAbsQueue
set_option linter.unusedSectionVars false
set_option linter.unusedSimpArgs false
set_option linter.unusedVariables false
namespace Go.Abs

/-- a slice that may be read -/
def Rr {α : Type} (el : α → List Value) (e : TypeId) (H : Heap) (v : Value) (xs : List α) : Prop :=
  (v = .slice none 0 0 ∧ xs = []) ∨ ∃ b cap k pre post, v = .slice (some ⟨b, pre.length, none⟩) xs.length cap ∧ xs.length ≤ cap ∧ H[b]? = some (.cells (pre ++ (xs.map el).flatten ++ post) e k)

/-- a slice that may grow -/
def Rw {α : Type} (el : α → List Value) (e : TypeId) (sz : Nat) (H : Heap) (v : Value) (xs : List α) : Prop := RowC e sz H v xs.length (xs.map el).flatten

section
variable {α : Type} {el : α → List Value} {e : TypeId} {sz : Nat} {H H' : Heap} {v w : Value} {xs ys : List α}

theorem flat_all (hall : ∀ x, allCells (el x) = true) : ∀ xs : List α, allCells (xs.map el).flatten = true
  | [] => rfl
  | x :: xs => by
    have := flat_all hall xs
    have h := hall x
    unfold allCells at *
    rw [List.map_cons, List.flatten_cons, List.all_append, h, this]
    rfl

theorem Rw.nil : Rw el e sz H (.slice none 0 0) ([] : List α) := RowC.nil e sz H
theorem Rw.rr (h : Rw el e sz H v xs) : Rr el e H v xs := by
  obtain ⟨hcs, ⟨rfl, h0⟩ | ⟨c, cap, rest, rfl, h1, h2, h3⟩⟩ := h
  · exact .inl ⟨rfl, List.length_eq_zero_iff.mp h0⟩
  · exact .inr ⟨c, cap, .row, [], rest, rfl, h1, by rw [h3]; rfl⟩
theorem Rw.len (h : Rw el e sz H v xs) : lenSl v = some (.int .i64 xs.length) := RowC.len h
theorem Rw.keep (h : Rw el e sz H v xs) (hk : ∀ b, home v b → H'[b]? = H[b]?) : Rw el e sz H' v xs := RowC.keep h hk
theorem Rw.blk (h : Rw el e sz H v xs) {b : Nat} (hb : home v b) : ∃ cs, H[b]? = some (.cells cs e .row) := by
  obtain ⟨o, n', c', hv⟩ := hb
  obtain ⟨hcs, ⟨rfl, h0⟩ | ⟨c, cap, rest, rfl, h1, h2, h3⟩⟩ := h
  · cases hv
  · cases hv
    exact ⟨_, h3⟩
theorem Rw.lt (h : Rw el e sz H v xs) {b : Nat} (hb : home v b) : b < H.length := RowC.lt h b hb
theorem Rw.ch {A : Blk → Prop} (h : Rw el e sz H v xs) (hc : Ch A H H') (hA : ∀ cs, ¬ A (.cells cs e .row)) : Rw el e sz H' v xs := h.keep fun b hb => by
  obtain ⟨cs, hx⟩ := h.blk hb
  rw [hx]
  exact hc.2 b _ hx (hA cs)
theorem Rw.on (h : Rw el e sz H v xs) (G : Heap) : Rw el e sz (H ++ G) v xs := h.keep fun b hb => List.getElem?_append_left (h.lt hb)

theorem Rr.len (h : Rr el e H v xs) : lenSl v = some (.int .i64 xs.length) := by
  rcases h with ⟨rfl, rfl⟩ | ⟨b, cap, k, pre, post, rfl, _⟩ <;> rfl
theorem Rr.srcLen (h : Rr el e H v xs) : srcLen v = some xs.length := by
  rcases h with ⟨rfl, rfl⟩ | ⟨b, cap, k, pre, post, rfl, _⟩ <;> rfl
theorem Rr.keep (h : Rr el e H v xs) (hk : ∀ b, home v b → H'[b]? = H[b]?) : Rr el e H' v xs := by
  rcases h with h | ⟨b, cap, k, pre, post, rfl, h1, h2⟩
  · exact .inl h
  · exact .inr ⟨b, cap, k, pre, post, rfl, h1, by rw [hk b ⟨_, _, _, rfl⟩, h2]⟩
theorem Rr.blk (h : Rr el e H v xs) {b : Nat} (hb : home v b) : ∃ cs k, H[b]? = some (.cells cs e k) := by
  obtain ⟨o, n', c', hv⟩ := hb
  rcases h with ⟨rfl, _⟩ | ⟨b, cap, k, pre, post, rfl, h1, h2⟩
  · cases hv
  · cases hv
    exact ⟨_, _, h2⟩
theorem Rr.ch {A : Blk → Prop} (h : Rr el e H v xs) (hc : Ch A H H') (hA : ∀ cs k, ¬ A (.cells cs e k)) : Rr el e H' v xs := h.keep fun b hb => by
  obtain ⟨cs, k, hx⟩ := h.blk hb
  rw [hx]
  exact hc.2 b _ hx (hA cs k)
theorem Rr.lt (h : Rr el e H v xs) {b : Nat} (hb : home v b) : b < H.length := by
  obtain ⟨cs, k, hx⟩ := h.blk hb
  exact (List.getElem?_eq_some_iff.mp hx).1
theorem Rr.on (h : Rr el e H v xs) (G : Heap) : Rr el e (H ++ G) v xs := h.keep fun b hb => List.getElem?_append_left (h.lt hb)

theorem Rr.src (hsz : ∀ x, (el x).length = sz) (h : Rr el e H v xs) : srcCells sz v xs.length H = some (xs.map el).flatten := by
  have hl := flat_len (xs.map el) (rows_sz hsz)
  rw [List.length_map] at hl
  rcases h with ⟨rfl, rfl⟩ | ⟨b, cap, k, pre, post, rfl, h1, h2⟩
  · rfl
  · unfold srcCells
    by_cases h0 : xs.length = 0
    · obtain rfl := List.length_eq_zero_iff.mp h0
      simp
    · simp only
      rw [if_neg h0, h2]
      simp only
      rw [if_pos ⟨Nat.le_refl _, by simp only [List.length_append]; omega⟩, List.append_assoc, List.drop_left, ← hl, List.take_left]

/-- an element -/
theorem Rr.at_ (hsz : ∀ x, (el x).length = sz) (h : Rr el e H v xs) {i : Nat} {x : α} (hx : xs[i]? = some x) (k : IntKind) : ∃ b o, iAddr sz v (.int k i) = some (.pointer (some ⟨b, o, none⟩)) ∧ home v b ∧
    ∀ H' : Heap, H'[b]? = H[b]? → ldN sz (.pointer (some ⟨b, o, none⟩)) H' = some (.agg ⟨el x⟩, H') ∧
      (∀ j y, (el x)[j]? = some y → ld1 (.pointer (some ⟨b, o + j, none⟩)) H' = some (y, H')) ∧
      (∀ j n, j + n ≤ sz → ldN n (.pointer (some ⟨b, o + j, none⟩)) H' = some (.agg ⟨((el x).drop j).take n⟩, H')) := by
  have hi := (List.getElem?_eq_some_iff.mp hx).1
  have hl := flat_len (xs.map el) (rows_sz hsz)
  rw [List.length_map] at hl
  have hle : i * sz + sz ≤ xs.length * sz := by
    calc i * sz + sz = (i + 1) * sz := by rw [Nat.succ_mul]
      _ ≤ xs.length * sz := Nat.mul_le_mul_right _ hi
  rcases h with ⟨rfl, rfl⟩ | ⟨b, cap, kk, pre, post, rfl, h1, h2⟩
  · simp at hx
  · have htake := flat_take (xs.map el) (rows_sz hsz) i (el x) (by rw [List.getElem?_map, hx]; rfl)
    have hex := hsz x
    have hpart : ∀ j n, j + n ≤ sz → ((pre ++ (xs.map el).flatten ++ post).drop (pre.length + i * sz + j)).take n = ((el x).drop j).take n := by
      intro j n hjn
      have a1 : (pre ++ (xs.map el).flatten ++ post).drop (pre.length + i * sz + j) = ((xs.map el).flatten ++ post).drop (i * sz + j) := by
        rw [List.append_assoc, Nat.add_assoc, ← List.drop_drop, List.drop_left]
      have a2 : i * sz + j ≤ (xs.map el).flatten.length := by omega
      have a3 : n ≤ ((xs.map el).flatten.drop (i * sz + j)).length := by rw [List.length_drop]; omega
      rw [a1, List.drop_append_of_le_length a2, List.take_append_of_le_length a3, ← htake, List.drop_take, List.drop_drop, List.take_take, Nat.min_eq_left (by omega)]
    refine ⟨b, pre.length + i * sz, by rw [r_iAddr _ _ _ _ _ _ _ (by omega) (by omega)]; simp, ⟨_, _, _, rfl⟩, fun H' hH' => ⟨?_, fun j y hy => ?_, fun j n hjn => ?_⟩⟩
    · rw [x_ldN, hH', h2, x_ldNC _ _ _ _ _ (by simp only [List.length_append]; omega)]
      have := hpart 0 sz (by omega)
      rw [Nat.add_zero, List.drop_zero, List.take_of_length_le (l := el x) (by omega)] at this
      rw [this]
    · have hj : j < sz := by rw [← hex]; exact (List.getElem?_eq_some_iff.mp hy).1
      rw [x_ld1, hH', h2, x_ldC]
      have := hpart j 1 (by omega)
      have h3 : ((pre ++ (xs.map el).flatten ++ post).drop (pre.length + i * sz + j))[0]? = ((el x).drop j)[0]? := by
        have := congrArg (·[0]?) this
        simpa [List.getElem?_take] using this
      rw [List.getElem?_drop, List.getElem?_drop, Nat.add_zero, Nat.add_zero, hy] at h3
      rw [h3, x_cell]
    · rw [x_ldN, hH', h2, x_ldNC _ _ _ _ _ (by simp only [List.length_append]; omega), hpart j n hjn]

theorem Rr.sub {P : Program} (hsz : ∀ x, (el x).length = sz) (he : P.cellsOf e = sz) (h : Rr el e H v xs) {l r : Nat} {lo hi : Option Value} (h1 : bnd 0 lo = some l) (h2 : bnd xs.length hi = some r) (hlr : l ≤ r) (hr : r ≤ xs.length) :
    ∃ v', slc P sz v lo hi none H = some (v', H) ∧ Rr el e H v' ((xs.take r).drop l) ∧ ∀ b, home v' b → home v b := by
  have hl := flat_len (xs.map el) (rows_sz hsz)
  have hlen : ((xs.take r).drop l).length = r - l := by simp; omega
  rcases h with ⟨rfl, rfl⟩ | ⟨b, cap, k, pre, post, rfl, h3, h4⟩
  · have : r = 0 := by simpa using hr
    subst this
    obtain rfl : l = 0 := by omega
    refine ⟨.slice none 0 0, ?_, .inl ⟨rfl, rfl⟩, fun b hb => hb⟩
    unfold slc
    rw [h1, show bnd 0 hi = some 0 from h2]
    rfl
  · refine ⟨_, slc_is (sz := sz) h4 (fun _ => he) h1 h2 rfl hlr (by omega) (Nat.le_refl _), .inr ⟨b, cap - l, k, pre ++ ((xs.take l).map el).flatten, ((xs.drop r).map el).flatten ++ post, ?_, by rw [hlen]; omega, ?_⟩, ?_⟩
    · have hf := flat_len ((xs.take l).map el) (rows_sz hsz)
      rw [List.length_map, List.length_take, Nat.min_eq_left (by omega)] at hf
      rw [List.length_append, hf, hlen]
    · rw [h4]
      have : xs = xs.take l ++ ((xs.take r).drop l ++ xs.drop r) := by
        conv => lhs; rw [← List.take_append_drop l xs]
        congr 1
        have := List.take_append_drop (r - l) (xs.drop l)
        rw [List.drop_drop, List.take_drop] at this
        rw [show l + (r - l) = r by omega] at this
        exact this.symm
      congr 2
      conv => lhs; rw [this]
      simp only [List.map_append, List.flatten_append, List.append_assoc]
    · rintro b' ⟨o, n, c, hv⟩
      cases hv
      exact ⟨_, _, _, rfl⟩

/-- append -/
theorem Rw.add (hsz : ∀ x, (el x).length = sz) (hall : ∀ x, allCells (el x) = true) (h0 : 0 < sz) {by' : Nat} {e' : TypeId} (h : Rw el e sz H v xs) (hw : Rr el e' H w ys) (hr : roomy (xs.length + ys.length) by' = true) :
    ∃ v' H', app e sz by' v w H = some (v', H') ∧ Rw el e sz H' v' (xs ++ ys) ∧ H.length ≤ H'.length ∧ (∀ b, b < H.length → ¬ home v b → H'[b]? = H[b]?) ∧ (∀ b, home v' b → home v b ∨ (H.length ≤ b ∧ b < H'.length)) := by
  obtain ⟨v', H', h1, h2, h3⟩ := app_row h hw.srcLen (hw.src hsz) hr (flat_all hall ys) h0
  refine ⟨v', H', h1, ?_, h3⟩
  unfold Rw
  rw [List.length_append, List.map_append, List.flatten_append]
  exact h2

/-- one element, as a slice -/
theorem one_rr (x : α) (H : Heap) : Rr el e (H ++ [.cells (el x) e .row]) (.slice (some ⟨H.length, 0, none⟩) 1 1) [x] := .inr ⟨H.length, 1, .row, [], [], rfl, Nat.le_refl _, by simp⟩

end

section
variable {P : Program} {H : Heap} {pr : Prims} {f : FuncId} {n : Nat} {args : List Value}
/-- a call, of which one knows that it answers -/
theorem lvl_ex (hp : pr (.func f) = none) (hn : 0 < n) {Q : Heap → Value → Prop} (h : ∃ H' u, body P (lvl P pr (n - 1)) (loopN (n - 1)) f args H = some (u, H') ∧ Q H' u) : ∃ H' u, lvl P pr n (.func f) args H = some (u, H') ∧ Q H' u := by
  obtain ⟨H', u, h1, h2⟩ := h
  exact ⟨H', u, lvl_at hp hn h1, h2⟩
theorem lvl_ex1 (hp : pr (.func f) = none) (hn : 0 < n) {Q : Heap → Prop} {u : Value} (h : ∃ H', body P (lvl P pr (n - 1)) (loopN (n - 1)) f args H = some (u, H') ∧ Q H') : ∃ H', lvl P pr n (.func f) args H = some (u, H') ∧ Q H' := by
  obtain ⟨H', h1, h2⟩ := h
  exact ⟨H', lvl_at hp hn h1, h2⟩
end
end Go.Abs
