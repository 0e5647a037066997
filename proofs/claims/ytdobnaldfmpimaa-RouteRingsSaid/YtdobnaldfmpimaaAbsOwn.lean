/-
  SLICES OF THE FUNCTION'S OWN, written in place.
-/
import Derived.Test.YtdobnaldfmpimaaAbsArg
import Derived.Test.YtdobnaldfmpimaaAbsSimp
set_option linter.unusedSimpArgs false
set_option linter.unusedVariables false
namespace Go.Abs

/-- a slice that fills a block of its own -/
structure Own {α : Type} (el : α → List Value) (e : TypeId) (H : Heap) (v : Value) (b : Nat) (xs : List α) : Prop where
  val : v = .slice (some ⟨b, 0, none⟩) xs.length xs.length
  blk : H[b]? = some (.cells (xs.map el).flatten e .row)

/-- all blocks but those of slices of e are as they were -/
def KeepE (e : TypeId) (H H' : Heap) : Prop := ∀ (b : Nat) (x : Blk), H[b]? = some x → (∀ cs : List Value, x ≠ Blk.cells cs e .row) → H'[b]? = some x

theorem KeepE.set (e : TypeId) {H : Heap} {b : Nat} {cs cs' : List Value} (hb : H[b]? = some (.cells cs e .row)) : KeepE e H (H.set b (.cells cs' e .row)) := by
  intro c x hc hx
  have : b ≠ c := by
    intro h
    subst h
    rw [hb] at hc
    cases hc
    exact hx _ rfl
  rw [List.getElem?_set_ne this, hc]

section
variable {α : Type} {el : α → List Value} {e : TypeId} {H : Heap} {v : Value} {b sz : Nat} {xs : List α}

theorem rows_sz (hsz : ∀ x, (el x).length = sz) : ∀ r ∈ xs.map el, r.length = sz := fun r hr => by
  obtain ⟨y, _, rfl⟩ := List.mem_map.mp hr
  exact hsz y

theorem Own.at_ (h : Own el e H v b xs) (sz : Nat) (i : Nat) (k : IntKind) (hi : i < xs.length) : iAddr sz v (.int k i) = some (.pointer (some ⟨b, i * sz, none⟩)) := by
  rw [h.val, r_iAddr _ _ _ _ _ _ _ (by omega) (by omega)]
  simp

theorem Own.ldN (h : Own el e H v b xs) (hsz : ∀ x, (el x).length = sz) {i : Nat} {x : α} (hx : xs[i]? = some x) : ldN sz (.pointer (some ⟨b, i * sz, none⟩)) H = some (.agg ⟨el x⟩, H) := by
  have hl : i < xs.length := (List.getElem?_eq_some_iff.mp hx).1
  have hr := rows_sz (xs := xs) hsz
  have h3 : i * sz + sz ≤ (xs.map el).flatten.length := by
    rw [flat_len _ hr, List.length_map]
    calc i * sz + sz = (i + 1) * sz := by rw [Nat.succ_mul]
      _ ≤ xs.length * sz := Nat.mul_le_mul_right _ hl
  rw [x_ldN, h.blk, x_ldNC _ _ _ _ _ h3, flat_take _ hr i (el x) (by simp [hx])]

theorem Own.ld1 (h : Own el e H v b xs) (hsz : ∀ x, (el x).length = sz) {i j : Nat} {x : α} {w : Value} (hx : xs[i]? = some x) (hj : (el x)[j]? = some w) : ld1 (.pointer (some ⟨b, i * sz + j, none⟩)) H = some (w, H) := by
  have hr := rows_sz (xs := xs) hsz
  have hjs : j < sz := by
    have := (List.getElem?_eq_some_iff.mp hj).1
    rw [hsz] at this
    exact this
  rw [x_ld1, h.blk, x_ldC, flat_get _ hr _ _ hjs]
  simp [hx, hj, cellV]

/-- a whole element is written -/
theorem Own.st (h : Own el e H v b xs) (hsz : ∀ x, (el x).length = sz) (hall : ∀ x, allCells (el x) = true) {i : Nat} (hi : i < xs.length) (y : α) :
    stC H[b]? b (i * sz) (el y) H = some (undef, H.set b (.cells ((xs.set i y).map el).flatten e .row)) ∧ Own el e (H.set b (.cells ((xs.set i y).map el).flatten e .row)) v b (xs.set i y) := by
  have hr := rows_sz (xs := xs) hsz
  have hlen : i * sz + (el y).length ≤ (xs.map el).flatten.length := by
    rw [flat_len _ hr, List.length_map, hsz]
    calc i * sz + sz = (i + 1) * sz := by rw [Nat.succ_mul]
      _ ≤ xs.length * sz := Nat.mul_le_mul_right _ hi
  have whole : ∀ (vs row : List Value), row.length = vs.length → setCells row 0 vs = vs := by
    intro vs
    have gen : ∀ (vs pre row : List Value), row.length = vs.length → setCells (pre ++ row) pre.length vs = pre ++ vs := by
      intro vs
      induction vs with
      | nil => intro pre row h; simp at h; subst h; simp [setCells]
      | cons a vs ih =>
        intro pre row h
        match row, h with
        | c :: row, h =>
          simp only [setCells]
          have e1 : (pre ++ c :: row).set pre.length a = (pre ++ [a]) ++ row := by simp
          have := ih (pre ++ [a]) row (by simpa using h)
          rw [e1]
          simpa using this
    intro row h
    simpa using gen vs [] row h
  refine ⟨?_, ⟨by rw [h.val]; simp, by
    have := (List.getElem?_eq_some_iff.mp h.blk).1
    rw [List.getElem?_set_self this]⟩⟩
  rw [h.blk, stC_row _ _ _ _ _ (hall y) hlen]
  have hx : (xs.map el)[i]? = some (el xs[i]) := by simp [hi]
  have := flat_set (xs.map el) hr i 0 (el y) _ hx (by rw [hsz]; omega)
  rw [Nat.add_zero] at this
  rw [this, whole _ _ (by rw [hsz, hsz]), List.map_set]

theorem Own.keep {e' : TypeId} {H' : Heap} (h : Own el e H v b xs) (hk : KeepE e' H H') (hne : e ≠ e') : Own el e H' v b xs :=
  ⟨h.val, hk _ _ h.blk fun cs hc => hne (by injection hc)⟩

theorem Own.len (h : Own el e H v b xs) : lenSl v = some (.int .i64 xs.length) := by rw [h.val]; rfl

end

theorem Own.app {H : Heap} {α : Type} {el : α → List Value} {e : TypeId} {v : Value} {b : Nat} {xs : List α} (h : Own el e H v b xs) (G : Heap) : Own el e (H ++ G) v b xs :=
  ⟨h.val, by rw [List.getElem?_append_left (List.getElem?_eq_some_iff.mp h.blk).1, h.blk]⟩

theorem Sl.part {α : Type} {el : α → List Value} {H : Heap} {v : Value} {sz b : Nat} {xs : List α} (h : Sl H v sz b (xs.map el)) (hsz : ∀ x, (el x).length = sz) {i j n : Nat} {x : α} (hx : xs[i]? = some x) (hj : j + n ≤ sz) :
    Go.Abs.ldN n (.pointer (some ⟨b, i * sz + j, none⟩)) H = some (.agg ⟨((el x).drop j).take n⟩, H) := by
  obtain ⟨e, h1, h2, h3⟩ := h.row hsz hx
  rw [x_ldN, h1, x_ldNC _ _ _ _ _ (by omega), ← h2, List.drop_take, List.take_take, List.drop_drop, Nat.min_eq_left (by omega)]

theorem r_gdu {H : Heap} (w : Bool) (m : M Value) : gd undef w m H = some (undef, H) := rfl
theorem r_gdu2 {H : Heap} (w : Bool) (m : Heap → Option (Value × Heap)) : gd undef w m H = some (undef, H) := rfl

theorem chk_int (k : IntKind) (a : Int) (H : Heap) : chk (some (.int k a, H)) (.int k a) = true := by simp [chk, veq]

end Go.Abs
