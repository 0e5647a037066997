/-
  A SLICE THAT IS CUT IN FRONT AND GROWS BEHIND (elements of one cell).
-/
import Derived.Test.YtdobnaldfmpimaaAbsByteRow
set_option linter.unusedSectionVars false
set_option linter.unusedSimpArgs false
set_option linter.unusedVariables false
namespace Go.Abs

def RowO (e : TypeId) (H : Heap) (v : Value) (cs : List Value) : Prop :=
  ∃ (c : Nat) (pre rest : List Value) (cap : Nat), v = .slice (some ⟨c, pre.length, none⟩) cs.length cap ∧ cap = cs.length + rest.length ∧ H[c]? = some (.cells (pre ++ cs ++ rest) e .row)

section
variable {e : TypeId} {H H' : Heap} {v : Value} {cs : List Value}

theorem RowO.keep (h : RowO e H v cs) (hk : ∀ b, home v b → H'[b]? = H[b]?) : RowO e H' v cs := by
  obtain ⟨c, pre, rest, cap, rfl, h1, h2⟩ := h
  exact ⟨c, pre, rest, cap, rfl, h1, by rw [hk c ⟨_, _, _, rfl⟩, h2]⟩
theorem RowO.len (h : RowO e H v cs) : lenSl v = some (.int .i64 cs.length) := by
  obtain ⟨c, pre, rest, cap, rfl, h1, h2⟩ := h
  rfl
theorem RowO.blk (h : RowO e H v cs) {b : Nat} (hb : home v b) : ∃ xs, H[b]? = some (.cells xs e .row) := by
  obtain ⟨c, pre, rest, cap, rfl, h1, h2⟩ := h
  obtain ⟨o, n, k, hh⟩ := hb
  cases hh
  exact ⟨_, h2⟩
theorem RowO.get (h : RowO e H v cs) {i : Nat} {x : Value} (hi : cs[i]? = some x) (k : IntKind) : ∃ b o, iAddr 1 v (.int k i) = some (.pointer (some ⟨b, o, none⟩)) ∧ home v b ∧ ∀ H' : Heap, H'[b]? = H[b]? → ld1 (.pointer (some ⟨b, o, none⟩)) H' = some (x, H') := by
  obtain ⟨c, pre, rest, cap, rfl, h1, h2⟩ := h
  have hlt := (List.getElem?_eq_some_iff.mp hi).1
  refine ⟨c, pre.length + i, ?_, ⟨_, _, _, rfl⟩, fun H' hH' => ?_⟩
  · rw [r_iAddr _ _ _ _ _ _ _ (by omega) (by omega)]
    simp
  · rw [x_ld1, hH', h2, x_ldC, List.append_assoc, List.getElem?_append_right (by omega), Nat.add_sub_cancel_left, List.getElem?_append_left hlt, hi, x_cell]

/-- without the first -/
theorem RowO.tail {P : Program} {x : Value} (h : RowO e H v (x :: cs)) (hsz : P.cellsOf e = 1) : ∃ v', slc P 1 v (some (.int .i64 1)) none none H = some (v', H) ∧ RowO e H v' cs ∧ ∀ b, home v' b → home v b := by
  obtain ⟨c, pre, rest, cap, rfl, h1, h2⟩ := h
  have g := slc_is (P := P) (H := H) (sz := 1) (o := pre.length) h2 (fun _ => hsz) (len := (x :: cs).length) (cap := cap) (hi := none) (mx := none) (bnd_nat 0 .i64 1) rfl rfl (by simp) (by omega) (Nat.le_refl _)
  refine ⟨_, g, ⟨c, pre ++ [x], rest, cap - 1, by simp, by simp at h1 ⊢; omega, by simpa using h2⟩, ?_⟩
  rintro b ⟨o, n, k, hh⟩
  cases hh
  exact ⟨_, _, _, rfl⟩

/-- one more behind -/
theorem RowO.push (h : RowO e H v cs) {w x : Value} {by' : Nat} (hs : srcLen w = some 1) (hc : srcCells 1 w 1 H = some [x]) (hr : roomy (cs.length + 1) by' = true) (ha : allCells [x] = true) :
    ∃ v' H', app e 1 by' v w H = some (v', H') ∧ RowO e H' v' (cs ++ [x]) ∧ H.length ≤ H'.length ∧ (∀ b, b < H.length → ¬ home v b → H'[b]? = H[b]?) ∧ (∀ b, home v' b → home v b ∨ (H.length ≤ b ∧ b < H'.length)) ∧ ∀ b, H.length ≤ b → b < H'.length → ∃ xs, H'[b]? = some (.cells xs e .row) := by
  obtain ⟨c, pre, rest, cap, rfl, h1, h2⟩ := h
  have hlt := (List.getElem?_eq_some_iff.mp h2).1
  by_cases hroom : cs.length + 1 ≤ cap
  · obtain ⟨r0, rest', rfl⟩ : ∃ r0 rest', rest = r0 :: rest' := by
      cases rest with
      | nil => simp at h1; omega
      | cons a b => exact ⟨a, b, rfl⟩
    have hset := setCells_mid [x] [r0] (pre ++ cs) rest' rfl
    refine ⟨.slice (some ⟨c, pre.length, none⟩) (cs.length + 1) cap, H.set c (.cells (pre ++ cs ++ [x] ++ rest') e .row), ?_, ⟨c, pre, rest', cap, by simp, by simp at h1 ⊢; omega, by rw [List.getElem?_set_self hlt]; simp⟩, by simp, fun b _ hh => get_set_ne fun hx => hh (by subst hx; exact ⟨_, _, _, rfl⟩), ?_, fun b h1 h2 => by simp at h2; omega⟩
    · unfold app
      rw [hs]
      simp only
      rw [hc]
      simp only
      rw [h2]
      simp only
      rw [if_pos hroom, if_neg (by simp), if_pos ⟨by decide, by simp; omega, ha⟩]
      have e1 : pre.length + cs.length * 1 = (pre ++ cs).length := by simp
      have e2 : pre ++ cs ++ r0 :: rest' = pre ++ cs ++ [r0] ++ rest' := by simp
      rw [e1, e2, hset]
    · rintro b ⟨o, n, k, hh⟩
      cases hh
      exact .inl ⟨_, _, _, rfl⟩
  · refine ⟨.slice (some ⟨H.length, 0, none⟩) (cs.length + 1) (cs.length + 1), H.set c .dead ++ [.cells (cs ++ [x]) e .row], ?_, ⟨H.length, [], [], cs.length + 1, by simp, by simp, by simp⟩, by simp, fun b hb hh => ?_, ?_, fun b h1 h2 => ?_⟩
    · unfold app
      rw [hs]
      simp only
      rw [hc]
      simp only
      rw [h2]
      simp only
      rw [if_neg hroom, if_pos (And.intro trivial (And.intro trivial (And.intro (by simp [List.length_append]) (And.intro hr ha)))), Nat.mul_one, List.append_assoc, List.drop_left, List.take_left]
    · rw [List.getElem?_append_left (by simpa using hb)]
      exact get_set_ne fun hx => hh (by subst hx; exact ⟨_, _, _, rfl⟩)
    · rintro b ⟨o, n, k, hh⟩
      cases hh
      exact .inr ⟨Nat.le_refl _, by simp⟩
    · simp at h2
      obtain rfl : b = H.length := by omega
      exact ⟨cs ++ [x], by simp⟩

/-- the first one -/
theorem push_nil {w x : Value} {by' : Nat} (hs : srcLen w = some 1) (hc : srcCells 1 w 1 H = some [x]) (hr : roomy 1 by' = true) :
    app e 1 by' (.slice none 0 0) w H = some (.slice (some ⟨H.length, 0, none⟩) 1 1, H ++ [.cells [x] e .row]) ∧ RowO e (H ++ [.cells [x] e .row]) (.slice (some ⟨H.length, 0, none⟩) 1 1) [x] := by
  refine ⟨?_, ⟨H.length, [], [], 1, rfl, rfl, by simp⟩⟩
  unfold app
  rw [hs]
  simp only
  rw [hc]
  simp only
  rw [if_neg (by decide), if_pos hr]
end
/-- blocks of a kind alone are written -/
def Ch (A : Blk → Prop) (H H' : Heap) : Prop := H.length ≤ H'.length ∧ ∀ (b : Nat) (x : Blk), H[b]? = some x → ¬ A x → H'[b]? = some x

theorem Ch.refl (A : Blk → Prop) (H : Heap) : Ch A H H := ⟨Nat.le_refl _, fun b x h _ => h⟩
theorem Ch.trans {A : Blk → Prop} {H H' H'' : Heap} (h : Ch A H H') (h' : Ch A H' H'') : Ch A H H'' := ⟨Nat.le_trans h.1 h'.1, fun b x hx hA => h'.2 b x (h.2 b x hx hA) hA⟩
theorem Ch.app (A : Blk → Prop) (H G : Heap) : Ch A H (H ++ G) := ⟨by simp, fun b x hx _ => by rw [List.getElem?_append_left (List.getElem?_eq_some_iff.mp hx).1, hx]⟩
theorem Ch.set {A : Blk → Prop} {H : Heap} {b : Nat} {x : Blk} (hb : H[b]? = some x) (hA : A x) (y : Blk) : Ch A H (H.set b y) := ⟨by simp, fun c z hz hn => by
  have hne : c ≠ b := fun hh => by
    subst hh
    rw [hb] at hz
    cases hz
    exact hn hA
  rw [get_set_ne hne, hz]⟩
theorem Ch.weak {A B : Blk → Prop} {H H' : Heap} (h : Ch A H H') (hAB : ∀ x, A x → B x) : Ch B H H' := ⟨h.1, fun b x hx hn => h.2 b x hx fun hA => hn (hAB x hA)⟩
theorem Ch.ext {A : Blk → Prop} {H H' : Heap} (h : Ext H H') : Ch A H H' := ⟨h.1, fun b x hx _ => by rw [h.2 b (List.getElem?_eq_some_iff.mp hx).1 id, hx]⟩


end Go.Abs
