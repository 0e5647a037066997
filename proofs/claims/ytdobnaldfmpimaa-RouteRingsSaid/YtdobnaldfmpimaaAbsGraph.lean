/-
  GRAPHS BY ROWS: what is reached, and whether a way goes round.
-/
import Derived.Test.YtdobnaldfmpimaaAbsRs
set_option linter.unusedSimpArgs false
set_option linter.unusedVariables false
namespace Go.Abs

/-- from one place to the next -/
def Eg (g : List (List Int)) (i k : Nat) : Prop := ∃ r, g[i]? = some r ∧ (k : Int) ∈ r
inductive Rch (g : List (List Int)) : Nat → Nat → Prop
  | one {i k : Nat} : Eg g i k → Rch g i k
  | step {i j k : Nat} : Rch g i j → Eg g j k → Rch g i k
def Cyc (g : List (List Int)) : Prop := ∃ i, Rch g i i
def Inn (g : List (List Int)) : Prop := ∀ r ∈ g, ∀ z ∈ r, 0 ≤ z ∧ z < (g.length : Int)

theorem Rch.head {g : List (List Int)} {i j k : Nat} (h : Eg g i j) (h' : Rch g j k) : Rch g i k := by
  induction h' with
  | one e => exact .step (.one h) e
  | step _ e ih => exact .step ih e
theorem Rch.tr {g : List (List Int)} {i j k : Nat} (h : Rch g i j) (h' : Rch g j k) : Rch g i k := by
  induction h' with
  | one e => exact .step h e
  | step _ e ih => exact .step ih e

/-! ### colours -/
/-- what is done is closed, and goes round nowhere -/
def Dn (g : List (List Int)) (C : List Int) : Prop := ∀ u : Nat, C[u]? = some 2 → (∀ k : Nat, Eg g u k → C[k]? = some 2) ∧ ¬ Rch g u u
theorem Dn.reach {g : List (List Int)} {C : List Int} (h : Dn g C) {u k : Nat} (hu : C[u]? = some 2) (hr : Rch g u k) : C[k]? = some 2 := by
  induction hr with
  | one e => exact (h _ hu).1 _ e
  | step _ e ih => exact (h _ ih).1 _ e
theorem Dn.finish {g : List (List Int)} {D : List Int} (h : Dn g D) {i : Nat} {r : List Int} (hi : D[i]? = some 1) (hr : g[i]? = some r) (hall : ∀ k : Nat, (k : Int) ∈ r → D[k]? = some 2) : Dn g (D.set i 2) := by
  have hl := (List.getElem?_eq_some_iff.mp hi).1
  have up : ∀ k : Nat, D[k]? = some 2 → (D.set i 2)[k]? = some 2 := fun k hk => by
    rw [List.getElem?_set]
    split
    · rename_i h
      subst h
      simp [hl]
    · exact hk
  intro u hu
  by_cases hui : u = i
  · subst hui
    refine ⟨fun k ⟨r', h1, h2⟩ => ?_, fun hc => ?_⟩
    · rw [hr] at h1
      cases h1
      exact up k (hall k h2)
    · have key : ∀ k : Nat, Rch g u k → D[k]? = some 2 := by
        intro k hk
        induction hk with
        | one e =>
          obtain ⟨r', h1, h2⟩ := e
          rw [hr] at h1
          cases h1
          exact hall _ h2
        | step _ e ih => exact (h _ ih).1 _ e
      have := key u hc
      rw [hi] at this
      cases this
  · rw [List.getElem?_set_ne (Ne.symm hui)] at hu
    exact ⟨fun k hk => up k ((h u hu).1 k hk), (h u hu).2⟩

/-! ### what is reached -/
def markL (s r : List Int) : List Int := r.foldl (fun s k => s.set k.toNat 1) s
def visit (g : List (List Int)) (a : Nat) (s : List Int) (i : Nat) : List Int := if i ≠ a ∧ s.getD i 0 = 0 then s else markL s (g.getD i [])
def roundF (g : List (List Int)) (a : Nat) (s : List Int) : List Int := (List.range g.length).foldl (visit g a) s
def reachF (g : List (List Int)) (a : Nat) : Nat → List Int
  | 0 => List.replicate g.length 0
  | n + 1 => roundF g a (reachF g a n)
def cycB (g : List (List Int)) : Bool := (List.range g.length).any fun i => (reachF g i g.length).getD i 0 == 1

/-- below: what is marked in one is in the other -/
def Le (s s' : List Int) : Prop := s.length = s'.length ∧ ∀ k : Nat, s[k]? = some 1 → s'[k]? = some 1
def Bin (s : List Int) : Prop := ∀ x ∈ s, x = 0 ∨ x = 1
theorem Le.refl (s : List Int) : Le s s := ⟨rfl, fun _ h => h⟩
theorem Le.trans {a b c : List Int} (h : Le a b) (h' : Le b c) : Le a c := ⟨h.1.trans h'.1, fun k hk => h'.2 k (h.2 k hk)⟩
theorem set_le (s : List Int) (k : Nat) : Le s (s.set k 1) := ⟨by simp, fun j hj => by
  rw [List.getElem?_set]
  split
  · rename_i h
    subst h
    simp [(List.getElem?_eq_some_iff.mp hj).1]
  · exact hj⟩
theorem Bin.set {s : List Int} (h : Bin s) (k : Nat) : Bin (s.set k 1) := fun x hx => by
  rcases List.mem_or_eq_of_mem_set hx with h1 | h1
  · exact h x h1
  · exact .inr h1
theorem markL_le : ∀ (r s : List Int), Le s (markL s r)
  | [], s => Le.refl s
  | k :: r, s => (set_le s k.toNat).trans (markL_le r (s.set k.toNat 1))
theorem markL_bin : ∀ (r s : List Int), Bin s → Bin (markL s r)
  | [], s, h => h
  | k :: r, s, h => markL_bin r _ (h.set _)
theorem markL_has : ∀ (r s : List Int) (k : Nat), (k : Int) ∈ r → k < s.length → (markL s r)[k]? = some 1
  | [], s, k, h, _ => by cases h
  | z :: r, s, k, h, hk => by
    rcases List.mem_cons.mp h with h | h
    · subst h
      refine (markL_le r (s.set (k : Int).toNat 1)).2 k ?_
      simp [hk]
    · exact markL_has r _ k h (by simpa using hk)
theorem markL_only : ∀ (r s : List Int) (k : Nat), (∀ z ∈ r, 0 ≤ z) → (markL s r)[k]? = some 1 → s[k]? = some 1 ∨ (k : Int) ∈ r
  | [], s, k, _, h => .inl h
  | z :: r, s, k, hz, h => by
    rcases markL_only r _ k (fun y hy => hz y (by simp [hy])) h with h1 | h1
    · rw [List.getElem?_set] at h1
      split at h1
      · rename_i hh
        have := hz z (by simp)
        exact .inr (by rw [List.mem_cons]; left; omega)
      · exact .inl h1
    · exact .inr (by simp [h1])

theorem visit_le (g : List (List Int)) (a : Nat) (s : List Int) (i : Nat) : Le s (visit g a s i) := by
  unfold visit
  split
  · exact Le.refl s
  · exact markL_le _ _
theorem visits_le (g : List (List Int)) (a : Nat) : ∀ (l : List Nat) (s : List Int), Le s (l.foldl (visit g a) s)
  | [], s => Le.refl s
  | i :: l, s => (visit_le g a s i).trans (visits_le g a l _)
theorem visits_bin (g : List (List Int)) (a : Nat) : ∀ (l : List Nat) (s : List Int), Bin s → Bin (l.foldl (visit g a) s)
  | [], s, h => h
  | i :: l, s, h => visits_bin g a l _ (by
    unfold visit
    split
    · exact h
    · exact markL_bin _ _ h)
theorem roundF_le (g : List (List Int)) (a : Nat) (s : List Int) : Le s (roundF g a s) := visits_le g a _ s
theorem roundF_bin (g : List (List Int)) (a : Nat) (s : List Int) (h : Bin s) : Bin (roundF g a s) := visits_bin g a _ s h

/-- all that is marked is reached -/
def Snd (g : List (List Int)) (a : Nat) (s : List Int) : Prop := ∀ k : Nat, s[k]? = some 1 → Rch g a k
theorem bin_get {s : List Int} (h : Bin s) {i : Nat} (hi : ¬ s.getD i 0 = 0) : s[i]? = some 1 := by
  rw [List.getD_eq_getElem?_getD] at hi
  cases hs : s[i]? with
  | none => rw [hs] at hi; simp at hi
  | some x =>
    rw [hs] at hi
    simp at hi
    rcases h x (List.mem_of_getElem? hs) with h | h
    · exact absurd h hi
    · rw [h]
theorem visit_snd {g : List (List Int)} {a : Nat} {s : List Int} {i : Nat} (hg : Inn g) (hb : Bin s) (h : Snd g a s) : Snd g a (visit g a s i) := by
  unfold visit
  split
  · exact h
  · rename_i hc
    intro k hk
    have hz : ∀ z ∈ g.getD i [], 0 ≤ z := fun z hz => by
      rw [List.getD_eq_getElem?_getD] at hz
      cases hg' : g[i]? with
      | none => rw [hg'] at hz; simp at hz
      | some r => rw [hg'] at hz; exact (hg r (List.mem_of_getElem? hg') z hz).1
    rcases markL_only _ _ k hz hk with h1 | h1
    · exact h k h1
    · rw [List.getD_eq_getElem?_getD] at h1
      cases hg' : g[i]? with
      | none => rw [hg'] at h1; simp at h1
      | some r =>
        rw [hg'] at h1
        have e : Eg g i k := ⟨r, hg', h1⟩
        by_cases hia : i = a
        · rw [← hia]; exact .one e
        · have : ¬ s.getD i 0 = 0 := fun hh => hc ⟨hia, hh⟩
          exact .step (h i (bin_get hb this)) e
theorem visits_snd {g : List (List Int)} {a : Nat} (hg : Inn g) : ∀ (l : List Nat) (s : List Int), Bin s → Snd g a s → Snd g a (l.foldl (visit g a) s)
  | [], s, _, h => h
  | i :: l, s, hb, h => visits_snd hg l _ (visits_bin g a [i] s hb) (visit_snd hg hb h)

/-- the marked ones -/
def ones (s : List Int) : Nat := s.countP (· == 1)
theorem ones_le : ∀ (s s' : List Int), Le s s' → ones s ≤ ones s'
  | [], [], _ => Nat.le_refl _
  | [], _ :: _, h => absurd h.1 (by simp)
  | _ :: _, [], h => absurd h.1 (by simp)
  | x :: s, y :: s', h => by
    have ih := ones_le s s' ⟨by simpa using h.1, fun k hk => by have := h.2 (k + 1) (by simpa using hk); simpa using this⟩
    have h0 := h.2 0
    simp only [List.getElem?_cons_zero, Option.some.injEq] at h0
    unfold ones at *
    simp only [List.countP_cons]
    by_cases hx : x = 1
    · rw [hx, h0 hx]; simp; exact ih
    · have : (x == 1) = false := by simp [hx]
      rw [this]
      simp only [Bool.false_eq_true, if_false]
      omega
theorem ones_eq : ∀ (s s' : List Int), Le s s' → Bin s → Bin s' → ones s' ≤ ones s → s = s'
  | [], [], _, _, _, _ => rfl
  | [], _ :: _, h, _, _, _ => absurd h.1 (by simp)
  | _ :: _, [], h, _, _, _ => absurd h.1 (by simp)
  | x :: s, y :: s', h, hb, hb', hc => by
    have hle : Le s s' := ⟨by simpa using h.1, fun k hk => by have := h.2 (k + 1) (by simpa using hk); simpa using this⟩
    have h1 := ones_le s s' hle
    have h0 := h.2 0
    simp only [List.getElem?_cons_zero, Option.some.injEq] at h0
    have bx := hb x (by simp)
    have by' := hb' y (by simp)
    unfold ones at *
    simp only [List.countP_cons] at hc
    have e : x = y := by
      rcases bx with bx | bx
      · rcases by' with by' | by'
        · rw [bx, by']
        · rw [bx, by'] at hc
          simp at hc
          omega
      · rw [bx, h0 bx]
    subst e
    rw [ones_eq s s' hle (fun z hz => hb z (by simp [hz])) (fun z hz => hb' z (by simp [hz])) (by unfold ones; omega)]
theorem ones_len (s : List Int) : ones s ≤ s.length := List.countP_le_length
theorem ones_all (s : List Int) (h : ones s = s.length) : ∀ k : Nat, k < s.length → s[k]? = some 1 := by
  intro k hk
  have := (List.countP_eq_length.mp h) s[k] (List.getElem_mem hk)
  rw [List.getElem?_eq_getElem hk]
  simpa using this

def Clo (g : List (List Int)) (a : Nat) (s : List Int) : Prop := ∀ i k : Nat, (i = a ∨ s[i]? = some 1) → Eg g i k → s[k]? = some 1
theorem fix_visits {g : List (List Int)} {a : Nat} : ∀ (l : List Nat) (s : List Int), Bin s → l.foldl (visit g a) s = s → ∀ i ∈ l, visit g a s i = s
  | [], s, _, _, i, h => by cases h
  | j :: l, s, hb, h, i, hi => by
    have h1 : Le s (visit g a s j) := visit_le g a s j
    have h2 : Le (visit g a s j) s := by
      have := visits_le g a l (visit g a s j)
      rw [List.foldl_cons] at h
      rw [h] at this
      exact this
    have e : visit g a s j = s := (ones_eq _ _ h1 hb (visits_bin g a [j] s hb) (ones_le _ _ h2)).symm
    rcases List.mem_cons.mp hi with rfl | hi
    · exact e
    · rw [List.foldl_cons, e] at h
      exact fix_visits l s hb h i hi
theorem fix_clo {g : List (List Int)} {a : Nat} {s : List Int} (hg : Inn g) (hl : s.length = g.length) (hb : Bin s) (h : roundF g a s = s) : Clo g a s := by
  rintro i k hi ⟨r, hr, hk⟩
  have hil := (List.getElem?_eq_some_iff.mp hr).1
  have := fix_visits _ s hb h i (List.mem_range.mpr hil)
  unfold visit at this
  have hc : ¬ (i ≠ a ∧ s.getD i 0 = 0) := by
    rintro ⟨h1, h2⟩
    rcases hi with hi | hi
    · exact h1 hi
    · rw [List.getD_eq_getElem?_getD, hi] at h2
      simp at h2
  rw [if_neg hc] at this
  have hkl := (hg r (List.mem_of_getElem? hr) k hk).2
  have h1 := markL_has (g.getD i []) s k (by rw [List.getD_eq_getElem?_getD, hr]; exact hk) (by omega)
  rw [this] at h1
  exact h1
theorem full_clo {g : List (List Int)} {a : Nat} {s : List Int} (hg : Inn g) (hl : s.length = g.length) (h : ones s = s.length) : Clo g a s := by
  rintro i k _ ⟨r, hr, hk⟩
  have hkl := (hg r (List.mem_of_getElem? hr) k hk).2
  exact ones_all s h k (by omega)

theorem reachF_len (g : List (List Int)) (a : Nat) : ∀ n, (reachF g a n).length = g.length
  | 0 => by simp [reachF]
  | n + 1 => by
    have := (roundF_le g a (reachF g a n)).1
    rw [reachF_len g a n] at this
    exact this.symm
theorem reachF_bin (g : List (List Int)) (a : Nat) : ∀ n, Bin (reachF g a n)
  | 0 => fun x hx => .inl (by simp [reachF] at hx; exact hx.2)
  | n + 1 => roundF_bin g a _ (reachF_bin g a n)
theorem reachF_snd {g : List (List Int)} (a : Nat) (hg : Inn g) : ∀ n, Snd g a (reachF g a n)
  | 0 => fun k hk => by
    simp only [reachF, List.getElem?_replicate] at hk
    split at hk <;> simp at hk
  | n + 1 => visits_snd hg _ _ (reachF_bin g a n) (reachF_snd a hg n)
theorem reachF_clo {g : List (List Int)} (a : Nat) (hg : Inn g) : ∀ n, Clo g a (reachF g a n) ∨ n ≤ ones (reachF g a n)
  | 0 => .inr (Nat.zero_le _)
  | n + 1 => by
    rcases reachF_clo a hg n with h | h
    · left
      have e : ∀ l : List Nat, l.foldl (visit g a) (reachF g a n) = reachF g a n := by
        intro l
        induction l with
        | nil => rfl
        | cons i l ih =>
          rw [List.foldl_cons]
          have : visit g a (reachF g a n) i = reachF g a n := by
            refine (ones_eq _ _ (visit_le g a _ i) (reachF_bin g a n) (visits_bin g a [i] _ (reachF_bin g a n)) ?_).symm
            refine ones_le _ _ ⟨(visit_le g a _ i).1.symm, fun k hk => ?_⟩
            unfold visit at hk
            split at hk
            · exact hk
            · rename_i hc
              have hz : ∀ z ∈ g.getD i [], 0 ≤ z := fun z hz => by
                rw [List.getD_eq_getElem?_getD] at hz
                cases hg' : g[i]? with
                | none => rw [hg'] at hz; simp at hz
                | some r => rw [hg'] at hz; exact (hg r (List.mem_of_getElem? hg') z hz).1
              rcases markL_only _ _ k hz hk with h1 | h1
              · exact h1
              · rw [List.getD_eq_getElem?_getD] at h1
                cases hg' : g[i]? with
                | none => rw [hg'] at h1; simp at h1
                | some r =>
                  rw [hg'] at h1
                  refine h i k ?_ ⟨r, hg', h1⟩
                  by_cases hia : i = a
                  · exact .inl hia
                  · exact .inr (bin_get (reachF_bin g a n) fun hh => hc ⟨hia, hh⟩)
          rw [this]
          exact ih
      show Clo g a (roundF g a (reachF g a n))
      unfold roundF
      rw [e]
      exact h
    · by_cases hx : roundF g a (reachF g a n) = reachF g a n
      · left
        show Clo g a (roundF g a (reachF g a n))
        rw [hx]
        exact fix_clo hg (reachF_len g a n) (reachF_bin g a n) hx
      · right
        show n + 1 ≤ ones (roundF g a (reachF g a n))
        have h1 := ones_le _ _ (roundF_le g a (reachF g a n))
        by_cases h2 : ones (roundF g a (reachF g a n)) ≤ ones (reachF g a n)
        · exact absurd (ones_eq _ _ (roundF_le g a _) (reachF_bin g a n) (roundF_bin g a _ (reachF_bin g a n)) h2).symm hx
        · omega
theorem reachF_iff {g : List (List Int)} (hg : Inn g) (a k : Nat) : (reachF g a g.length)[k]? = some 1 ↔ Rch g a k := by
  constructor
  · exact reachF_snd a hg g.length k
  · have hc : Clo g a (reachF g a g.length) := by
      rcases reachF_clo a hg g.length with h | h
      · exact h
      · refine full_clo hg (reachF_len g a _) ?_
        have := ones_len (reachF g a g.length)
        rw [reachF_len] at *
        omega
    intro hr
    induction hr with
    | one e => exact hc _ _ (.inl rfl) e
    | step _ e ih => exact hc _ _ (.inr ih) e
theorem cycB_iff {g : List (List Int)} (hg : Inn g) : cycB g = true ↔ Cyc g := by
  unfold cycB
  rw [List.any_eq_true]
  constructor
  · rintro ⟨i, hi, h⟩
    refine ⟨i, (reachF_iff hg i i).mp ?_⟩
    rw [List.getD_eq_getElem?_getD] at h
    cases hh : (reachF g i g.length)[i]? with
    | none => rw [hh] at h; simp at h
    | some x => rw [hh] at h; simp at h; rw [h]
  · rintro ⟨i, h⟩
    have hil : i < g.length := by
      cases h with
      | one e => obtain ⟨r, h1, _⟩ := e; exact (List.getElem?_eq_some_iff.mp h1).1
      | step h1 e =>
        obtain ⟨r, h2, h3⟩ := e
        have := (hg r (List.mem_of_getElem? h2) i h3).2
        omega
    refine ⟨i, List.mem_range.mpr hil, ?_⟩
    rw [List.getD_eq_getElem?_getD, (reachF_iff hg i i).mpr h]
    rfl
end Go.Abs
