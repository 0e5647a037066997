/-
  A MAP AS A FUNCTION.
-/
import Derived.Test.YtcmmlgdbpnogjaaAbsByteRow
set_option linter.unusedSectionVars false
set_option linter.unusedSimpArgs false
set_option linter.unusedVariables false
namespace Go.Abs

section
variable {κ : Type} [DecidableEq κ]

theorem map_erase {α β : Type} (g : α → β) : ∀ (l : List α) (i : Nat), (l.map g).eraseIdx i = (l.eraseIdx i).map g
  | [], _ => rfl
  | a :: l, 0 => rfl
  | a :: l, i + 1 => by simp [map_erase g l i]

/-- keys as they lie in a map -/
structure KeyC (kt : KeyT) (enc : κ → Value) : Prop where
  eq : ∀ a b : κ, keyEq kt (enc a) (enc b) = some (decide (a = b))

def entV (enc : κ → Value) (e : κ × Value × Nat) : Ent := ⟨enc e.1, e.2.1, e.2.2⟩

def upd (f : κ → Option Value) (k : κ) (v : Option Value) : κ → Option Value := fun k' => if k' = k then v else f k'

structure MapI (enc : κ → Value) (es : List (κ × Value × Nat)) (clock : Nat) (f : κ → Option Value) : Prop where
  keys : (es.map (·.1)).Nodup
  born : (es.map (·.2.2)).Nodup
  lt : ∀ e ∈ es, e.2.2 < clock
  no : ∀ k, f k = none ↔ ∀ e ∈ es, e.1 ≠ k
  yes : ∀ (e : κ × Value × Nat), e ∈ es → f e.1 = some e.2.1

/-- a map that lies in a block -/
def IsMap (enc : κ → Value) (H : Heap) (mb : Nat) (f : κ → Option Value) : Prop := ∃ es clock, H[mb]? = some (.map (es.map (entV enc)) clock) ∧ MapI enc es clock f

variable {kt : KeyT} {enc : κ → Value} {H : Heap} {mb : Nat} {f : κ → Option Value}

theorem MapI.get {es : List (κ × Value × Nat)} {clock : Nat} (h : MapI enc es clock f) {k : κ} {v : Value} (hf : f k = some v) : ∃ (i : Nat) (b : Nat), es[i]? = some (k, v, b) := by
  by_cases hx : ∀ e ∈ es, e.1 ≠ k
  · rw [(h.no k).mpr hx] at hf
    cases hf
  · simp only [Classical.not_forall] at hx
    obtain ⟨e, he, hk⟩ := hx
    have hk : e.1 = k := Classical.not_not.mp hk
    have := h.yes e he
    rw [hk, hf] at this
    cases this
    obtain ⟨i, hi⟩ := List.getElem?_of_mem he
    exact ⟨i, e.2.2, by rw [hi, ← hk]⟩

theorem findK_none (hk : KeyC kt enc) (k : κ) : ∀ (es : List (κ × Value × Nat)) (j : Nat), (∀ e ∈ es, e.1 ≠ k) → findK kt (enc k) (es.map (entV enc)) j = some none
  | [], j, _ => rfl
  | e :: es, j, h => by
    have h1 : keyEq kt (enc k) (entV enc e).key = some false := by
      show keyEq kt (enc k) (enc e.1) = some false
      rw [hk.eq, decide_eq_false (fun hh => h e (by simp) hh.symm)]
    simp only [List.map_cons, findK, h1]
    exact findK_none hk k es (j + 1) fun e' he' => h e' (by simp [he'])

theorem findK_some (hk : KeyC kt enc) : ∀ (es : List (κ × Value × Nat)) (i j : Nat) (e : κ × Value × Nat), (es.map (·.1)).Nodup → es[i]? = some e → findK kt (enc e.1) (es.map (entV enc)) j = some (some (j + i, entV enc e))
  | [], i, j, e, _, h => by simp at h
  | x :: es, i, j, e, hn, h => by
    simp only [List.map_cons, List.nodup_cons] at hn
    cases i with
    | zero =>
      simp only [List.getElem?_cons_zero, Option.some.injEq] at h
      subst h
      have h1 : keyEq kt (enc x.1) (entV enc x).key = some true := by
        show keyEq kt (enc x.1) (enc x.1) = some true
        rw [hk.eq, decide_eq_true rfl]
      simp only [List.map_cons, findK, h1, Nat.add_zero]
    | succ i =>
      simp only [List.getElem?_cons_succ] at h
      have hne : e.1 ≠ x.1 := fun hh => hn.1 (by rw [← hh]; exact List.mem_map_of_mem (List.mem_of_getElem? h))
      have h1 : keyEq kt (enc e.1) (entV enc x).key = some false := by
        show keyEq kt (enc e.1) (enc x.1) = some false
        rw [hk.eq, decide_eq_false hne]
      simp only [List.map_cons, findK, h1]
      rw [findK_some hk es i (j + 1) e hn.2 h]
      congr 3
      omega

theorem self_key (hk : KeyC kt enc) (k : κ) : keyEq kt (enc k) (enc k) = some true := by rw [hk.eq, decide_eq_true rfl]

theorem IsMap.keep {H' : Heap} (h : IsMap enc H mb f) (hk : H'[mb]? = H[mb]?) : IsMap enc H' mb f := by
  obtain ⟨es, c, h1, h2⟩ := h
  exact ⟨es, c, by rw [hk, h1], h2⟩

theorem IsMap.get (hk : KeyC kt enc) (h : IsMap enc H mb f) (k : κ) (z : Value) : mapGet kt z false (.map (some mb)) (enc k) H = some ((f k).getD z, H) := by
  obtain ⟨es, c, h1, h2⟩ := h
  unfold mapGet
  rw [if_pos (self_key hk k)]
  simp only
  rw [h1]
  simp only
  cases hf : f k with
  | none =>
    rw [findK_none hk k es 0 ((h2.no k).mp hf)]
    rfl
  | some v =>
    obtain ⟨i, b, hi⟩ := h2.get hf
    rw [findK_some hk es i 0 _ h2.keys hi]
    rfl

theorem MapI.set {es : List (κ × Value × Nat)} {clock : Nat} (h : MapI enc es clock f) {k : κ} {v0 v : Value} {i b : Nat} (hi : es[i]? = some (k, v0, b)) : MapI enc (es.set i (k, v, b)) clock (upd f k (some v)) := by
  have hlt := (List.getElem?_eq_some_iff.mp hi).1
  have hmap1 : (es.set i (k, v, b)).map (·.1) = es.map (·.1) := by
    rw [List.map_set]
    apply List.ext_getElem?
    intro j
    by_cases hj : i = j
    · subst hj
      rw [List.getElem?_set_self (by simpa using hlt), List.getElem?_map, hi]
      rfl
    · rw [List.getElem?_set_ne hj]
  have hmap2 : (es.set i (k, v, b)).map (·.2.2) = es.map (·.2.2) := by
    rw [List.map_set]
    apply List.ext_getElem?
    intro j
    by_cases hj : i = j
    · subst hj
      rw [List.getElem?_set_self (by simpa using hlt), List.getElem?_map, hi]
      rfl
    · rw [List.getElem?_set_ne hj]
  refine ⟨by rw [hmap1]; exact h.keys, by rw [hmap2]; exact h.born, fun e he => ?_, fun k' => ?_, fun e he => ?_⟩
  · rcases List.mem_or_eq_of_mem_set he with he | rfl
    · exact h.lt e he
    · have := h.lt _ (List.mem_of_getElem? hi)
      exact this
  · unfold upd
    by_cases hk : k' = k
    · rw [if_pos hk]
      constructor
      · intro hh; cases hh
      · intro hh
        exact absurd hk.symm (hh (k, v, b) (List.mem_of_getElem? (List.getElem?_set_self hlt)))
    · rw [if_neg hk, h.no k']
      have key : ∀ e, e ∈ es.map (·.1) ↔ e ∈ (es.set i (k, v, b)).map (·.1) := fun e => by rw [hmap1]
      constructor
      · intro hh e he hek
        have := (key e.1).mpr (List.mem_map_of_mem he)
        obtain ⟨e', he', hee⟩ := List.mem_map.mp this
        exact hh e' he' (by rw [hee, hek])
      · intro hh e he hek
        have := (key e.1).mp (List.mem_map_of_mem he)
        obtain ⟨e', he', hee⟩ := List.mem_map.mp this
        exact hh e' he' (by rw [hee, hek])
  · unfold upd
    obtain ⟨j, hj⟩ := List.getElem?_of_mem he
    by_cases hij : i = j
    · subst hij
      rw [List.getElem?_set_self hlt] at hj
      cases hj
      rw [if_pos rfl]
    · rw [List.getElem?_set_ne hij] at hj
      have hne : e.1 ≠ k := fun hh => by
        have h1 : (es.map (·.1))[i]? = some k := by rw [List.getElem?_map, hi]; rfl
        have h2 : (es.map (·.1))[j]? = some k := by rw [List.getElem?_map, hj, ← hh]; rfl
        have l1 := (List.getElem?_eq_some_iff.mp h1)
        have l2 := (List.getElem?_eq_some_iff.mp h2)
        exact hij ((List.getElem_inj h.keys).mp (l1.2.trans l2.2.symm))
      rw [if_neg hne]
      exact h.yes e (List.mem_of_getElem? hj)

theorem MapI.push {es : List (κ × Value × Nat)} {clock : Nat} (h : MapI enc es clock f) {k : κ} (v : Value) (hf : f k = none) : MapI enc (es ++ [(k, v, clock)]) (clock + 1) (upd f k (some v)) := by
  have hno := (h.no k).mp hf
  refine ⟨?_, ?_, fun e he => ?_, fun k' => ?_, fun e he => ?_⟩
  · rw [List.map_append, List.nodup_append]
    refine ⟨h.keys, by simp, fun a ha b hb hab => ?_⟩
    obtain ⟨e, he, rfl⟩ := List.mem_map.mp ha
    simp at hb
    exact hno e he (hab.trans hb)
  · rw [List.map_append, List.nodup_append]
    refine ⟨h.born, by simp, fun a ha b hb hab => ?_⟩
    obtain ⟨e, he, rfl⟩ := List.mem_map.mp ha
    have := h.lt e he
    simp at hb
    omega
  · rcases List.mem_append.mp he with he | he
    · have := h.lt e he
      omega
    · rw [List.mem_singleton] at he
      subst he
      simp
  · unfold upd
    by_cases hk : k' = k
    · rw [if_pos hk]
      constructor
      · intro hh; cases hh
      · intro hh
        exact absurd hk.symm (hh (k, v, clock) (by simp))
    · rw [if_neg hk, h.no k']
      constructor
      · intro hh e he hek
        rcases List.mem_append.mp he with he | he
        · exact hh e he hek
        · rw [List.mem_singleton] at he
          subst he
          exact hk hek.symm
      · intro hh e he
        exact hh e (by simp [he])
  · unfold upd
    rcases List.mem_append.mp he with he | he
    · rw [if_neg (hno e he)]
      exact h.yes e he
    · rw [List.mem_singleton] at he
      subst he
      rw [if_pos rfl]

theorem MapI.erase {es : List (κ × Value × Nat)} {clock : Nat} (h : MapI enc es clock f) {k : κ} {v0 : Value} {i b : Nat} (hi : es[i]? = some (k, v0, b)) : MapI enc (es.eraseIdx i) clock (upd f k none) := by
  have hsub := List.eraseIdx_sublist es i
  have hlt := (List.getElem?_eq_some_iff.mp hi).1
  have hin : ∀ e, e ∈ es.eraseIdx i ↔ e ∈ es ∧ e.1 ≠ k := by
    intro e
    constructor
    · intro he
      refine ⟨hsub.subset he, fun hek => ?_⟩
      obtain ⟨j, hj⟩ := List.getElem?_of_mem he
      rw [List.getElem?_eraseIdx] at hj
      obtain ⟨j', hj', hne⟩ : ∃ j' : Nat, es[j']? = some e ∧ j' ≠ i := by
        by_cases hji : j < i
        · rw [if_pos hji] at hj
          exact ⟨j, hj, by omega⟩
        · rw [if_neg hji] at hj
          exact ⟨j + 1, hj, by omega⟩
      have h1 : (es.map (·.1))[i]? = some k := by rw [List.getElem?_map, hi]; rfl
      have h2 : (es.map (·.1))[j']? = some k := by rw [List.getElem?_map, hj', ← hek]; rfl
      have l1 := (List.getElem?_eq_some_iff.mp h1)
      have l2 := (List.getElem?_eq_some_iff.mp h2)
      exact hne ((List.getElem_inj h.keys).mp (l2.2.trans l1.2.symm))
    · rintro ⟨he, hek⟩
      obtain ⟨j, hj⟩ := List.getElem?_of_mem he
      have hne : j ≠ i := by
        rintro rfl
        rw [hi] at hj
        cases hj
        exact hek rfl
      by_cases hji : j < i
      · exact List.mem_of_getElem? (i := j) (by rw [List.getElem?_eraseIdx, if_pos hji, hj])
      · refine List.mem_of_getElem? (i := j - 1) ?_
        rw [List.getElem?_eraseIdx, if_neg (by omega), show j - 1 + 1 = j by omega, hj]
  refine ⟨(hsub.map _).nodup h.keys, (hsub.map _).nodup h.born, fun e he => h.lt e ((hin e).mp he).1, fun k' => ?_, fun e he => ?_⟩
  · unfold upd
    by_cases hk : k' = k
    · rw [if_pos hk]
      exact ⟨fun _ e he hek => ((hin e).mp he).2 (hek.trans hk), fun _ => rfl⟩
    · rw [if_neg hk, h.no k']
      constructor
      · intro hh e he
        exact hh e ((hin e).mp he).1
      · intro hh e he hek
        exact hh e ((hin e).mpr ⟨he, by rw [hek]; exact hk⟩) hek
  · unfold upd
    rw [if_neg ((hin e).mp he).2]
    exact h.yes e ((hin e).mp he).1

theorem map_set_ent (es : List (κ × Value × Nat)) (i : Nat) (e : κ × Value × Nat) : (es.map (entV enc)).set i (entV enc e) = (es.set i e).map (entV enc) := by rw [List.map_set]

theorem IsMap.set (hk : KeyC kt enc) (h : IsMap enc H mb f) (k : κ) (v : Value) (hf : f k ≠ none) : ∃ X, mapSet kt (.map (some mb)) (enc k) v H = some (undef, H.set mb X) ∧ IsMap enc (H.set mb X) mb (upd f k (some v)) ∧ ∃ es c, X = .map es c := by
  obtain ⟨es, c, h1, h2⟩ := h
  obtain ⟨v0, hv0⟩ := Option.ne_none_iff_exists'.mp hf
  obtain ⟨i, b, hi⟩ := h2.get hv0
  have hlt := (List.getElem?_eq_some_iff.mp h1).1
  refine ⟨.map ((es.set i (k, v, b)).map (entV enc)) c, ?_, ⟨_, c, by rw [List.getElem?_set_self hlt], h2.set hi⟩, _, _, rfl⟩
  unfold mapSet
  rw [if_pos (self_key hk k)]
  simp only
  rw [h1]
  simp only
  have := findK_some hk es i 0 _ h2.keys hi
  simp only at this
  rw [this]
  simp only [Nat.zero_add]
  rw [← map_set_ent]
  rfl

theorem IsMap.del (hk : KeyC kt enc) (h : IsMap enc H mb f) (k : κ) (hf : f k ≠ none) : ∃ X, mapDel kt (.map (some mb)) (enc k) H = some (.tuple #[], H.set mb X) ∧ IsMap enc (H.set mb X) mb (upd f k none) ∧ ∃ es c, X = .map es c := by
  obtain ⟨es, c, h1, h2⟩ := h
  obtain ⟨v0, hv0⟩ := Option.ne_none_iff_exists'.mp hf
  obtain ⟨i, b, hi⟩ := h2.get hv0
  have hlt := (List.getElem?_eq_some_iff.mp h1).1
  refine ⟨.map ((es.eraseIdx i).map (entV enc)) c, ?_, ⟨_, c, by rw [List.getElem?_set_self hlt], h2.erase hi⟩, _, _, rfl⟩
  unfold mapDel
  rw [if_pos (self_key hk k)]
  simp only
  rw [h1]
  simp only
  have := findK_some hk es i 0 _ h2.keys hi
  simp only at this
  rw [this]
  simp only [Nat.zero_add]
  rw [map_erase]

theorem born_at (es : List (κ × Value × Nat)) (hn : (es.map (·.2.2)).Nodup) {i : Nat} {e : κ × Value × Nat} (hi : es[i]? = some e) : (es.map (entV enc)).findIdx? (fun x => (x.born : Int) == (e.2.2 : Int)) = some i := by
  have hlt := (List.getElem?_eq_some_iff.mp hi).1
  have he := (List.getElem?_eq_some_iff.mp hi).2
  rw [List.findIdx?_eq_some_iff_getElem]
  refine ⟨by simpa using hlt, ?_, fun j hji => ?_⟩
  · simp [entV, he]
  · have hne : es[j].2.2 ≠ e.2.2 := fun hh => by
      have h1 : (es.map (·.2.2))[i]'(by simpa using hlt) = e.2.2 := by simp [he]
      have h2 : (es.map (·.2.2))[j]'(by simp; omega) = e.2.2 := by simp [hh]
      have := (List.getElem_inj hn).mp (h1.trans h2.symm)
      omega
    simp [entV]
    omega

/-- an entry is asked for, and stored -/
theorem IsMap.entry (hk : KeyC kt enc) (h : IsMap enc H mb f) (k : κ) (z : Value) : ∃ (b : Nat) (X : Blk), mapEnt kt z (.map (some mb)) (enc k) H = some (.tuple #[(f k).getD z, .int .i64 b], H.set mb X) ∧ (∃ es c, X = .map es c) ∧
    ∀ (H2 : Heap) (v : Value), H2[mb]? = some X → ∃ X', entSet (.map (some mb)) (.int .i64 b) v H2 = some (undef, H2.set mb X') ∧ IsMap enc (H2.set mb X') mb (upd f k (some v)) ∧ ∃ es c, X' = .map es c := by
  obtain ⟨es, c, h1, h2⟩ := h
  cases hf : f k with
  | none =>
    refine ⟨c, .map ((es ++ [(k, z, c)]).map (entV enc)) (c + 1), ?_, ⟨_, _, rfl⟩, fun H2 v hX => ?_⟩
    · unfold mapEnt
      rw [if_pos (self_key hk k)]
      simp only
      rw [h1]
      simp only
      rw [findK_none hk k es 0 ((h2.no k).mp hf)]
      simp [entV]
    · have hp := h2.push z hf
      have hi : (es ++ [(k, z, c)])[es.length]? = some (k, z, c) := by simp
      have hlt := (List.getElem?_eq_some_iff.mp hX).1
      have hs := hp.set (v := v) hi
      have hup : upd (upd f k (some z)) k (some v) = upd f k (some v) := by
        funext k'
        unfold upd
        split <;> rfl
      rw [hup] at hs
      refine ⟨.map (((es ++ [(k, z, c)]).set es.length (k, v, c)).map (entV enc)) (c + 1), ?_, ⟨_, _, by rw [List.getElem?_set_self hlt], hs⟩, _, _, rfl⟩
      unfold entSet
      simp only
      rw [hX]
      simp only
      have := born_at (enc := enc) (es ++ [(k, z, c)]) hp.born hi
      simp only at this
      rw [this]
      simp only
      rw [List.getElem?_map, hi]
      simp only [Option.map_some]
      rw [← map_set_ent]
      rfl
  | some v0 =>
    obtain ⟨i, b, hi⟩ := h2.get hf
    have hset : es.set i (k, v0, b) = es := by
      apply List.ext_getElem?
      intro j
      by_cases hj : i = j
      · subst hj
        rw [List.getElem?_set_self (List.getElem?_eq_some_iff.mp hi).1, hi]
      · rw [List.getElem?_set_ne hj]
    refine ⟨b, .map (es.map (entV enc)) c, ?_, ⟨_, _, rfl⟩, fun H2 v hX => ?_⟩
    · unfold mapEnt
      rw [if_pos (self_key hk k)]
      simp only
      rw [h1]
      simp only
      have := findK_some hk es i 0 _ h2.keys hi
      simp only at this
      rw [this]
      simp only [Nat.zero_add]
      have e1 : (⟨enc k, (entV enc (k, v0, b)).val, (entV enc (k, v0, b)).born⟩ : Ent) = entV enc (k, v0, b) := rfl
      rw [e1, map_set_ent, hset]
      rfl
    · have hlt := (List.getElem?_eq_some_iff.mp hX).1
      refine ⟨.map ((es.set i (k, v, b)).map (entV enc)) c, ?_, ⟨_, c, by rw [List.getElem?_set_self hlt], h2.set hi⟩, _, _, rfl⟩
      unfold entSet
      simp only
      rw [hX]
      simp only
      have := born_at (enc := enc) es h2.born hi
      simp only at this
      rw [this]
      simp only
      rw [List.getElem?_map, hi]
      simp only [Option.map_some]
      rw [← map_set_ent]
      rfl

theorem IsMap.new (H : Heap) : IsMap enc (H ++ [.map [] 0]) H.length (fun _ => none) :=
  ⟨[], 0, by simp, ⟨by simp, by simp, by simp, fun k => by simp, fun e he => by simp at he⟩⟩

end
end Go.Abs
