/-
  THE POOL AS A LIST OF EMPTY SLOTS AND WHAT THE OTHERS HAVE.
-/
import Derived.Test.YtcmmlgdbpnogjaaAbsPl
set_option linter.unusedSectionVars false
set_option linter.unusedSimpArgs false
set_option linter.unusedVariables false
set_option maxRecDepth 100000
namespace Go.Proofs.Ytcmmlgdbpnogjaa
open Go.Abs

structure More (p s : Nat) (H H' : Heap) : Prop where
  len : H.length ≤ H'.length
  same : ∀ b, b < H.length → b ≠ p → b ≠ s → H'[b]? = H[b]?

theorem drop_yes' {pr : Prims} {H : Heap} {p s : Nat} {l : List Slot} {top free : Int} (hn : pr (.func 54) = none) (hn' : pr (.func 50) = none) (h : IsPool H p s l top free) {m : Nat} (hm : 1 < m) (i : Nat) (q : Nat × Pkt) (d : Int) (hi : l[i]? = some (some q, d)) (hf0 : 0 ≤ free) (hf1 : free < 1000) :
    ∃ H', lvl Try.prog pr m (.func 50) [.pointer (some ⟨p, 0, none⟩), .int .i64 i] H = some (.bool true, H') ∧ IsPool H' p s (l.set i (none, top)) i (free + 1) ∧ More p s H H' := by
  refine ⟨_, drop_yes hn hn' h hm i q d hi hf0 hf1, ?_, by simp, ?_⟩
  · refine h.turn _ (by simp) _ _ fun j q y d hj => ?_
    by_cases ej : i = j
    · subst ej
      have hl : i < l.length := (List.getElem?_eq_some_iff.mp hi).1
      rw [List.getElem?_set_self hl] at hj
      simp at hj
    · rw [List.getElem?_set_ne ej] at hj
      exact h.hq j q y d hj
  · intro b hb h1 h2
    rw [List.getElem?_set_ne (by omega), List.getElem?_set_ne (by omega)]


theorem nodup_len : ∀ (n : Nat) (l : List Nat), l.Nodup → (∀ x ∈ l, x < n) → l.length ≤ n
  | 0, l, _, h => by
    cases l with
    | nil => exact Nat.le_refl _
    | cons a _ => exact absurd (h a (by simp)) (by omega)
  | n + 1, l, hd, h => by
    have := nodup_len n (l.erase n) (hd.erase n) fun x hx => by
      rw [hd.mem_erase_iff] at hx
      have := h x hx.2
      have := hx.1
      omega
    rw [List.length_erase] at this
    split at this <;> omega

def FreeL (l : List Slot) : Int → List Nat → Prop
  | top, [] => top = -1
  | top, k :: ks => top = (k : Int) ∧ ∃ d, l[k]? = some (none, d) ∧ FreeL l d ks

theorem FreeL.set {l : List Slot} {i : Nat} {x : Slot} : ∀ (fl : List Nat) (top : Int), FreeL l top fl → i ∉ fl → FreeL (l.set i x) top fl
  | [], _, h, _ => h
  | k :: ks, top, ⟨h1, d, h2, h3⟩, hi => by
    simp only [List.mem_cons, not_or] at hi
    exact ⟨h1, d, by rw [List.getElem?_set_ne hi.1]; exact h2, FreeL.set ks d h3 hi.2⟩

structure Model (H : Heap) (p s : Nat) (l : List Slot) (top free : Int) (fl : List Nat) : Prop where
  pool : IsPool H p s l top free
  chain : FreeL l top fl
  nodup : fl.Nodup
  full : ∀ i, i ∈ fl ↔ ∃ d, l[i]? = some (none, d)
  cnt : free = fl.length
  len : l.length ≤ 200

section
variable {pr : Prims} {H : Heap} {p s : Nat} {l : List Slot} {top free : Int} {fl : List Nat}

theorem Model.fl_len (h : Model H p s l top free fl) : fl.length ≤ 200 := by
  refine Nat.le_trans (nodup_len l.length fl h.nodup fun x hx => ?_) h.len
  obtain ⟨d, hd⟩ := (h.full x).mp hx
  exact (List.getElem?_eq_some_iff.mp hd).1

theorem Model.app (h : Model H p s l top free fl) (G : Heap) : Model (H ++ G) p s l top free fl := ⟨h.pool.app G, h.chain, h.nodup, h.full, h.cnt, h.len⟩

theorem Model.drop (hn : pr (.func 54) = none) (hn' : pr (.func 50) = none) (h : Model H p s l top free fl) {m : Nat} (hm : 1 < m) (i : Nat) (q : Nat × Pkt) (d : Int) (hi : l[i]? = some (some q, d)) :
    ∃ H', lvl Try.prog pr m (.func 50) [.pointer (some ⟨p, 0, none⟩), .int .i64 i] H = some (.bool true, H') ∧ Model H' p s (l.set i (none, top)) i (free + 1) (i :: fl) ∧ More p s H H' := by
  have hl := h.fl_len
  have hc := h.cnt
  obtain ⟨H', e, hp, hm'⟩ := drop_yes' hn hn' h.pool hm i q d hi (by omega) (by omega)
  have hlt : i < l.length := (List.getElem?_eq_some_iff.mp hi).1
  have hni : i ∉ fl := fun hh => by
    obtain ⟨d', hd⟩ := (h.full i).mp hh
    rw [hi] at hd
    simp at hd
  refine ⟨H', e, ⟨hp, ⟨rfl, top, List.getElem?_set_self hlt, h.chain.set _ _ hni⟩, List.nodup_cons.mpr ⟨hni, h.nodup⟩, fun j => ?_, by rw [hc]; simp, by simpa using h.len⟩, hm'⟩
  by_cases ej : i = j
  · subst ej
    rw [List.getElem?_set_self hlt]
    simp
  · rw [List.getElem?_set_ne ej, List.mem_cons, ← h.full j]
    constructor
    · rintro (h1 | h1)
      · exact absurd h1.symm ej
      · exact h1
    · exact .inr

theorem Model.put (hn : pr (.func 49) = none) {k : Nat} {ks : List Nat} (h : Model H p s l top free (k :: ks)) {m : Nat} (hm : 0 < m) (x : Pkt) :
    ∃ H' q d, lvl Try.prog pr m (.func 49) [.pointer (some ⟨p, 0, none⟩), x.val] H = some (.tuple #[.int .i64 k, .bool true], H') ∧ Model H' p s (l.set k (some (q, x), d)) d (free - 1) ks ∧ k < l.length ∧
      H.length ≤ H'.length ∧ ∀ b, b < H.length → b ≠ p → b ≠ s → H'[b]? = H[b]? := by
  obtain ⟨ht, d, hk, hc⟩ := h.chain
  have hp := h.pool
  have hcnt := h.cnt
  have hfl := h.fl_len
  simp only [List.length_cons] at hcnt hfl
  rw [ht] at hp
  have hlt : k < l.length := (List.getElem?_eq_some_iff.mp hk).1
  have hnd := List.nodup_cons.mp h.nodup
  have e := put_yes hn k hp hm x none d hk (by omega) (by omega)
  refine ⟨_, H.length, d, e, ⟨?_, hc.set _ _ hnd.1, hnd.2, fun j => ?_, by omega, by simpa using h.len⟩, hlt, by simp, ?_⟩
  · have h' := hp.app [pkB x]
    refine h'.turn _ (by simp) _ _ fun j q y d' hj => ?_
    by_cases ej : k = j
    · subst ej
      rw [List.getElem?_set_self hlt] at hj
      simp only [Option.some.injEq, Prod.mk.injEq] at hj
      obtain ⟨⟨rfl, rfl⟩, _⟩ := hj
      simp
    · rw [List.getElem?_set_ne ej] at hj
      exact h'.hq j q y d' hj
  · by_cases ej : k = j
    · subst ej
      rw [List.getElem?_set_self hlt]
      simp [hnd.1]
    · rw [List.getElem?_set_ne ej, ← h.full j, List.mem_cons]
      constructor
      · exact .inr
      · rintro (h1 | h1)
        · exact absurd h1.symm ej
        · exact h1
  · intro b hb h1 h2
    rw [List.getElem?_set_ne (by omega), List.getElem?_set_ne (by omega), List.getElem?_append_left hb]

theorem Model.put0 (hn : pr (.func 49) = none) (h : Model H p s l top free []) {m : Nat} (hm : 0 < m) (x : Pkt) :
    lvl Try.prog pr m (.func 49) [.pointer (some ⟨p, 0, none⟩), x.val] H = some (.tuple #[.int .i64 0, .bool false], H ++ [pkB x]) := by
  have ht : top = -1 := h.chain
  have hp := h.pool
  rw [ht] at hp
  exact put_no hn hp hm x


end

theorem made_chain (n : Nat) : ∀ (r k : Nat), k + r = n → FreeL (made n) (if k < n then (k : Int) else -1) (List.range' k r)
  | 0, k, h => by
    rw [if_neg (by omega)]
    rfl
  | r + 1, k, h => by
    rw [if_pos (by omega), List.range'_succ]
    refine ⟨rfl, _, made_get n k (by omega), ?_⟩
    exact made_chain n r (k + 1) (by omega)

theorem made_model {H : Heap} (n : Nat) (h0 : 0 < n) (hn : n ≤ 200) : Model (heapN H (made n)) (H.length + 1) H.length (made n) 0 n (List.range n) := by
  refine ⟨made_pool n, ?_, List.nodup_range, fun i => ?_, by simp, by rw [made_len]; exact hn⟩
  · have := made_chain n n 0 (by omega)
    rw [← List.range_eq_range'] at this
    rw [if_pos h0] at this
    exact this
  · rw [List.mem_range]
    constructor
    · intro h
      exact ⟨_, made_get n i h⟩
    · rintro ⟨d, hd⟩
      have := (List.getElem?_eq_some_iff.mp hd).1
      rw [made_len] at this
      exact this


end Go.Proofs.Ytcmmlgdbpnogjaa
