import Derived.Test.YtebcibedkcjbcaaAbsPool
import Derived.Test.YtebcibedkcjbcaaAbsPoolNew
set_option linter.unusedSimpArgs false
set_option linter.unusedVariables false
set_option maxRecDepth 100000
namespace Go.Proofs.Ytebcibedkcjbcaa
open Go.Abs

def nxt (n j : Nat) : Int := if j + 1 < n then (j : Int) + 1 else -1

/-- the first i slots have packets, in the order they came -/
structure Filled (l : List Slot) (n i : Nat) (x : Nat → Pkt) : Prop where
  len : l.length = n
  lo : ∀ j, j < i → j < n → ∃ q, l[j]? = some (some (q, x j), nxt n j)
  hi : ∀ j, i ≤ j → j < n → l[j]? = some (none, nxt n j)

theorem Filled.made (n : Nat) (x : Nat → Pkt) : Filled (made n) n 0 x :=
  ⟨made_len n, fun j h => absurd h (by omega), fun j _ h => made_get n j h⟩

theorem Filled.put {l : List Slot} {n i : Nat} {x : Nat → Pkt} (h : Filled l n i x) (hi : i < n) (q : Nat) : Filled (l.set i (some (q, x i), nxt n i)) n (i + 1) x := by
  have hl : i < l.length := by rw [h.len]; exact hi
  refine ⟨by rw [List.length_set, h.len], fun j hj hn => ?_, fun j hj hn => ?_⟩
  · by_cases e : i = j
    · subst e
      exact ⟨q, by rw [List.getElem?_set_self hl]⟩
    · rw [List.getElem?_set_ne e]
      exact h.lo j (by omega) hn
  · rw [List.getElem?_set_ne (by omega)]
    exact h.hi j (by omega) hn

/-- what is next to be filled, behind i of them -/
def topOf (n i : Nat) : Int := if i < n then (i : Int) else -1

theorem put_fill {pr : Prims} {H : Heap} {p s n i : Nat} {l : List Slot} {x : Nat → Pkt} (hn : pr (.func 20) = none) (h : IsPool H p s l (topOf n i) ((n : Int) - i)) (hf : Filled l n i x) (hi : i < n) (h200 : n ≤ 200) {m : Nat} (hm : 0 < m) :
    ∃ H' l', lvl Try.prog pr m (.func 20) [.pointer (some ⟨p, 0, none⟩), (x i).val] H = some (.tuple #[.int .i64 i, .bool true], H') ∧ IsPool H' p s l' (topOf n (i + 1)) ((n : Int) - (i + 1 : Nat)) ∧ Filled l' n (i + 1) x ∧
      H.length ≤ H'.length ∧ ∀ b, b < H.length → b ≠ p → b ≠ s → H'[b]? = H[b]? := by
  have ht : topOf n i = (i : Int) := if_pos hi
  rw [ht] at h
  have e := put_yes hn i h hm (x i) none (nxt n i) (hf.hi i (Nat.le_refl _) hi) (by omega) (by omega)
  have hx : nxt n i = topOf n (i + 1) := by
    unfold nxt topOf
    split <;> simp
  refine ⟨_, _, e, ?_, hf.put hi H.length, by simp, ?_⟩
  · have h' := h.app [pkB (x i)]
    have e2 : (n : Int) - i - 1 = (n : Int) - (i + 1 : Nat) := by omega
    rw [e2, ← hx]
    refine h'.turn _ (by simp) _ _ fun j q y d hj => ?_
    by_cases ej : i = j
    · subst ej
      have hl : i < l.length := by rw [hf.len]; exact hi
      rw [List.getElem?_set_self hl] at hj
      simp only [Option.some.injEq, Prod.mk.injEq] at hj
      obtain ⟨⟨rfl, rfl⟩, _⟩ := hj
      simp
    · rw [List.getElem?_set_ne ej] at hj
      exact h'.hq j q y d hj
  · intro b hb h1 h2
    rw [List.getElem?_set_ne (by omega), List.getElem?_set_ne (by omega), List.getElem?_append_left hb]

theorem put_full {pr : Prims} {H : Heap} {p s n i : Nat} {l : List Slot} (hn : pr (.func 20) = none) (h : IsPool H p s l (topOf n i) ((n : Int) - i)) (hi : n ≤ i) {m : Nat} (hm : 0 < m) (x : Pkt) :
    lvl Try.prog pr m (.func 20) [.pointer (some ⟨p, 0, none⟩), x.val] H = some (.tuple #[.int .i64 0, .bool false], H ++ [pkB x]) := by
  have ht : topOf n i = -1 := if_neg (by omega)
  rw [ht] at h
  exact put_no hn h hm x

end Go.Proofs.Ytebcibedkcjbcaa
