/-
  ROWS OF CELLS: a slice of structs is a block whose cells are rows of one length, one behind the other.
-/
import Derived.Test.YtdobnaldfmpimaaAbsEval
set_option linter.unusedSimpArgs false
set_option linter.unusedVariables false
namespace Go.Abs

theorem flat_len {sz : Nat} : ∀ (rows : List (List Value)), (∀ r ∈ rows, r.length = sz) → rows.flatten.length = rows.length * sz
  | [], _ => by simp
  | r :: rs, h => by
    rw [List.flatten_cons, List.length_append, h r (by simp), flat_len rs fun x hx => h x (by simp [hx]), List.length_cons, Nat.succ_mul]
    omega

theorem flat_get {sz : Nat} : ∀ (rows : List (List Value)), (∀ r ∈ rows, r.length = sz) → ∀ (i j : Nat), j < sz → rows.flatten[i * sz + j]? = (rows[i]?).bind (·[j]?)
  | [], _, i, j, hj => by simp
  | r :: rs, h, 0, j, hj => by
    have := h r (by simp)
    simp [List.getElem?_append_left (show j < r.length by omega)]
  | r :: rs, h, i + 1, j, hj => by
    have hr := h r (by simp)
    rw [List.flatten_cons, List.getElem?_append_right (by rw [hr, Nat.succ_mul]; omega)]
    have e : (i + 1) * sz + j - r.length = i * sz + j := by rw [hr, Nat.succ_mul]; omega
    rw [e, flat_get rs (fun x hx => h x (by simp [hx])) i j hj]
    simp

theorem set_app_left : ∀ (vs a b : List Value) (o : Nat), o + vs.length ≤ a.length → setCells (a ++ b) o vs = setCells a o vs ++ b
  | [], a, b, o, _ => by simp [setCells]
  | v :: vs, a, b, o, h => by
    simp only [setCells, List.length_cons] at h ⊢
    rw [List.set_append_left _ _ (by omega)]
    exact set_app_left vs (a.set o v) b (o + 1) (by simp; omega)

theorem set_app_right : ∀ (vs a b : List Value) (o : Nat), setCells (a ++ b) (a.length + o) vs = a ++ setCells b o vs
  | [], a, b, o => by simp [setCells]
  | v :: vs, a, b, o => by
    simp only [setCells]
    rw [List.set_append_right _ _ (by omega)]
    have e : a.length + o - a.length = o := by omega
    rw [e, show a.length + o + 1 = a.length + (o + 1) by omega]
    exact set_app_right vs a (b.set o v) (o + 1)

theorem flat_set {sz : Nat} : ∀ (rows : List (List Value)), (∀ r ∈ rows, r.length = sz) → ∀ (i j : Nat) (vs row : List Value), rows[i]? = some row → j + vs.length ≤ sz →
    setCells rows.flatten (i * sz + j) vs = (rows.set i (setCells row j vs)).flatten
  | [], _, i, j, vs, row, hi, _ => by simp at hi
  | r :: rs, h, 0, j, vs, row, hi, hj => by
    have hr := h r (by simp)
    simp at hi
    subst hi
    simp only [List.flatten_cons, List.set_cons_zero, Nat.zero_mul, Nat.zero_add]
    exact set_app_left vs r _ j (by omega)
  | r :: rs, h, i + 1, j, vs, row, hi, hj => by
    have hr := h r (by simp)
    simp only [List.flatten_cons, List.set_cons_succ]
    have e : (i + 1) * sz + j = r.length + (i * sz + j) := by rw [hr, Nat.succ_mul]; omega
    rw [e, set_app_right, flat_set rs (fun x hx => h x (by simp [hx])) i j vs row (by simpa using hi) hj]

theorem flat_take {sz : Nat} : ∀ (rows : List (List Value)), (∀ r ∈ rows, r.length = sz) → ∀ (i : Nat) (row : List Value), rows[i]? = some row → (rows.flatten.drop (i * sz)).take sz = row
  | [], _, i, row, hi => by simp at hi
  | r :: rs, h, 0, row, hi => by
    have hr := h r (by simp)
    simp at hi
    subst hi
    simp [← hr]
  | r :: rs, h, i + 1, row, hi => by
    have hr := h r (by simp)
    have e : (i + 1) * sz = r.length + i * sz := by rw [hr, Nat.succ_mul]; omega
    rw [List.flatten_cons, e, ← List.drop_drop, List.drop_left]
    exact flat_take rs (fun x hx => h x (by simp [hx])) i row (by simpa using hi)

end Go.Abs
