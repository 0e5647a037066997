/-
  RECKONING OF SHALLOW FORMS BY REWRITING: memory words split off by the block they look at, so that each rule has no premise that must be guessed.
-/
import Derived.Test.YtdobnaldfmpimaaAbsSim
set_option linter.unusedSimpArgs false
set_option linter.unusedVariables false
namespace Go.Abs

section
variable {α : Type} {P : Program} {H : Heap}

theorem ob_congr {x y : Option (Value × Heap)} (h : x = y) (f : Value → Heap → Option α) : ob x f = ob y f := by rw [h]
theorem iteV_congr {x y : Value} (h : x = y) (a b : Option α) : iteV x a b = iteV y a b := by rw [h]
theorem ifB_congr {x y : Bool} (h : x = y) (a : Option α) : ifB x a = ifB y a := by rw [h]

def cellV (x : Option Value) (H : Heap) : Option (Value × Heap) := match x with
  | some v => some (v, H)
  | none => none
def ldC (x : Option Blk) (o : Nat) (H : Heap) : Option (Value × Heap) := match x with
  | some (.cells cs _ _) => cellV cs[o]? H
  | _ => none
def ldNC (x : Option Blk) (n o : Nat) (H : Heap) : Option (Value × Heap) := match x with
  | some (.cells cs _ _) => if o + n ≤ cs.length then some (.agg ((cs.drop o).take n).toArray, H) else none
  | _ => none
def stC (x : Option Blk) (b o : Nat) (vs : List Value) (H : Heap) : Option (Value × Heap) := match x with
  | some (.cells cs e k) => if k ≠ .ro ∧ o + vs.length ≤ cs.length ∧ allCells vs = true then some (undef, H.set b (.cells (setCells cs o vs) e k)) else none
  | _ => none

theorem x_ld1 (b o : Nat) : ld1 (.pointer (some ⟨b, o, none⟩)) H = ldC H[b]? o H := by
  unfold ld1 ldC cellV
  simp only
  cases H[b]? with
  | none => rfl
  | some x => cases x <;> rfl
theorem x_ldC (cs : List Value) (e : TypeId) (k : Kind) (o : Nat) : ldC (some (.cells cs e k)) o H = cellV cs[o]? H := rfl
theorem x_cell (v : Value) : cellV (some v) H = some (v, H) := rfl
theorem x_ldN (n b o : Nat) : ldN n (.pointer (some ⟨b, o, none⟩)) H = ldNC H[b]? n o H := by
  unfold ldN ldNC
  simp only
  cases H[b]? with
  | none => rfl
  | some x => cases x <;> rfl
theorem x_ldNC (cs : List Value) (e : TypeId) (k : Kind) (n o : Nat) (h : o + n ≤ cs.length) : ldNC (some (.cells cs e k)) n o H = some (.agg ((cs.drop o).take n).toArray, H) := if_pos h
theorem x_stN (n b o : Nat) (v : Value) (hn : v.cells.toList.length = n) : stN n (.pointer (some ⟨b, o, none⟩)) v H = stC H[b]? b o v.cells.toList H := by
  subst hn
  unfold stN stC
  simp only [true_and]
  cases H[b]? with
  | none => rfl
  | some x => cases x <;> rfl
theorem x_stC (b : Nat) (cs : List Value) (e : TypeId) (k : Kind) (o : Nat) (vs : List Value) (hk : k ≠ .ro) (ho : o + vs.length ≤ cs.length) (ha : allCells vs = true) :
    stC (some (.cells cs e k)) b o vs H = some (undef, H.set b (.cells (setCells cs o vs) e k)) := if_pos ⟨hk, ho, ha⟩
theorem x_newB (e : TypeId) (cs : List Value) (k : Kind) : newB e cs k H = some (.pointer (some ⟨H.length, 0, none⟩), H ++ [.cells cs e k]) := rfl

theorem x_sl (a : Nat) (H : Heap) (x : Blk) (h : a < H.length) : (H ++ [x])[a]? = H[a]? := List.getElem?_append_left h
theorem x_last (H : Heap) (x : Blk) : (H ++ [x])[H.length]? = some x := by simp

/-- a call at a level -/
theorem lvl_at {pr : Prims} {f : FuncId} (hp : pr (.func f) = none) {n : Nat} (hn : 0 < n) {args : List Value} {r : Option (Value × Heap)} (h : body P (lvl P pr (n - 1)) (loopN (n - 1)) f args H = r) :
    lvl P pr n (.func f) args H = r := by
  obtain ⟨m, rfl⟩ : ∃ m, n = m + 1 := ⟨n - 1, by omega⟩
  rw [lvl_body hp]
  exact h

theorem x_eqNil (t e : TypeId) (h : P.underlying t = some (.pointer e)) (a : Addr) : bin P .eql t (.pointer (some a)) (.pointer none) = some (.bool false) := (b_ptr t e h a).1
theorem x_neNil (t e : TypeId) (h : P.underlying t = some (.pointer e)) (a : Addr) : bin P .neq t (.pointer (some a)) (.pointer none) = some (.bool true) := (b_ptr t e h a).2
theorem x_eqNil0 (t e : TypeId) (h : P.underlying t = some (.pointer e)) : bin P .eql t (.pointer none) (.pointer none) = some (.bool true) := (b_nil t e h).1
theorem x_neNil0 (t e : TypeId) (h : P.underlying t = some (.pointer e)) : bin P .neq t (.pointer none) (.pointer none) = some (.bool false) := (b_nil t e h).2

theorem x_mkSlice (e : TypeId) (sz bytes : Nat) (zero : List Value) (k k' : IntKind) (n : Int) (h0 : 0 ≤ n) (hb : (bytes : Int) * n ≤ 2 ^ 48) (hn : n < 2 ^ 62) (hz : zero.length = sz) :
    mkSlice e sz bytes zero (.int k n) (.int k' n) H = some (.slice (some ⟨H.length, 0, none⟩) n.toNat n.toNat, H ++ [.cells (List.replicate n.toNat zero).flatten e .row]) := by
  simp only [mkSlice]
  rw [if_pos ⟨h0, Int.le_refl _, hb, hn, hz⟩]

end
end Go.Abs
