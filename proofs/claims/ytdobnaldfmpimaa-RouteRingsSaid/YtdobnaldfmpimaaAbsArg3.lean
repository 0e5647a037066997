/-
  ARGUMENTS OF ANY SLICE: laid into the heap; and what is read of them.
-/
import Derived.Test.YtdobnaldfmpimaaAbsArg2
set_option linter.unusedSimpArgs false
set_option linter.unusedVariables false
namespace Go.Abs
open Go.ChangeShapes Go.WideShapes Go.ChangeAt Go.RowKit Go.Deep

theorem arg_in {Hh : Type} {enc : TypeId × Value → Hh} {P : Program} {W : World} {S : List TypeId} {t e : TypeId} {b0 : Nat} {v : Value} {d : DataW Hh} {p : List MemPlace} (hz : S.all (okA P S) = true) (hS : t ∈ S) (ht : P.underlying t = some (.slice e))
    (hv : Value.okWide P W .any b0 t v) (hd : DataW.Trod enc P W 0 (fun _ => true) true t v d p) (hw : Fit P t d) {H : Heap} {ρ : Ren} (hi : In P W H ρ) :
    ∃ (G : Heap) (ρ' : Ren) (u : Value) (n : Nat), In P W (H ++ G) ρ' ∧ ρ.le ρ' ∧ Vr ρ' u v ∧ Rp P (H ++ G) n t [u] := by
  obtain ⟨fuel, hf⟩ := hd
  have hcell : v.cells.toList = [v] ∨ ∃ cs, v = .agg cs := by
    cases v with
    | agg cs => exact .inr ⟨cs, rfl⟩
    | _ => exact .inl rfl
  rcases hcell with hc | ⟨cs, rfl⟩
  · rw [hc] at hf
    have fin : 0 < W.heap.size → ∃ (G : Heap) (ρ' : Ren) (u : Value) (n : Nat), In P W (H ++ G) ρ' ∧ ρ.le ρ' ∧ Vr ρ' u v ∧ Rp P (H ++ G) n t [u] := by
      intro hW
      obtain ⟨G, ρ', cs', i', le', vs', rp⟩ := read_in hz hW fuel t [v] _ hS hf hw H ρ hi
      match cs', vs', rp with
      | [u], vs', rp => exact ⟨G, ρ', u, fuel, i', le', vs'.head, rp⟩
      | [], vs', _ => exact absurd vs'.1 (by simp)
      | _ :: _ :: _, vs', _ => exact absurd vs'.1 (by simp)
    rcases DataW.trod_slice ht hf with ⟨h0, _⟩ | ⟨a, len, cap, elems, rest, m, hm, h0, _⟩
    · cases h0
      refine ⟨[], ρ, .slice none 0 0, 1, by simpa using hi, Ren.le_refl _, .same rfl, ?_⟩
      unfold Rp
      rw [ht]
      exact ⟨_, 0, [], rfl, ⟨rfl, fun i k h => absurd h (by simp), fun h => absurd h (by simp)⟩, by simp, .inl rfl, fun r hr => by cases hr⟩
    · cases h0
      apply fin
      simp only [Value.okWide, ht, Cell.okWide, Cell.ok, World.has] at hv
      obtain ⟨_, _, _, hspot, row, cells, hsh, _⟩ := hv
      simp only [World.shape?] at hsh
      by_cases hx : 0 < W.heap.size
      · exact hx
      · rw [Array.getElem?_eq_none (by omega)] at hsh
        cases hsh
  · simp [Value.okWide, ht, Cell.okWide, Cell.ok] at hv

theorem okWide_sl {P : Program} {W : World} {b0 : Nat} {u : TypeId} {a : Addr} {n c : Nat} (h : Cell.okWide P W .any b0 u (.slice (some a) n c)) : 0 < W.heap.size := by
  unfold Cell.okWide at h
  have h2 : Cell.ok P W .any b0 u (.slice (some a) n c) := by
    revert h
    cases P.underlying u with
    | none => exact id
    | some d => cases d <;> exact id
  unfold Cell.ok at h2
  revert h2
  cases P.underlying u with
  | none => exact fun h => h.elim
  | some d =>
    cases d with
    | slice e =>
      intro h
      simp only [World.has] at h
      obtain ⟨_, _, _, hspot, row, cells, hsh, _⟩ := h
      simp only [World.shape?] at hsh
      by_cases hx : 0 < W.heap.size
      · exact hx
      · rw [Array.getElem?_eq_none (by omega)] at hsh
        cases hsh
    | _ => exact fun h => h.elim

/-- an argument that is a struct -/
theorem arg_str {Hh : Type} {enc : TypeId × Value → Hh} {P : Program} {W : World} {S : List TypeId} {t : TypeId} {fs : Array Field} {b0 : Nat} {v : Value} {d : DataW Hh} {p : List MemPlace} (hz : S.all (okA P S) = true) (hS : t ∈ S) (ht : P.underlying t = some (.struct fs))
    (hv : Value.okWide P W .any b0 t v) (hd : DataW.Trod enc P W 0 (fun _ => true) true t v d p) (hw : Fit P t d) {H : Heap} {ρ : Ren} (hi : In P W H ρ) :
    ∃ (G : Heap) (ρ' : Ren) (cs : List Value) (n : Nat), In P W (H ++ G) ρ' ∧ ρ.le ρ' ∧ Vr ρ' (.agg ⟨cs⟩) v ∧ Rp P (H ++ G) n t cs := by
  obtain ⟨fuel, hf⟩ := hd
  unfold Value.okWide at hv
  rw [ht] at hv
  obtain ⟨cs, rfl, _, ts, _, _, hrow⟩ := hv
  have hok : Hok W (Value.agg cs).cells.toList := by
    by_cases hx : 0 < W.heap.size
    · exact .inl hx
    · refine .inr fun v hv a n c he => hx ?_
      subst he
      obtain ⟨i, hi⟩ := List.getElem?_of_mem hv
      obtain ⟨u, _, hu⟩ := hrow i _ (by simpa [Value.cells] using hi)
      exact okWide_sl hu
  obtain ⟨G, ρ', cs', i', le', vs', rp⟩ := read_in' hz fuel t _ _ hS hf hw hok H ρ hi
  exact ⟨G, ρ', cs', fuel, i', le', .agg (by simpa [Value.cells] using vs'.1) (fun i u v hu hv => vs'.2 i u v (by simpa using hu) (by simpa [Value.cells] using hv)), rp⟩

section
variable {P : Program} {G : Heap} {n : Nat} {t : TypeId} {cs : List Value}

theorem Rp.slice' {e : TypeId} (ht : P.underlying t = some (.slice e)) (h : Rp P G n t cs) : ∃ m u b rows, cs = [u] ∧ Sl G u (P.cellsOf e) b rows ∧ rows.length * P.bytesOf e ≤ reachBytes ∧ (u = .slice none 0 0 ∨ ∃ c, u = .slice (some ⟨c, 0, none⟩) rows.length rows.length) ∧ ∀ r ∈ rows, r.length = P.cellsOf e ∧ Rp P G m e r := by
  cases n with
  | zero => exact absurd h (by unfold Rp; exact id)
  | succ m =>
    unfold Rp at h
    rw [ht] at h
    exact ⟨m, h⟩
theorem Rp.slice {e : TypeId} (ht : P.underlying t = some (.slice e)) (h : Rp P G n t cs) : ∃ m u b rows, cs = [u] ∧ Sl G u (P.cellsOf e) b rows ∧ rows.length * P.bytesOf e ≤ reachBytes ∧ (u = .slice none 0 0 ∨ ∃ c k, u = .slice (some ⟨c, 0, none⟩) rows.length k) ∧ ∀ r ∈ rows, r.length = P.cellsOf e ∧ Rp P G m e r := by
  obtain ⟨m, u, b, rows, h1, h2, h3, h4, h5⟩ := h.slice' ht
  exact ⟨m, u, b, rows, h1, h2, h3, h4.imp id fun ⟨c, hc⟩ => ⟨c, _, hc⟩, h5⟩
theorem Rp.fields {l : List (TypeId × Nat)} (hl : fieldsOf P t = some l) (h : Rp P G n t cs) : ∃ m, cs.length = P.cellsOf t ∧ ∀ f ∈ l, Rp P G m f.1 ((cs.drop f.2).take (P.cellsOf f.1)) := by
  cases n with
  | zero => exact absurd h (by unfold Rp; exact id)
  | succ m =>
    unfold fieldsOf at hl
    split at hl
    · rename_i fs hu
      cases hl
      unfold Rp at h
      rw [hu] at h
      refine ⟨m, h.1, fun f hf => ?_⟩
      obtain ⟨g, hg, rfl⟩ := List.mem_map.mp hf
      exact h.2 g hg
    · cases hl
theorem Rp.int {k : IntKind} (ht : P.underlying t = some (.int k)) (h : Rp P G n t cs) : ∃ i, cs = [.int k i] ∧ (Lit.int k i).wf = true := by
  cases n with
  | zero => exact absurd h (by unfold Rp; exact id)
  | succ m =>
    unfold Rp at h
    rw [ht] at h
    exact h
theorem Rp.bool (ht : P.underlying t = some .bool) (h : Rp P G n t cs) : ∃ b, cs = [.bool b] := by
  cases n with
  | zero => exact absurd h (by unfold Rp; exact id)
  | succ m =>
    unfold Rp at h
    rw [ht] at h
    exact h
theorem Rp.string (ht : P.underlying t = some .string) (h : Rp P G n t cs) : ∃ s : ByteArray, cs = [.string s] ∧ s.size ≤ reachBytes := by
  cases n with
  | zero => exact absurd h (by unfold Rp; exact id)
  | succ m =>
    unfold Rp at h
    rw [ht] at h
    exact h
end

theorem wf_i64 {a : Int} (h : (Lit.int .i64 a).wf = true) : -9223372036854775808 ≤ a ∧ a < 9223372036854775808 := by
  have e : ∀ z : Int, (Lit.int .i64 z).wf = (decide (-9223372036854775808 ≤ z) && decide (z ≤ 9223372036854775807)) := fun z => rfl
  rw [e] at h
  simp only [Bool.and_eq_true, decide_eq_true_eq] at h
  exact ⟨h.1, by omega⟩
theorem wf_u32 {a : Int} (h : (Lit.int .u32 a).wf = true) : 0 ≤ a ∧ a < 4294967296 := by
  have e : ∀ z : Int, (Lit.int .u32 z).wf = (decide (0 ≤ z) && decide (z ≤ 4294967295)) := fun z => rfl
  rw [e] at h
  simp only [Bool.and_eq_true, decide_eq_true_eq] at h
  exact ⟨h.1, by omega⟩
theorem wf_u8 {a : Int} (h : (Lit.int .u8 a).wf = true) : 0 ≤ a ∧ a < 256 := by
  have e : ∀ z : Int, (Lit.int .u8 z).wf = (decide (0 ≤ z) && decide (z ≤ 255)) := fun z => rfl
  rw [e] at h
  simp only [Bool.and_eq_true, decide_eq_true_eq] at h
  exact ⟨h.1, by omega⟩

/-- the weights of one argument among all -/
theorem fit_of {H : Type} {P : Program} {ts : List TypeId} {ds : List (DataW H)} (h : (DataW.weightsEach P ts ds).all (· ≤ reachBytes) = true) {j : Nat} {t : TypeId} {d : DataW H} (ht : ts[j]? = some t) (hd : ds[j]? = some d) : Fit P t d := fun n hn => by
  have := List.all_eq_true.1 h n (DataW.weights_mem_each ht hd n hn)
  simpa using this

end Go.Abs
