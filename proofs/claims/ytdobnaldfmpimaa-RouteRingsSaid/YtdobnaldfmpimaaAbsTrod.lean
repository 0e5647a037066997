/-
  WHAT A WORLD READS AS IS KEPT where the blocks that were there are as they were.
-/
import Derived.Test.YtdobnaldfmpimaaAbsRow
import Derived.OpenShut
set_option linter.unusedSimpArgs false
set_option linter.unusedVariables false
namespace Go.Abs
open Go.ChangeShapes Go.WideShapes

theorem mapM_kept {α β : Type} {f g : α → Option β} : ∀ (l : List α) (ys : List β), l.mapM f = some ys → (∀ a y, a ∈ l → f a = some y → y ∈ ys → g a = some y) → l.mapM g = some ys
  | [], ys, h, _ => by simpa using h
  | a :: l, ys, h, hg => by
    simp only [List.mapM_cons, Option.pure_def, Option.bind_eq_bind, Option.bind_eq_some_iff, Option.some.injEq] at h ⊢
    obtain ⟨y, hy, ys', hys, rfl⟩ := h
    exact ⟨y, hg a y (by simp) hy (by simp), ys', mapM_kept l ys' hys fun b z hb hz hm => hg b z (by simp [hb]) hz (by simp [hm]), rfl⟩

section
variable {H : Type} {enc : TypeId × Value → H} {P : Program} {W W' : World} {base : Nat} {held : Bool}

theorem cell_kept (hk : Kept W W') {a : Addr} {v : Value} (h : W.cell? a = some v) : W'.cell? a = some v := by
  have hlt : a.block < W.heap.size := by
    by_cases hl : a.block < W.heap.size
    · exact hl
    · rw [World.cell?, Array.getElem?_eq_none (by omega)] at h
      cases h
  rw [World.cell?, hk.same _ hlt]
  exact h

theorem cells_kept (hk : Kept W W') {a : Addr} {n : Nat} {cs : List Value} (h : W.cells? base a n = some cs) : W'.cells? base a n = some cs := by
  unfold World.cells? at h ⊢
  split at h
  · rename_i hb
    rw [if_pos hb]
    exact mapM_kept _ _ h fun i v _ hv _ => cell_kept hk hv
  · cases h

theorem row_mem (a : Addr) (n : Nat) (h : 0 < n) : ∃ p ∈ MemPlace.row a n, p.block = a.block := ⟨.cell a.block (a.off + 0), List.mem_map.mpr ⟨0, List.mem_range.mpr h, rfl⟩, rfl⟩

/-- types that are closed under what they are made of; elements of slices have a size; no interfaces -/
def okT (P : Program) (S : List TypeId) (t : TypeId) : Bool := match P.underlying t with
  | some (.pointer e) => S.contains e
  | some (.slice e) => decide (0 < P.cellsOf e) && S.contains e
  | some (.struct fs) => fs.toList.all fun f => S.contains f.type
  | some (.array _ e) => S.contains e
  | some (.map _ e) => S.contains e
  | some (.interface _) => false
  | _ => true

theorem okT_of {S : List TypeId} (hz : S.all (okT P S) = true) {t : TypeId} (ht : t ∈ S) : okT P S t = true := List.all_eq_true.mp hz t ht

theorem trod_kept (hk : Kept W W') {S : List TypeId} (hz : S.all (okT P S) = true) {sp : Nat → Bool} : ∀ (fuel : Nat) (t : TypeId) (cs : List Value) (x : DataW H × List MemPlace), t ∈ S →
    DataW.trod enc P W base (fun _ => true) held fuel t cs = some x → (∀ p ∈ x.2, sp p.block = true) → DataW.trod enc P W' base sp held fuel t cs = some x := by
  intro fuel
  induction fuel with
  | zero => intro t cs x _ h; simp [DataW.trod] at h
  | succ n ih =>
    intro t cs x hS h hx
    have hok := okT_of hz hS
    have elem : ∀ (e : TypeId) (a : Addr) (y : DataW H × List MemPlace), e ∈ S → (W.cells? base a (P.cellsOf e)).bind (DataW.trod enc P W base (fun _ => true) held n e) = some y → (∀ p ∈ y.2, sp p.block = true) →
        (W'.cells? base a (P.cellsOf e)).bind (DataW.trod enc P W' base sp held n e) = some y := by
      intro e a y he hy hp
      obtain ⟨cs', h1, h2⟩ := Option.bind_eq_some_iff.mp hy
      exact Option.bind_eq_some_iff.mpr ⟨cs', cells_kept hk h1, ih e cs' y he h2 hp⟩
    unfold DataW.trod at h ⊢
    split at h
    case h_6 e a hu =>
      obtain ⟨y, hy, rfl⟩ := Option.map_eq_some_iff.mp h
      have he : e ∈ S := by simpa [okT, hu] using hok
      rw [elem e a y he hy fun p hp => hx p (by simp [hp])]
      rfl
    case h_8 e a len cap hu =>
      have he : 0 < P.cellsOf e ∧ e ∈ S := by simpa [okT, hu] using hok
      simp only [hu]
      simp only at h
      split at h
      · rename_i hc
        rw [if_pos hc]
        simp only [if_true] at h
        obtain ⟨elems, h1, h⟩ := Option.bind_eq_some_iff.mp h
        obtain ⟨rest, h2, rfl⟩ := Option.map_eq_some_iff.mp h
        have m1 := mapM_kept (g := fun i => (W'.cells? base (a.add (i * P.cellsOf e)) (P.cellsOf e)).bind (DataW.trod enc P W' base sp held n e)) _ _ h1 fun i y _ hy hm => elem e _ y he.2 hy fun p hp => hx p (by
          simp only [List.mem_append, List.mem_flatMap]; exact .inr ⟨y, .inl hm, hp⟩)
        have m2 := mapM_kept (g := fun j => (W'.cells? base (a.add ((len + j) * P.cellsOf e)) (P.cellsOf e)).bind (DataW.trod enc P W' base sp held n e)) _ _ h2 fun i y _ hy hm => elem e _ y he.2 hy fun p hp => hx p (by
          simp only [List.mem_append, List.mem_flatMap]; exact .inr ⟨y, .inr hm, hp⟩)
        rw [m1]
        simp only [Option.bind_some]
        by_cases hs : sp a.block = true
        · rw [if_pos hs, m2]
          rfl
        · have h0 : (elems.length + rest.length) * P.cellsOf e = 0 := by
            by_cases hp : 0 < (elems.length + rest.length) * P.cellsOf e
            · obtain ⟨p, hp1, hp2⟩ := row_mem a _ hp
              exact absurd (by rw [← hp2]; exact hx p (by simp [hp1])) hs
            · omega
          have hpos := he.1
          have hr : rest = [] := by
            rcases Nat.mul_eq_zero.mp h0 with h0 | h0
            · exact List.length_eq_zero_iff.mp (by omega)
            · omega
          subst hr
          rw [if_neg hs]
          rfl
      · cases h
    case h_9 fs hu =>
      have he : ∀ f ∈ fs.toList, f.type ∈ S := by
        simp only [okT, hu, List.all_eq_true] at hok
        exact fun f hf => by simpa using hok f hf
      split at h
      · rename_i hc
        rw [if_pos hc]
        obtain ⟨xs, h1, rfl⟩ := Option.map_eq_some_iff.mp h
        rw [mapM_kept _ _ h1 fun f y hf hy hm => ih _ _ y (he f hf) hy fun p hp => hx p (by simp only [List.mem_flatMap]; exact ⟨y, hm, hp⟩)]
        rfl
      · cases h
    case h_10 m e hu =>
      have he : e ∈ S := by simpa [okT, hu] using hok
      split at h
      · rename_i hc
        rw [if_pos hc]
        obtain ⟨xs, h1, rfl⟩ := Option.map_eq_some_iff.mp h
        rw [mapM_kept _ _ h1 fun f y _ hy hm => ih _ _ y he hy fun p hp => hx p (by simp only [List.mem_flatMap]; exact ⟨y, hm, hp⟩)]
        rfl
      · cases h
    case h_12 m u v hu => simp [okT, hu] at hok
    case h_14 k e b hu =>
      have he : e ∈ S := by simpa [okT, hu] using hok
      split at h
      · rename_i es clock hb
        have hlt : b < W.heap.size := by
          by_cases hl : b < W.heap.size
          · exact hl
          · rw [Array.getElem?_eq_none (by omega)] at hb
            cases hb
        rw [hk.same b hlt, hb]
        simp only
        split at h
        · rename_i hc
          rw [if_pos hc]
          obtain ⟨entries, h1, h2⟩ := Option.bind_eq_some_iff.mp h
          simp only at h2
          split at h2
          · rename_i hr
            cases h2
            have m1 := mapM_kept (g := fun x : MapEntry => (keyOf P k x.key).bind fun key => if Value.formed P e x.val = true then Option.map (fun y => ((key, y.1), y.2)) (DataW.trod enc P W' base sp held n e x.val.cells.toList) else none) _ _ h1 fun en y _ hy hm => by
              obtain ⟨key, k1, k2⟩ := Option.bind_eq_some_iff.mp hy
              refine Option.bind_eq_some_iff.mpr ⟨key, k1, ?_⟩
              split at k2
              · rename_i hf
                rw [if_pos hf]
                obtain ⟨z, hz1, rfl⟩ := Option.map_eq_some_iff.mp k2
                rw [ih _ _ z he hz1 fun p hp => hx p (by simp only [List.mem_cons, List.mem_flatMap]; exact .inr ⟨_, hm, hp⟩)]
                rfl
              · cases k2
            rw [m1]
            simp only [Option.bind_some]
            rw [if_pos hr]
          · cases h2
        · cases h
      · cases h
    all_goals exact h

theorem trodAll_kept (hk : Kept W W') {S : List TypeId} (hz : S.all (okT P S) = true) {sp : Nat → Bool} : ∀ (ts : List TypeId) (vs : List Value) (ds : List (DataW H)) (ps : List MemPlace), (∀ t ∈ ts, t ∈ S) →
    DataW.TrodAll enc P W base (fun _ => true) held ts vs ds ps → (∀ p ∈ ps, sp p.block = true) → DataW.TrodAll enc P W' base sp held ts vs ds ps
  | [], vs, ds, ps, _, h, hx => by
    obtain ⟨rfl, rfl, rfl⟩ := trodAll_nil h
    exact trodAll_mk0
  | t :: ts, vs, ds, ps, hS, h, hx => by
    obtain ⟨v, vs', d, ds', p, p', rfl, rfl, rfl, h1, h2⟩ := trodAll_cons h
    refine trodAll_cons_mk ?_ (trodAll_kept hk hz ts vs' ds' p' (fun u hu => hS u (by simp [hu])) h2 fun q hq => hx q (by simp [hq]))
    obtain ⟨fuel, hf⟩ := h1
    exact ⟨fuel, trod_kept hk hz fuel t _ _ (hS t (by simp)) hf fun q hq => hx q (by simp; exact .inl hq)⟩

def fieldsOf (P : Program) (t : TypeId) : Option (List (TypeId × Nat)) := match P.underlying t with
  | some (.struct fs) => some (fs.toList.map fun f => (f.type, f.offset))
  | _ => none

theorem trod_fields {sp : Nat → Bool} {fuel : Nat} {t : TypeId} {cs : List Value} {x : DataW H × List MemPlace} {l : List (TypeId × Nat)} (hl : fieldsOf P t = some l) (h : DataW.trod enc P W base sp held fuel t cs = some x) :
    ∃ n, cs.length = P.cellsOf t ∧ ∀ (i : Nat) (f : TypeId × Nat), l[i]? = some f → ∃ y, DataW.trod enc P W base sp held n f.1 ((cs.drop f.2).take (P.cellsOf f.1)) = some y := by
  unfold fieldsOf at hl
  split at hl
  · rename_i fs hu
    cases hl
    obtain ⟨xs, n, _, _, hlen, hxs, hf⟩ := DataW.trod_struct hu h
    refine ⟨n, hlen, fun i f hi => ?_⟩
    rw [List.getElem?_map] at hi
    obtain ⟨g, hg, rfl⟩ := Option.map_eq_some_iff.mp hi
    have hg' : fs[i]? = some g := by simpa using hg
    rw [hf i g hg']
    have hlt : i < xs.length := by
      have := (Array.getElem?_eq_some_iff.mp hg').1
      omega
    exact ⟨xs[i], List.getElem?_eq_getElem hlt⟩
  · cases hl

end
end Go.Abs
