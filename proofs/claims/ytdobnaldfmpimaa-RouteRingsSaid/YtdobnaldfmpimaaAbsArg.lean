/-
  ARGUMENTS: a slice that comes in is a block that is only read.
-/
import Derived.Test.YtdobnaldfmpimaaAbsTrod
import Derived.Test.YtdobnaldfmpimaaAbsRows
import Derived.Deep.Slices
set_option linter.unusedSimpArgs false
set_option linter.unusedVariables false
namespace Go.Abs
open Go.ChangeShapes Go.WideShapes Go.ChangeAt Go.RowKit Go.Deep

/-- a heap of blocks that are only read, and where they lie -/
structure In (P : Program) (W : World) (H : Heap) (ρ : Ren) : Prop where
  rel : Rel P ρ (getH H) W
  ro : ∀ b pl, ρ b = some pl → wr H[b]? = false
  dom : ∀ b, H.length ≤ b → ρ b = none

theorem In.nil (P : Program) (W : World) : In P W [] (fun _ => none) := ⟨rel_nil P W, fun b pl h => (by cases h), fun _ _ => rfl⟩

theorem In.add {P : Program} {W : World} {H : Heap} {ρ : Ren} (h : In P W H ρ) (c o : Nat) (cs : List Value) (e : TypeId) {ccs : Array Value} {ce : TypeId} {fr : Nat × Nat} (hb : W.heap[c]? = some (.cells ccs ce fr))
    (hc : ∀ (i : Nat) (v : Value), cs[i]? = some v → ccs[o + i]? = some v) (hl : ∀ v ∈ cs, litCell v = true) : In P W (H ++ [.cells cs e .ro]) (ρ.upd H.length ⟨c, o, none⟩) := by
  have hlt : c < W.heap.size := by
    by_cases hx : c < W.heap.size
    · exact hx
    · rw [Array.getElem?_eq_none (by omega)] at hb
      cases hb
  have hle : ρ.le (ρ.upd H.length ⟨c, o, none⟩) := Ren.le_upd _ (h.dom _ (Nat.le_refl _))
  have hblk : ∀ b, b < H.length → (H ++ [.cells cs e .ro])[b]? = H[b]? := fun b hb => List.getElem?_append_left hb
  have hnew : (H ++ [Blk.cells cs e .ro])[H.length]? = some (.cells cs e .ro) := by simp
  have old : ∀ b pl, ρ b = some pl → b < H.length := fun b pl hp => by
    by_cases hx : b < H.length
    · exact hx
    · rw [h.dom b (by omega)] at hp
      cases hp
  have hro : ∀ b pl, ρ.upd H.length ⟨c, o, none⟩ b = some pl → wr (H ++ [.cells cs e .ro])[b]? = false := by
    intro b pl hp
    unfold Ren.upd at hp
    split at hp
    · rename_i hbl
      subst hbl
      rw [hnew]
      rfl
    · rw [hblk b (old b pl hp)]
      exact h.ro b pl hp
  refine ⟨⟨?_, ?_, ?_⟩, hro, ?_⟩
  · intro b pl hp
    unfold Ren.upd at hp
    split at hp
    · cases hp
      exact hlt
    · exact h.rel.lt b pl hp
  · intro b pl x hp hx
    unfold Ren.upd at hp
    split at hp
    · rename_i hbl
      subst hbl
      cases hp
      have hx' : (H ++ [Blk.cells cs e .ro])[H.length]? = some x := hx
      rw [hnew] at hx'
      cases hx'
      obtain ⟨lo, hi⟩ := fr
      exact ⟨ccs, ce, lo, hi, hb, fun i v hi => ⟨v, hc i v hi, .same (hl v (List.mem_of_getElem? hi))⟩, fun hk => absurd rfl hk, fun hk => (by cases hk), fun _ => rfl⟩
    · have hx' : (H ++ [Blk.cells cs e .ro])[b]? = some x := hx
      rw [hblk b (old b pl hp)] at hx'
      exact (h.rel.blk b pl x hp hx').mono hle
  · intro b1 b2 p1 p2 hne h1 h2 hw
    rw [hro b1 p1 h1] at hw
    cases hw
  · intro b hb
    unfold Ren.upd
    simp only [List.length_append, List.length_cons, List.length_nil] at hb
    rw [if_neg (by omega)]
    exact h.dom b (by omega)

theorem call_in {P : Program} {pr : Prims} (hp : PrimsOk P pr) (hmix : P.follows .mixedOrders = true) {n : Nat} {f : FuncId} {args args' : List Value} {b : Bool} {H H' : Heap} {ρ : Ren} {W : World} (hi : In P W H ρ)
    (h : lvl P pr n (.func f) args H = some (.bool b, H')) (ha : Vrs ρ args args') :
    Calls P f args'.toArray W fun e w' => e = .returned (.bool b) ∧ Kept W w' := by
  refine (lvl_sound hp hmix n (.func f) args H _ _ h ρ W args' hi.rel ha (fun b h1 _ => hi.dom b h1)).2.mono ?_
  intro e w' ⟨v, he, ρ', hv, hs⟩
  have hvb : v = .bool b := by cases hv with | same _ => rfl
  subst hvb
  exact ⟨he, Kept.of_step hs hi.ro⟩

theorem addr_add (c o k : Nat) : Addr.add ⟨c, o, none⟩ k = ⟨c, o + k, none⟩ := by
  unfold Addr.add
  split
  · simp_all
  · rfl

/-- a slice that comes in, of elements of flat cells -/
theorem open_rows {Hh : Type} {enc : TypeId × Value → Hh} {P : Program} {W : World} {t e : TypeId} {b0 : Nat} {v : Value} {d : DataW Hh} {p : List MemPlace} {Q : List Value → Prop} (ht : P.underlying t = some (.slice e))
    (hv : Value.okWide P W .any b0 t v) (hd : DataW.Trod enc P W 0 (fun _ => true) true t v d p)
    (hQ : ∀ (fuel : Nat) (cs : List Value) (x : DataW Hh × List MemPlace), DataW.trod enc P W 0 (fun _ => true) true fuel e cs = some x → Q cs ∧ ∀ c ∈ cs, litCell c = true) :
    v = .slice none 0 0 ∨ ∃ (c o cap : Nat) (rows : List (List Value)), v = .slice (some ⟨c, o, none⟩) rows.length cap ∧ rows.length ≤ cap ∧ (∀ r ∈ rows, r.length = P.cellsOf e ∧ Q r ∧ ∀ c ∈ r, litCell c = true) ∧
      ∃ (ccs : Array Value) (ce : TypeId) (fr : Nat × Nat), W.heap[c]? = some (.cells ccs ce fr) ∧ ∀ (i : Nat) (v : Value), rows.flatten[i]? = some v → ccs[o + i]? = some v := by
  obtain ⟨fuel, hf⟩ := hd
  have hcell : v.cells.toList = [v] ∨ ∃ cs, v = .agg cs := by
    cases v with
    | agg cs => exact .inr ⟨cs, rfl⟩
    | _ => exact .inl rfl
  rcases open_slice ht hf with ⟨h0, _⟩ | ⟨a, len, cap, m, n, D, Pl, h0, hb, hl, hm, hmm, _, hx⟩
  · left
    rcases hcell with hc | ⟨cs, rfl⟩
    · rw [hc] at h0
      exact (List.cons.inj h0).1
    · simp [Value.okWide, ht, Cell.okWide, Cell.ok] at hv
  · right
    have hv' : v = .slice (some a) len cap := by
      rcases hcell with hc | ⟨cs, rfl⟩
      · rw [hc] at h0
        exact (List.cons.inj h0).1
      · simp [Value.okWide, ht, Cell.okWide, Cell.ok] at hv
    subst hv'
    simp only [Value.okWide, ht, Cell.okWide, Cell.ok, World.has] at hv
    obtain ⟨_, _, _, hspot, row, cells, hsh, _⟩ := hv
    obtain ⟨c, o, sp⟩ := a
    simp only at hspot
    subst hspot
    obtain ⟨V, hV⟩ := choose_lt (α := List Value) (p := fun i cs => W.cells? 0 (Addr.add ⟨c, o, none⟩ (i * P.cellsOf e)) (P.cellsOf e) = some cs ∧ ∃ x, DataW.trod enc P W 0 (fun _ => true) true n e cs = some x) (n := len) (fun i hi => by
      obtain ⟨cs', h1, h2⟩ := hx i (by rw [hmm]; simp; omega)
      exact ⟨cs', h1, _, h2⟩)
    have hlen : ((List.range len).map V).length = len := by simp
    have hrows : ∀ r ∈ (List.range len).map V, r.length = P.cellsOf e ∧ Q r ∧ ∀ c ∈ r, litCell c = true := by
      intro r hr
      obtain ⟨i, hi, rfl⟩ := List.mem_map.mp hr
      obtain ⟨h1, x, h2⟩ := hV i (List.mem_range.mp hi)
      exact ⟨(World.cells?_some h1).2.1, hQ n _ x h2⟩
    have hblk : ∃ (ccs : Array Value) (ce : TypeId) (fr : Nat × Nat), W.heap[c]? = some (.cells ccs ce fr) := by
      simp only [World.shape?] at hsh
      cases hc : W.heap[c]? with
      | none => rw [hc] at hsh; cases hsh
      | some ob => cases ob with
        | cells ccs ce fr => exact ⟨ccs, ce, fr, rfl⟩
        | _ => rw [hc] at hsh; cases hsh
    obtain ⟨ccs, ce, fr, hblk⟩ := hblk
    refine ⟨c, o, cap, (List.range len).map V, by rw [hlen], by rw [hlen]; exact hl, hrows, ccs, ce, fr, hblk, ?_⟩
    intro i v hv
    by_cases hz : P.cellsOf e = 0
    · have : ((List.range len).map V).flatten.length = 0 := by rw [flat_len _ (fun r hr => (hrows r hr).1), hz]; rfl
      rw [List.getElem?_eq_none (by omega)] at hv
      cases hv
    · have hi : i = (i / P.cellsOf e) * P.cellsOf e + i % P.cellsOf e := by rw [Nat.mul_comm]; exact (Nat.div_add_mod _ _).symm
      have hj : i % P.cellsOf e < P.cellsOf e := Nat.mod_lt _ (by omega)
      rw [hi, flat_get _ (fun r hr => (hrows r hr).1) _ _ hj] at hv
      obtain ⟨r, hr, hv⟩ := Option.bind_eq_some_iff.mp hv
      have hir : i / P.cellsOf e < len := by
        have := (List.getElem?_eq_some_iff.mp hr).1
        simpa using this
      rw [List.getElem?_map, List.getElem?_range hir] at hr
      simp only [Option.map_some, Option.some.injEq] at hr
      subst hr
      obtain ⟨h1, _⟩ := hV _ hir
      have := (World.cells?_some h1).2.2 _ hj
      rw [hv] at this
      rw [addr_add, addr_add] at this
      simp only [World.cell?, hblk] at this
      rw [show o + i = o + i / P.cellsOf e * P.cellsOf e + i % P.cellsOf e by omega]
      simpa using this

/-- a slice and what it has -/
structure Sl (H : Heap) (v : Value) (sz b : Nat) (rows : List (List Value)) : Prop where
  len : lenSl v = some (.int .i64 rows.length)
  at_ : ∀ (i : Nat) (k : IntKind), i < rows.length → iAddr sz v (.int k i) = some (.pointer (some ⟨b, i * sz, none⟩))
  blk : 0 < rows.length → ∃ e, H[b]? = some (.cells rows.flatten e .ro)

theorem Sl.same {H H' : Heap} {v : Value} {sz b : Nat} {rows : List (List Value)} (h : Sl H v sz b rows) (hb : b < H.length → H'[b]? = H[b]?) : Sl H' v sz b rows :=
  ⟨h.len, h.at_, fun h0 => by
    obtain ⟨e, he⟩ := h.blk h0
    exact ⟨e, by rw [hb (List.getElem?_eq_some_iff.mp he).1, he]⟩⟩

theorem rows_map {α : Type} {enc : α → List Value} {ok : α → Prop} : ∀ (rows : List (List Value)), (∀ r ∈ rows, ∃ x, r = enc x ∧ ok x) → ∃ xs : List α, rows = xs.map enc ∧ ∀ x ∈ xs, ok x
  | [], _ => ⟨[], rfl, by simp⟩
  | r :: rs, h => by
    obtain ⟨x, hx, ho⟩ := h r (by simp)
    obtain ⟨xs, hxs, hos⟩ := rows_map rs fun r hr => h r (by simp [hr])
    exact ⟨x :: xs, by rw [hx, hxs]; rfl, by simpa using ⟨ho, hos⟩⟩

/-- a slice that comes in is laid into the heap -/
theorem arg_rows {α : Type} {el : α → List Value} {ok : α → Prop} {Hh : Type} {enc : TypeId × Value → Hh} {P : Program} {W : World} {t e : TypeId} {sz b0 : Nat} {v : Value} {d : DataW Hh} {p : List MemPlace} (ht : P.underlying t = some (.slice e)) (hsz : P.cellsOf e = sz)
    (hv : Value.okWide P W .any b0 t v) (hd : DataW.Trod enc P W 0 (fun _ => true) true t v d p)
    (hQ : ∀ (fuel : Nat) (cs : List Value) (x : DataW Hh × List MemPlace), DataW.trod enc P W 0 (fun _ => true) true fuel e cs = some x → (∃ y, cs = el y ∧ ok y) ∧ ∀ c ∈ cs, litCell c = true)
    {H : Heap} {ρ : Ren} (hi : In P W H ρ) :
    ∃ (H' : Heap) (ρ' : Ren) (u : Value) (xs : List α), In P W H' ρ' ∧ ρ.le ρ' ∧ (H' = H ∨ ∃ b, H' = H ++ [b]) ∧ Vr ρ' u v ∧ Sl H' u sz H.length (xs.map el) ∧ ∀ x ∈ xs, ok x := by
  rcases open_rows ht hv hd hQ with rfl | ⟨c, o, cap, rows, rfl, hcap, hrows, ccs, ce, fr, hb, hcs⟩
  · exact ⟨H, ρ, .slice none 0 0, [], hi, Ren.le_refl _, .inl rfl, .same rfl, ⟨rfl, fun i k h => absurd h (by simp), fun h => absurd h (by simp)⟩, by simp⟩
  · obtain ⟨xs, rfl, hok⟩ := rows_map rows fun r hr => (hrows r hr).2.1
    refine ⟨H ++ [.cells (xs.map el).flatten e .ro], ρ.upd H.length ⟨c, o, none⟩, .slice (some ⟨H.length, 0, none⟩) (xs.map el).length (xs.map el).length, xs, hi.add c o _ e hb hcs ?_, Ren.le_upd _ (hi.dom _ (Nat.le_refl _)), .inr ⟨_, rfl⟩, ?_, ?_, hok⟩
    · intro v hv
      obtain ⟨r, hr, hv⟩ := List.mem_flatten.mp hv
      exact (hrows r hr).2.2 v hv
    · have := Vr.slice (ρ := ρ.upd H.length ⟨c, o, none⟩) (o := 0) (Ren.upd_same ρ H.length ⟨c, o, none⟩) (Nat.le_refl (xs.map el).length) hcap (fun e T h => (by cases h))
      simpa using this
    · refine ⟨rfl, fun i k h => ?_, fun _ => ⟨e, by simp⟩⟩
      rw [r_iAddr _ _ _ _ _ _ _ (by omega) (by omega)]
      simp

theorem Sl.row {α : Type} {el : α → List Value} {H : Heap} {v : Value} {sz b : Nat} {xs : List α} (h : Sl H v sz b (xs.map el)) (hsz : ∀ x, (el x).length = sz) {i : Nat} {x : α} (hx : xs[i]? = some x) :
    ∃ e, H[b]? = some (.cells (xs.map el).flatten e .ro) ∧ ((xs.map el).flatten.drop (i * sz)).take sz = el x ∧ i * sz + sz ≤ (xs.map el).flatten.length := by
  have hl : i < xs.length := (List.getElem?_eq_some_iff.mp hx).1
  obtain ⟨e, he⟩ := h.blk (by simp; omega)
  have hr : ∀ r ∈ xs.map el, r.length = sz := fun r hr => by
    obtain ⟨y, _, rfl⟩ := List.mem_map.mp hr
    exact hsz y
  refine ⟨e, he, flat_take _ hr i _ (by simp [hx]), ?_⟩
  rw [flat_len _ hr, List.length_map]
  calc i * sz + sz = (i + 1) * sz := by rw [Nat.succ_mul]
    _ ≤ xs.length * sz := Nat.mul_le_mul_right _ hl

theorem Sl.ldN {α : Type} {el : α → List Value} {H : Heap} {v : Value} {sz b : Nat} {xs : List α} (h : Sl H v sz b (xs.map el)) (hsz : ∀ x, (el x).length = sz) {i : Nat} {x : α} (hx : xs[i]? = some x) :
    ldN sz (.pointer (some ⟨b, i * sz, none⟩)) H = some (.agg ⟨el x⟩, H) := by
  obtain ⟨e, h1, h2, h3⟩ := h.row hsz hx
  rw [x_ldN, h1, x_ldNC _ _ _ _ _ h3, h2]

theorem Sl.ld1 {α : Type} {el : α → List Value} {H : Heap} {v : Value} {sz b : Nat} {xs : List α} (h : Sl H v sz b (xs.map el)) (hsz : ∀ x, (el x).length = sz) {i j : Nat} {x : α} {w : Value} (hx : xs[i]? = some x) (hj : (el x)[j]? = some w) :
    ld1 (.pointer (some ⟨b, i * sz + j, none⟩)) H = some (w, H) := by
  obtain ⟨e, h1, h2, h3⟩ := h.row hsz hx
  have hr : ∀ r ∈ xs.map el, r.length = sz := fun r hr => by
    obtain ⟨y, _, rfl⟩ := List.mem_map.mp hr
    exact hsz y
  have hjs : j < sz := by
    have := (List.getElem?_eq_some_iff.mp hj).1
    rw [hsz] at this
    exact this
  rw [x_ld1, h1, x_ldC, flat_get _ hr _ _ hjs]
  simp [hx, hj, cellV]

end Go.Abs
