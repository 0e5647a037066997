/-
  THE RELATION between an abstract heap and a world: blocks renamed, laid at some offset; a step from one pair to the next; steps compose.
-/
import Derived.Test.YtdobnaldfmpimaaAbsRun
set_option linter.unusedSimpArgs false
set_option linter.unusedVariables false
namespace Go.Abs

/-- Where a block lies; of a row that may grow: the size of an element, and how many cells lie there. -/
structure Pl where
  c : Nat
  base : Nat
  room : Option (Nat × Nat)

abbrev Ren := Nat → Option Pl

inductive Vr (ρ : Ren) : Value → Value → Prop where
  | same {v : Value} (h : litCell v = true) : Vr ρ v v
  | ptr {b o : Nat} {pl : Pl} (h : ρ b = some pl) : Vr ρ (.pointer (some ⟨b, o, none⟩)) (.pointer (some ⟨pl.c, pl.base + o, none⟩))
  | slice {b o n cap cap' : Nat} {pl : Pl} (h : ρ b = some pl) (hn : n ≤ cap) (hc : cap ≤ cap') (hr : ∀ e T, pl.room = some (e, T) → pl.base + o + cap' * e ≤ T) :
      Vr ρ (.slice (some ⟨b, o, none⟩) n cap) (.slice (some ⟨pl.c, pl.base + o, none⟩) n cap')
  | slice0 {b o : Nat} {pl : Pl} {a : Addr} (h : ρ b = some pl) : Vr ρ (.slice (some ⟨b, o, none⟩) 0 0) (.slice (some a) 0 0)
  | map {b : Nat} {pl : Pl} (h : ρ b = some pl) : Vr ρ (.map (some b)) (.map (some pl.c))
  | func {f : FuncId} {x x' y y' : Array Value} (hx : x.toList.length = x'.toList.length) (hy : y.toList.length = y'.toList.length)
      (h1 : ∀ (i : Nat) (u v : Value), x.toList[i]? = some u → x'.toList[i]? = some v → Vr ρ u v) (h2 : ∀ (i : Nat) (u v : Value), y.toList[i]? = some u → y'.toList[i]? = some v → Vr ρ u v) :
      Vr ρ (.func (.func f) x y) (.func (.func f) x' y')
  | agg {x x' : Array Value} (hx : x.toList.length = x'.toList.length) (h1 : ∀ (i : Nat) (u v : Value), x.toList[i]? = some u → x'.toList[i]? = some v → Vr ρ u v) : Vr ρ (.agg x) (.agg x')
  | tuple {x x' : Array Value} (hx : x.toList.length = x'.toList.length) (h1 : ∀ (i : Nat) (u v : Value), x.toList[i]? = some u → x'.toList[i]? = some v → Vr ρ u v) : Vr ρ (.tuple x) (.tuple x')

/-- lists of values, place by place -/
def Vrs (ρ : Ren) (xs ys : List Value) : Prop := xs.length = ys.length ∧ ∀ (i : Nat) (u v : Value), xs[i]? = some u → ys[i]? = some v → Vr ρ u v

def Ren.le (ρ ρ' : Ren) : Prop := ∀ (b : Nat) (pl : Pl), ρ b = some pl → ρ' b = some pl

theorem Ren.le_refl (ρ : Ren) : ρ.le ρ := fun _ _ h => h
theorem Ren.le_trans {ρ ρ' ρ'' : Ren} (h : ρ.le ρ') (h' : ρ'.le ρ'') : ρ.le ρ'' := fun b pl e => h' b pl (h b pl e)

theorem Vr.mono {ρ ρ' : Ren} (hle : ρ.le ρ') {v v' : Value} (h : Vr ρ v v') : Vr ρ' v v' := by
  induction h with
  | same h => exact .same h
  | ptr h => exact .ptr (hle _ _ h)
  | slice h hn hc hr => exact .slice (hle _ _ h) hn hc hr
  | slice0 h => exact .slice0 (hle _ _ h)
  | map h => exact .map (hle _ _ h)
  | func hx hy _ _ ih1 ih2 => exact .func hx hy ih1 ih2
  | agg hx _ ih => exact .agg hx ih
  | tuple hx _ ih => exact .tuple hx ih

theorem Vrs.mono {ρ ρ' : Ren} (hle : ρ.le ρ') {xs ys : List Value} (h : Vrs ρ xs ys) : Vrs ρ' xs ys := ⟨h.1, fun i u v hu hv => (h.2 i u v hu hv).mono hle⟩

theorem Vrs.nil (ρ : Ren) : Vrs ρ [] [] := ⟨rfl, fun i u v h => by simp at h⟩

theorem Vrs.cons {ρ : Ren} {x y : Value} {xs ys : List Value} (h : Vr ρ x y) (hs : Vrs ρ xs ys) : Vrs ρ (x :: xs) (y :: ys) := by
  refine ⟨by simp [hs.1], fun i u v hu hv => ?_⟩
  cases i with
  | zero => simp at hu hv; subst hu; subst hv; exact h
  | succ i => exact hs.2 i u v (by simpa using hu) (by simpa using hv)

theorem Vrs.head {ρ : Ren} {x y : Value} {xs ys : List Value} (h : Vrs ρ (x :: xs) (y :: ys)) : Vr ρ x y := h.2 0 x y rfl rfl
theorem Vrs.tail {ρ : Ren} {x y : Value} {xs ys : List Value} (h : Vrs ρ (x :: xs) (y :: ys)) : Vrs ρ xs ys :=
  ⟨by have := h.1; simpa using this, fun i u v hu hv => h.2 (i + 1) u v (by simpa using hu) (by simpa using hv)⟩

theorem Vrs.nil_left {ρ : Ren} {ys : List Value} (h : Vrs ρ [] ys) : ys = [] := by have := h.1; cases ys <;> simp_all
theorem Vrs.cons_left {ρ : Ren} {x : Value} {xs ys : List Value} (h : Vrs ρ (x :: xs) ys) : ∃ y ys', ys = y :: ys' ∧ Vr ρ x y ∧ Vrs ρ xs ys' := by
  cases ys with
  | nil => have := h.1; simp at this
  | cons y ys => exact ⟨y, ys, rfl, h.head, h.tail⟩

theorem Vrs.append {ρ : Ren} {xs ys xs' ys' : List Value} (h : Vrs ρ xs ys) (h' : Vrs ρ xs' ys') : Vrs ρ (xs ++ xs') (ys ++ ys') := by
  induction xs generalizing ys with
  | nil => rw [h.nil_left]; simpa using h'
  | cons x xs ih => obtain ⟨y, ys', rfl, hy, hs⟩ := h.cons_left; exact .cons hy (ih hs)

theorem Vrs.get {ρ : Ren} {xs ys : List Value} (h : Vrs ρ xs ys) {i : Nat} {u : Value} (hu : xs[i]? = some u) : ∃ v, ys[i]? = some v ∧ Vr ρ u v := by
  have hi : i < ys.length := by rw [← h.1]; exact (List.getElem?_eq_some_iff.1 hu).1
  exact ⟨ys[i], by simp [hi], h.2 i u _ hu (by simp [hi])⟩

theorem Vrs.drop {ρ : Ren} {xs ys : List Value} (h : Vrs ρ xs ys) (n : Nat) : Vrs ρ (xs.drop n) (ys.drop n) :=
  ⟨by simp [h.1], fun i u v hu hv => h.2 (n + i) u v (by simpa using hu) (by simpa using hv)⟩
theorem Vrs.take {ρ : Ren} {xs ys : List Value} (h : Vrs ρ xs ys) (n : Nat) : Vrs ρ (xs.take n) (ys.take n) := by
  refine ⟨by simp [h.1], fun i u v hu hv => ?_⟩
  rw [List.getElem?_take] at hu hv
  split at hu <;> simp_all
  exact h.2 i u v hu hv

theorem undef_lit : lit undef = true := rfl

theorem Vr.of_lit {ρ : Ren} {v : Value} (h : lit v = true) : Vr ρ v v := by
  cases v with
  | agg cs =>
    refine .agg rfl fun i u v hu hv => ?_
    rw [hu] at hv; injection hv with e; subst e
    simp only [lit, List.all_eq_true] at h
    exact .same (h u (List.mem_of_getElem? hu))
  | tuple cs =>
    refine .tuple rfl fun i u v hu hv => ?_
    rw [hu] at hv; injection hv with e; subst e
    simp only [lit, List.all_eq_true] at h
    exact .same (h u (List.mem_of_getElem? hu))
  | _ => exact .same h

theorem Vr.undef (ρ : Ren) : Vr ρ Go.undef Go.undef := .of_lit rfl

theorem Vr.eq_of_flat {ρ : Ren} {v w : Value} (h : Vr ρ v w) (hf : Abs.flat v = true) : w = v := by
  cases h <;> simp_all [Abs.flat]

theorem Vr.of_flat {ρ : Ren} {v : Value} (hf : Abs.flat v = true) : Vr ρ v v := by
  refine .same ?_
  cases v <;> simp_all [Abs.flat, litCell]

/-- what an abstract value is, a related one is -/
theorem Vr.cells {ρ : Ren} {v w : Value} (h : Vr ρ v w) : Vrs ρ v.cells.toList w.cells.toList := by
  have one : ∀ {x y : Value}, Vr ρ x y → Vrs ρ [x] [y] := fun h => .cons h (.nil ρ)
  cases h with
  | agg hx h1 => exact ⟨hx, h1⟩
  | @same v hl => cases v <;> first | exact one (.same hl) | simp [litCell] at hl
  | tuple hx h1 => exact one (.tuple hx h1)
  | ptr h => exact one (.ptr h)
  | slice h hn hc hr => exact one (.slice h hn hc hr)
  | slice0 h => exact one (.slice0 h)
  | map h => exact one (.map h)
  | func hx hy h1 h2 => exact one (.func hx hy h1 h2)

theorem Vr.oneCell {ρ : Ren} {v w : Value} (h : Vr ρ v w) : w.oneCell' = v.oneCell' := by
  cases h <;> rfl

theorem Vrs.allCells {ρ : Ren} {xs ys : List Value} (h : Vrs ρ xs ys) (hc : Abs.allCells xs = true) : ∀ y ∈ ys, y.oneCell' = true := by
  induction xs generalizing ys with
  | nil => rw [h.nil_left]; simp
  | cons x xs ih =>
    obtain ⟨y, ys', rfl, hy, hs⟩ := h.cons_left
    simp only [Abs.allCells, List.all_cons, Bool.and_eq_true] at hc
    intro z hz
    cases List.mem_cons.1 hz with
    | inl e => subst e; rw [hy.oneCell]; exact hc.1
    | inr e => exact ih hs hc.2 z e

/-! ### heaps -/

def wr : Option Blk → Bool
  | some (.cells _ _ k) => decide (k ≠ .ro)
  | some (.map _ _) => true
  | _ => false

def EntR (ρ : Ren) (e : Ent) (m : MapEntry) : Prop := Vr ρ e.key m.key ∧ Vr ρ e.val m.val ∧ m.born = e.born

def EntsR (ρ : Ren) (es : List Ent) (ms : List MapEntry) : Prop := es.length = ms.length ∧ ∀ (i : Nat) (e : Ent) (m : MapEntry), es[i]? = some e → ms[i]? = some m → EntR ρ e m

def BRel (P : Program) (ρ : Ren) (pl : Pl) (x : Blk) (o : Option Obj) : Prop :=
  match x with
  | .cells cs e k => ∃ ccs ce lo hi, o = some (.cells ccs ce (lo, hi)) ∧ (∀ (i : Nat) (v : Value), cs[i]? = some v → ∃ v', ccs[pl.base + i]? = some v' ∧ Vr ρ v v') ∧
      (k ≠ .ro → ∀ off, off < ccs.size → ¬ (lo ≤ off ∧ off < hi)) ∧ (k = .row → pl.room = some (P.cellsOf e, ccs.size)) ∧ (k ≠ .row → pl.room = none)
  | .map es clock => ∃ ces, o = some (.map ces clock) ∧ pl.base = 0 ∧ EntsR ρ es ces.toList
  | .dead => True

structure Rel (P : Program) (ρ : Ren) (G : Nat → Option Blk) (w : World) : Prop where
  lt : ∀ (b : Nat) (pl : Pl), ρ b = some pl → pl.c < w.heap.size
  blk : ∀ (b : Nat) (pl : Pl) (x : Blk), ρ b = some pl → G b = some x → BRel P ρ pl x w.heap[pl.c]?
  sep : ∀ (b1 b2 : Nat) (p1 p2 : Pl), b1 ≠ b2 → ρ b1 = some p1 → ρ b2 = some p2 → wr (G b1) = true → G b2 ≠ some .dead → p1.c ≠ p2.c

abbrev getH (H : Heap) : Nat → Option Blk := fun b => H[b]?

theorem EntR.mono {ρ ρ' : Ren} (hle : ρ.le ρ') {e : Ent} {m : MapEntry} (h : EntR ρ e m) : EntR ρ' e m := ⟨h.1.mono hle, h.2.1.mono hle, h.2.2⟩

theorem BRel.mono {P : Program} {ρ ρ' : Ren} (hle : ρ.le ρ') {pl : Pl} {x : Blk} {o : Option Obj} (h : BRel P ρ pl x o) : BRel P ρ' pl x o := by
  cases x with
  | dead => trivial
  | map es clock => obtain ⟨ces, ho, hb, hl, he⟩ := h; exact ⟨ces, ho, hb, hl, fun i e m h1 h2 => (he i e m h1 h2).mono hle⟩
  | cells cs e k =>
    obtain ⟨ccs, ce, lo, hi, ho, hv, hrest⟩ := h
    exact ⟨ccs, ce, lo, hi, ho, fun i v hi => let ⟨v', h1, h2⟩ := hv i v hi; ⟨v', h1, h2.mono hle⟩, hrest⟩

/-- From one pair to the next. -/
structure Step (P : Program) (ρ : Ren) (H : Heap) (w : World) (ρ' : Ren) (H' : Heap) (w' : World) : Prop where
  rel : Rel P ρ' (getH H') w'
  le : ρ.le ρ'
  new : ∀ b : Nat, ρ' b ≠ none → ρ b ≠ none ∨ (H.length ≤ b ∧ b < H'.length)
  len : H.length ≤ H'.length
  free : ∀ b : Nat, H.length ≤ b → b < H'.length → ρ b = none
  size : w.heap.size ≤ w'.heap.size
  frame : ∀ c : Nat, c < w.heap.size → (∀ (b : Nat) (pl : Pl), ρ b = some pl → wr H[b]? = true → pl.c ≠ c) → w'.heap[c]? = w.heap[c]?
  un : ∀ b : Nat, b < H.length → ρ b = none → H'[b]? = H[b]?
  dead : ∀ b : Nat, H[b]? = some .dead → H'[b]? = some .dead
  kd : ∀ b : Nat, b < H.length → wr H'[b]? = true → wr H[b]? = true
  fresh : ∀ (b : Nat) (pl : Pl), ρ b = none → ρ' b = some pl → w.heap.size ≤ pl.c ∨ ∃ b0 p0, ρ b0 = some p0 ∧ wr H[b0]? = true ∧ p0.c = pl.c
  os : w'.os = w.os
  tape : w'.tape = w.tape
  output : w'.output = w.output

section
variable {P : Program} {ρ ρ' ρ'' : Ren} {H H' H'' : Heap} {w w' w'' : World}

theorem Step.refl (h : Rel P ρ (getH H) w) : Step P ρ H w ρ H w :=
  ⟨h, Ren.le_refl ρ, fun b h => .inl h, Nat.le_refl _, fun b h1 h2 => absurd h1 (by omega), Nat.le_refl _, fun _ _ _ => rfl, fun _ _ _ => rfl, fun _ h => h, fun _ _ h => h,
    fun b pl h h' => by simp [h] at h', rfl, rfl, rfl⟩

theorem Step.trans (h : Step P ρ H w ρ' H' w') (h' : Step P ρ' H' w' ρ'' H'' w'') : Step P ρ H w ρ'' H'' w'' where
  rel := h'.rel
  le := Ren.le_trans h.le h'.le
  new := fun b hb => by
    rcases h'.new b hb with h1 | ⟨h1, h2⟩
    · rcases h.new b h1 with h3 | ⟨h3, h4⟩
      · exact .inl h3
      · exact .inr ⟨h3, Nat.lt_of_lt_of_le h4 h'.len⟩
    · exact .inr ⟨Nat.le_trans h.len h1, h2⟩
  len := Nat.le_trans h.len h'.len
  free := fun b h1 h2 => by
    rcases Nat.lt_or_ge b H'.length with h3 | h3
    · exact h.free b h1 h3
    · have := h'.free b h3 h2
      cases hρ : ρ b with
      | none => rfl
      | some pl => rw [h.le b pl hρ] at this; cases this
  size := Nat.le_trans h.size h'.size
  frame := fun c hc hf => by
    have h1 := h.frame c hc hf
    rw [h'.frame c (Nat.lt_of_lt_of_le hc h.size) ?_, h1]
    intro b pl hb hw
    cases hρ : ρ b with
    | some pl0 =>
      have := h.le b pl0 hρ
      rw [hb] at this; injection this with e; subst e
      have hlt : b < H.length := by
        rcases Nat.lt_or_ge b H.length with hlt | hge
        · exact hlt
        · exfalso
          rcases Nat.lt_or_ge b H'.length with h2 | h2
          · rw [h.free b hge h2] at hρ; cases hρ
          · rw [List.getElem?_eq_none h2] at hw; simp [wr] at hw
      exact hf b pl hρ (h.kd b hlt hw)
    | none =>
      rcases h.fresh b pl hρ hb with hge | ⟨b0, p0, h3, h4, h5⟩
      · omega
      · rw [← h5]; exact hf b0 p0 h3 h4
  un := fun b hb hn => by
    have hn' : ρ' b = none := by
      cases hρ : ρ' b with
      | none => rfl
      | some pl =>
        rcases h.new b (by simp [hρ]) with h1 | h1
        · exact absurd hn h1
        · omega
    rw [h'.un b (Nat.lt_of_lt_of_le hb h.len) hn', h.un b hb hn]
  dead := fun b hb => h'.dead b (h.dead b hb)
  kd := fun b hb hw => h.kd b hb (h'.kd b (Nat.lt_of_lt_of_le hb h.len) hw)
  fresh := fun b pl hn hb => by
    cases hρ : ρ' b with
    | some pl0 =>
      have := h'.le b pl0 hρ
      rw [hb] at this; injection this with e; subst e
      exact h.fresh b pl hn hρ
    | none =>
      rcases h'.fresh b pl hρ hb with hge | ⟨b0, p0, h3, h4, h5⟩
      · exact .inl (Nat.le_trans h.size hge)
      · cases h0 : ρ b0 with
        | some p1 =>
          have := h.le b0 p1 h0
          rw [h3] at this; injection this with e; subst e
          refine .inr ⟨b0, p0, h0, ?_, h5⟩
          rcases Nat.lt_or_ge b0 H.length with hlt | hge
          · exact h.kd b0 hlt h4
          · exfalso
            rcases Nat.lt_or_ge b0 H'.length with h2 | h2
            · rw [h.free b0 hge h2] at h0; cases h0
            · rw [List.getElem?_eq_none h2] at h4; simp [wr] at h4
        | none =>
          rw [← h5]; exact h.fresh b0 p0 h0 h3
  os := h'.os.trans h.os
  tape := h'.tape.trans h.tape
  output := h'.output.trans h.output
end

end Go.Abs
