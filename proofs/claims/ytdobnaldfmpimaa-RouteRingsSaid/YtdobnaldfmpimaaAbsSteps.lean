/-
  STEPS: a block is changed; a new one is made; a row grows. Rows of cells are read and written.
-/
import Derived.Test.YtdobnaldfmpimaaAbsRel
import Derived.Laws.Cells
set_option linter.unusedSimpArgs false
set_option linter.unusedVariables false
namespace Go.Abs

section
variable {P : Program} {ρ : Ren} {H : Heap} {w w' : World}

theorem lt_of_ne_none {b : Nat} {x : Blk} (h : H[b]? = some x) : b < H.length := (List.getElem?_eq_some_iff.1 h).1

theorem wr_some {o : Option Blk} (h : wr o = true) : ∃ x, o = some x ∧ x ≠ .dead := by
  cases o with
  | none => simp [wr] at h
  | some x => exact ⟨x, rfl, by rintro rfl; simp [wr] at h⟩

/-- a block is changed -/
theorem Step.change (hr : Rel P ρ (getH H) w) {b : Nat} {pl : Pl} {x : Blk} (hb : ρ b = some pl) (hw : wr H[b]? = true)
    (hs : w.heap.size ≤ w'.heap.size) (hsame : ∀ c : Nat, c ≠ pl.c → c < w.heap.size → w'.heap[c]? = w.heap[c]?) (hx : BRel P ρ pl x w'.heap[pl.c]?)
    (hos : w'.os = w.os) (htape : w'.tape = w.tape) (hout : w'.output = w.output) : Step P ρ H w ρ (H.set b x) w' := by
  obtain ⟨x0, hx0, hnd⟩ := wr_some hw
  have hlt := lt_of_ne_none hx0
  have get : ∀ b' : Nat, (H.set b x)[b']? = if b' = b then some x else H[b']? := by
    intro b'
    rw [List.getElem?_set]
    by_cases h : b = b'
    · subst h; simp [hlt]
    · simp [h, Ne.symm h]
  have wmono : ∀ b' : Nat, wr (H.set b x)[b']? = true → wr H[b']? = true := by
    intro b' h
    rw [get] at h
    split at h
    · rename_i e; subst e; exact hw
    · exact h
  refine ⟨⟨fun b' p h => Nat.lt_of_lt_of_le (hr.lt b' p h) hs, ?_, ?_⟩, Ren.le_refl _, fun b' h => .inl h, by simp, fun b' h1 h2 => absurd h1 (by simp at h2; omega), hs, ?_, ?_, ?_, ?_, ?_, hos, htape, hout⟩
  · intro b' p y hp hy
    simp only [getH] at hy
    rw [get] at hy
    split at hy
    · rename_i e; subst e; injection hy with hy; subst hy
      rw [hb] at hp; injection hp with hp; subst hp; exact hx
    · rename_i hne
      by_cases hd : y = .dead
      · subst hd; trivial
      · have : p.c ≠ pl.c := fun e => hr.sep b b' pl p (Ne.symm hne) hb hp hw (by simp only [getH]; rw [hy]; simpa using hd) e.symm
        rw [hsame _ this (hr.lt _ _ hp)]
        exact hr.blk b' p y hp hy
  · intro b1 b2 p1 p2 hne h1 h2 hw1 hd2
    refine hr.sep b1 b2 p1 p2 hne h1 h2 (wmono b1 hw1) ?_
    simp only [getH] at hd2 ⊢
    rw [get] at hd2
    split at hd2
    · rename_i e; subst e; rw [hx0]; simpa using hnd
    · exact hd2
  · intro c hc hf
    exact hsame c (fun e => hf b pl hb hw e.symm) hc
  · intro b' _ hn
    rw [get]
    split
    · rename_i e; subst e; rw [hb] at hn; cases hn
    · rfl
  · intro b' hd
    rw [get]
    split
    · rename_i e; subst e; rw [hx0] at hd; injection hd with hd; exact absurd hd hnd
    · exact hd
  · intro b' _ h; exact wmono b' h
  · intro b' p hn h; rw [hn] at h; cases h

def Ren.upd (ρ : Ren) (b : Nat) (pl : Pl) : Ren := fun b' => if b' = b then some pl else ρ b'

theorem Ren.upd_same (ρ : Ren) (b : Nat) (pl : Pl) : ρ.upd b pl b = some pl := by simp [Ren.upd]
theorem Ren.le_upd {ρ : Ren} {b : Nat} (pl : Pl) (h : ρ b = none) : ρ.le (ρ.upd b pl) := fun b' p hp => by
  unfold Ren.upd
  split
  · rename_i e; subst e; rw [h] at hp; cases hp
  · exact hp

/-- a block dies (or stays), and a new one is laid: in new memory, or where the one that died lies -/
theorem Step.newOn (hr : Rel P ρ (getH H) w) (hfree : ρ H.length = none) {G : Heap} (hlen : G.length = H.length)
    {pl : Pl} {x : Blk} (hG : ∀ b : Nat, G[b]? = H[b]? ∨ (G[b]? = some .dead ∧ ∃ p, ρ b = some p ∧ wr H[b]? = true))
    (hpl : w.heap.size ≤ pl.c ∨ ∃ (b0 : Nat) (p0 : Pl), ρ b0 = some p0 ∧ wr H[b0]? = true ∧ p0.c = pl.c ∧ G[b0]? = some .dead)
    (hs : w.heap.size ≤ w'.heap.size) (hlt : pl.c < w'.heap.size) (hsame : ∀ c : Nat, c ≠ pl.c → c < w.heap.size → w'.heap[c]? = w.heap[c]?)
    (hx : BRel P (ρ.upd H.length pl) pl x w'.heap[pl.c]?) (hxd : x ≠ .dead)
    (hos : w'.os = w.os) (htape : w'.tape = w.tape) (hout : w'.output = w.output) : Step P ρ H w (ρ.upd H.length pl) (G ++ [x]) w' := by
  have get : ∀ b' : Nat, (G ++ [x])[b']? = if b' = H.length then some x else G[b']? := by
    intro b'
    rw [List.getElem?_append]
    by_cases h : b' < G.length
    · have : b' ≠ H.length := by omega
      simp [h, this]
    · by_cases h2 : b' = H.length
      · subst h2; simp [hlen]
      · have : G[b']? = none := List.getElem?_eq_none (by omega)
        simp [h, h2, this]
        omega
  have le := Ren.le_upd pl hfree
  have old : ∀ (b' : Nat) (p : Pl), b' ≠ H.length → ρ.upd H.length pl b' = some p → ρ b' = some p := by
    intro b' p hne h; simpa [Ren.upd, hne] using h
  have wmono : ∀ b' : Nat, b' ≠ H.length → wr (G ++ [x])[b']? = true → wr H[b']? = true := by
    intro b' hne h
    rw [get, if_neg hne] at h
    rcases hG b' with e | ⟨_, _, _, e⟩
    · rw [e] at h; exact h
    · exact e
  -- no other living block lies where the new one does
  have apart : ∀ (b' : Nat) (p : Pl), b' ≠ H.length → ρ b' = some p → (G ++ [x])[b']? ≠ some .dead → p.c ≠ pl.c := by
    intro b' p hne hp hd e
    rcases hpl with h | ⟨b0, p0, h0, hw0, hc0, hd0⟩
    · have := hr.lt b' p hp; omega
    · have hne0 : b0 ≠ b' := by
        rintro rfl
        apply hd
        rw [get, if_neg hne]; exact hd0
      refine hr.sep b0 b' p0 p hne0 h0 hp hw0 ?_ (by rw [hc0, e])
      intro hdd
      apply hd
      rw [get, if_neg hne]
      rcases hG b' with e' | ⟨e', _⟩
      · rw [e']; exact hdd
      · exact e'
  refine ⟨⟨?_, ?_, ?_⟩, le, ?_, by simp; omega, ?_, hs, ?_, ?_, ?_, ?_, ?_, hos, htape, hout⟩
  · intro b' p hp
    by_cases h : b' = H.length
    · subst h; rw [Ren.upd_same] at hp; injection hp with hp; subst hp; exact hlt
    · exact Nat.lt_of_lt_of_le (hr.lt b' p (old b' p h hp)) hs
  · intro b' p y hp hy
    simp only [getH] at hy
    by_cases h : b' = H.length
    · subst h
      rw [get, if_pos rfl] at hy; injection hy with hy; subst hy
      rw [Ren.upd_same] at hp; injection hp with hp; subst hp; exact hx
    · have hp' := old b' p h hp
      by_cases hd : y = .dead
      · subst hd; trivial
      · have hc := apart b' p h hp' (by rw [hy]; simpa using hd)
        rw [hsame _ hc (hr.lt _ _ hp')]
        rw [get, if_neg h] at hy
        rcases hG b' with e | ⟨e, _⟩
        · exact (hr.blk b' p y hp' (by simp only [getH]; rw [← e]; exact hy)).mono le
        · rw [e] at hy; injection hy with hy; exact absurd hy.symm hd
  · intro b1 b2 p1 p2 hne h1 h2 hw1 hd2
    simp only [getH] at hw1 hd2
    by_cases e1 : b1 = H.length
    · subst e1
      rw [Ren.upd_same] at h1; injection h1 with h1; subst h1
      exact fun e => apart b2 p2 (Ne.symm hne) (old b2 p2 (Ne.symm hne) h2) hd2 e.symm
    · have h1' := old b1 p1 e1 h1
      by_cases e2 : b2 = H.length
      · subst e2
        rw [Ren.upd_same] at h2; injection h2 with h2; subst h2
        refine apart b1 p1 e1 h1' ?_
        obtain ⟨y, hy, hyd⟩ := wr_some hw1
        rw [hy]; simpa using hyd
      · refine hr.sep b1 b2 p1 p2 hne h1' (old b2 p2 e2 h2) (wmono b1 e1 hw1) ?_
        intro hdd
        apply hd2
        rw [get, if_neg e2]
        rcases hG b2 with e' | ⟨e', _⟩
        · rw [e']; exact hdd
        · exact e'
  · intro b' hb
    by_cases h : b' = H.length
    · right; subst h; simp; omega
    · left; simpa [Ren.upd, h] using hb
  · intro b' h1 h2
    have : b' = H.length := by simp at h2; omega
    subst this; exact hfree
  · intro c hc hf
    refine hsame c ?_ hc
    rcases hpl with h | ⟨b0, p0, h0, hw0, hc0, _⟩
    · omega
    · exact fun e => hf b0 p0 h0 hw0 (by rw [hc0, e])
  · intro b' hb hn
    have h : b' ≠ H.length := by omega
    rw [get, if_neg h]
    rcases hG b' with e | ⟨_, p, hp, _⟩
    · exact e
    · rw [hn] at hp; cases hp
  · intro b' hd
    have h : b' ≠ H.length := by have := lt_of_ne_none hd; omega
    rw [get, if_neg h]
    rcases hG b' with e | ⟨e, _⟩
    · rw [e]; exact hd
    · exact e
  · intro b' hb h
    exact wmono b' (by omega) h
  · intro b' p hn hp
    by_cases h : b' = H.length
    · subst h
      rw [Ren.upd_same] at hp; injection hp with hp; subst hp
      rcases hpl with h | ⟨b0, p0, h0, hw0, hc0, _⟩
      · exact .inl h
      · exact .inr ⟨b0, p0, h0, hw0, hc0⟩
    · have := old b' p h hp; rw [hn] at this; cases this

theorem Step.newB (hr : Rel P ρ (getH H) w) (hfree : ρ H.length = none) {pl : Pl} {x : Blk} (hpl : w.heap.size ≤ pl.c)
    (hs : w.heap.size ≤ w'.heap.size) (hlt : pl.c < w'.heap.size) (hsame : ∀ c : Nat, c < w.heap.size → w'.heap[c]? = w.heap[c]?)
    (hx : BRel P (ρ.upd H.length pl) pl x w'.heap[pl.c]?) (hxd : x ≠ .dead)
    (hos : w'.os = w.os) (htape : w'.tape = w.tape) (hout : w'.output = w.output) : Step P ρ H w (ρ.upd H.length pl) (H ++ [x]) w' :=
  Step.newOn hr hfree rfl (fun _ => .inl rfl) (.inl hpl) hs hlt (fun c _ h => hsame c h) hx hxd hos htape hout

end

/-! ### rows of cells -/

theorem add_eq (c o n : Nat) : (⟨c, o, none⟩ : Addr).add n = ⟨c, o + n, none⟩ := by
  unfold Addr.add; split <;> simp_all

theorem cell_row {w : World} {c : Nat} {ccs : Array Value} {ce : TypeId} {fr : Nat × Nat} (h : w.heap[c]? = some (.cells ccs ce fr)) (o : Nat) :
    w.cell? ⟨c, o, none⟩ = ccs[o]? := by simp [World.cell?, h]

theorem BRel.read {P : Program} {ρ : Ren} {pl : Pl} {cs : List Value} {e : TypeId} {k : Kind} {w : World} (h : BRel P ρ pl (.cells cs e k) w.heap[pl.c]?)
    {o n : Nat} (hn : o + n ≤ cs.length) : ∃ ys : List Value, ys.length = n ∧ Vrs ρ ((cs.drop o).take n) ys ∧ ∀ (j : Nat) (v : Value), ys[j]? = some v → w.cell? ((⟨pl.c, pl.base + o, none⟩ : Addr).add j) = some v := by
  obtain ⟨ccs, ce, lo, hi, ho, hv, _⟩ := h
  have hlen : ∀ i, i < cs.length → pl.base + i < ccs.size := by
    intro i hi
    obtain ⟨v', h1, _⟩ := hv i cs[i] (by simp [hi])
    exact (Array.getElem?_eq_some_iff.1 h1).1
  have hl : ((ccs.toList.drop (pl.base + o)).take n).length = n := by
    rcases Nat.eq_zero_or_pos n with h0 | h0
    · simp [h0]
    · have := hlen (o + n - 1) (by omega)
      simp; omega
  refine ⟨(ccs.toList.drop (pl.base + o)).take n, hl, ⟨by rw [hl]; simp; omega, ?_⟩, ?_⟩
  · intro i u v hu hv'
    rw [List.getElem?_take] at hu hv'
    split at hu
    · rename_i hin
      rw [if_pos hin] at hv'
      simp only [List.getElem?_drop] at hu hv'
      obtain ⟨v', h1, h2⟩ := hv (o + i) u hu
      rw [show pl.base + o + i = pl.base + (o + i) by omega] at hv'
      rw [Array.getElem?_toList] at hv'
      rw [h1] at hv'; injection hv' with e; subst e; exact h2
    · cases hu
  · intro j v hj
    rw [add_eq, cell_row ho]
    rw [List.getElem?_take] at hj
    split at hj
    · simp only [List.getElem?_drop, Array.getElem?_toList] at hj; exact hj
    · cases hj

def setArr (ccs : Array Value) (o : Nat) : List Value → Array Value
  | [] => ccs
  | x :: xs => setArr (ccs.setIfInBounds o x) (o + 1) xs

theorem setArr_size (ccs : Array Value) (o : Nat) (vs : List Value) : (setArr ccs o vs).size = ccs.size := by
  induction vs generalizing ccs o with
  | nil => rfl
  | cons x xs ih => simp [setArr, ih]

theorem setArr_get (ccs : Array Value) (o : Nat) (vs : List Value) (ho : o + vs.length ≤ ccs.size) (j : Nat) :
    (setArr ccs o vs)[j]? = if o ≤ j ∧ j < o + vs.length then vs[j - o]? else ccs[j]? := by
  induction vs generalizing ccs o with
  | nil => simp [setArr]; omega
  | cons x xs ih =>
    simp only [List.length_cons] at ho
    rw [setArr, ih _ _ (by simp; omega)]
    by_cases h1 : o + 1 ≤ j ∧ j < o + 1 + xs.length
    · rw [if_pos h1, if_pos ⟨by omega, by simp; omega⟩]
      obtain ⟨m, hm⟩ : ∃ m, j - o = m + 1 := ⟨j - o - 1, by omega⟩
      rw [hm, List.getElem?_cons_succ, show j - (o + 1) = m by omega]
    · rw [if_neg h1]
      by_cases h2 : j = o
      · subst h2
        rw [if_pos (by simp)]
        simp [show j < ccs.size by omega]
      · rw [if_neg (by simp; omega), Array.getElem?_setIfInBounds_ne (by omega)]

theorem setCells_length (cs : List Value) (o : Nat) (vs : List Value) : (setCells cs o vs).length = cs.length := by
  induction vs generalizing cs o with
  | nil => rfl
  | cons x xs ih => simp [setCells, ih]

theorem setCells_get (cs : List Value) (o : Nat) (vs : List Value) (ho : o + vs.length ≤ cs.length) (j : Nat) :
    (setCells cs o vs)[j]? = if o ≤ j ∧ j < o + vs.length then vs[j - o]? else cs[j]? := by
  induction vs generalizing cs o with
  | nil => simp [setCells]; omega
  | cons x xs ih =>
    simp only [List.length_cons] at ho
    rw [setCells, ih _ _ (by simp; omega)]
    by_cases h1 : o + 1 ≤ j ∧ j < o + 1 + xs.length
    · rw [if_pos h1, if_pos ⟨by omega, by simp; omega⟩]
      obtain ⟨m, hm⟩ : ∃ m, j - o = m + 1 := ⟨j - o - 1, by omega⟩
      rw [hm, List.getElem?_cons_succ, show j - (o + 1) = m by omega]
    · rw [if_neg h1]
      by_cases h2 : j = o
      · subst h2
        rw [if_pos (by simp)]
        simp [show j < cs.length by omega]
      · rw [if_neg (by simp; omega), List.getElem?_set_ne (by omega)]

def putBlk (w : World) (c : Nat) (x : Obj) : World := { w with heap := w.heap.setIfInBounds c x }

theorem putBlk_get (w : World) (c : Nat) (x : Obj) (h : c < w.heap.size) (j : Nat) : (putBlk w c x).heap[j]? = if j = c then some x else w.heap[j]? := by
  simp only [putBlk, Array.getElem?_setIfInBounds]
  by_cases e : c = j
  · subst e; simp [h]
  · simp [e, Ne.symm e]

theorem putBlk_putBlk (w : World) (c : Nat) (x y : Obj) : putBlk (putBlk w c x) c y = putBlk w c y := by
  simp [putBlk, Array.setIfInBounds_setIfInBounds]

theorem setCell_eq {w : World} {c o : Nat} {ccs : Array Value} {ce : TypeId} {fr : Nat × Nat} (h : w.heap[c]? = some (.cells ccs ce fr)) (v : Value) :
    w.setCell ⟨c, o, none⟩ v = putBlk w c (.cells (ccs.setIfInBounds o v) ce fr) := by
  have hlt := (Array.getElem?_eq_some_iff.1 h).1
  have e : w.heap[c] = .cells ccs ce fr := (Array.getElem?_eq_some_iff.1 h).2
  have hh : ∀ f : Obj → Obj, w.heap.modify c f = w.heap.setIfInBounds c (f (.cells ccs ce fr)) := by
    intro f
    apply Array.ext'
    simp only [Array.toList_modify, Array.toList_setIfInBounds]
    apply List.ext_getElem?
    intro i
    rw [List.getElem?_modify, List.getElem?_set]
    by_cases hi : c = i
    · subst hi; simp [hlt, e]
    · simp [hi]
  unfold World.setCell putBlk
  simp only [hh]
  simp

theorem run_storeCells (P : Program) (c o : Nat) (ce : TypeId) (fr : Nat × Nat) : ∀ (vs : List Value) (i : Nat) (w : World) (ccs : Array Value),
    w.heap[c]? = some (.cells ccs ce fr) → o + i + vs.length ≤ ccs.size → (∀ off, off < ccs.size → ¬ (fr.1 ≤ off ∧ off < fr.2)) → (∀ v ∈ vs, v.oneCell' = true) →
    (storeCells ⟨c, o, none⟩ vs i).run P w = .ok () (if vs = [] then w else putBlk w c (.cells (setArr ccs (o + i) vs) ce fr))
  | [], i, w, ccs, _, _, _, _ => by simp [storeCells]
  | v :: vs, i, w, ccs, h, hl, hf, h1 => by
    simp only [List.length_cons] at hl
    have hc : w.cell? ⟨c, o + i, none⟩ = some ccs[o + i] := by rw [cell_row h]; simp
    have hfz : w.frozen? ⟨c, o + i, none⟩ = false := by
      have := hf (o + i) (by omega)
      obtain ⟨lo, hi⟩ := fr
      simp only [World.frozen?, h]
      simp only at this
      simpa using this
    have hlt := (Array.getElem?_eq_some_iff.1 h).1
    simp only [storeCells, Sem.run_bind, add_eq, run_store P w _ v .plain (h1 v (by simp)), hc, hfz, Result.andThen, setCell_eq h, Bool.false_eq_true, if_false, List.cons_ne_nil]
    have h' : (putBlk w c (.cells (ccs.setIfInBounds (o + i) v) ce fr)).heap[c]? = some (.cells (ccs.setIfInBounds (o + i) v) ce fr) := by
      rw [putBlk_get _ _ _ hlt]; simp
    rw [run_storeCells P c o ce fr vs (i + 1) _ _ h' (by simp; omega) (by simpa using hf) (fun u hu => h1 u (by simp [hu]))]
    cases vs with
    | nil => simp [setArr]
    | cons u us =>
      rw [if_neg (by simp), putBlk_putBlk]
      rfl

end Go.Abs
