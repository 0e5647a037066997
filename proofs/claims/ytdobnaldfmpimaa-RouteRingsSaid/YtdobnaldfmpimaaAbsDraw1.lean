/-
  A REGION THAT DRAWS ITS ORDER, the parts: what makes a block; the trace of the text's order.
-/
import Derived.Test.YtdobnaldfmpimaaAbsDraw0
set_option linter.unusedSimpArgs false
set_option linter.unusedVariables false
namespace Go.Abs

/-- what makes a block, or (its guard is false) does nothing -/
def PropN (m : M Value) : Prop := ∀ H v H', m H = some (v, H') → Makes m H v H' ∨ (H' = H ∧ Fixed m H v)

theorem pn_fail : PropN M.fail := fun H v H' h => by cases h
theorem pn_ret (x : Value) : PropN (M.ret x) := fun H v H' h => by
  injection h with h; injection h with h1 h2; subst h1; subst h2; exact .inr ⟨rfl, fun G => rfl⟩
theorem pn_newB (e : TypeId) (cs : List Value) (k : Kind) (hk : k ≠ .ro) : PropN (newB e cs k) := fun H v H' h => by
  simp only [newB] at h; injection h with h; injection h with h1 h2; subst h1; subst h2
  exact .inl ⟨.cells cs e k, by simpa [wr] using hk, rfl, fun G hG => by simp [newB, hG]⟩
theorem pn_newM : PropN newM := fun H v H' h => by
  simp only [newM] at h; injection h with h; injection h with h1 h2; subst h1; subst h2
  exact .inl ⟨.map [] 0, rfl, rfl, fun G hG => by simp [newM, hG]⟩
theorem pn_mkSlice (e : TypeId) (sz by' : Nat) (z : List Value) (n c : Value) : PropN (mkSlice e sz by' z n c) := fun H v H' h => by
  unfold mkSlice at h
  split at h
  · split at h
    · rename_i hc
      injection h with h; injection h with h1 h2; subst h1; subst h2
      refine .inl ⟨_, by simp [wr], rfl, fun G hG => ?_⟩
      simp only [mkSlice, if_pos hc, hG]
    · cases h
  · cases h
theorem pn_bldSlice (e : TypeId) (sz n : Nat) (z : List Value) (ps : List (Nat × Value)) : PropN (bldSlice e sz n z ps) := fun H v H' h => by
  unfold bldSlice at h
  split at h
  · rename_i cs hc
    injection h with h; injection h with h1 h2; subst h1; subst h2
    refine .inl ⟨_, by simp [wr], rfl, fun G hG => ?_⟩
    simp only [bldSlice, hc, hG]
  · cases h

theorem pn_aOp (P : Program) (O : Oracle) (t : List Value) (o : Oper) (hn : isNew o.op = true) : PropN (aOp P O t o) := by
  obtain ⟨dst, op, ty0, pos, after, guard⟩ := o
  cases op <;> simp only [isNew, Bool.false_eq_true] at hn <;> simp only [aOp]
  all_goals (repeat' split)
  all_goals first | exact pn_fail | (apply pn_newB; simp; done) | (apply pn_mkSlice; done) | (apply pn_bldSlice; done) | exact pn_newM

theorem ps_step (P : Program) (O : Oracle) (ops : List Oper) (t : List Value) (o : Oper) (he : isEff o.op = false) (hn : isNew o.op = false) : PropS (isLook P o.op) (step P O ops t o) := by
  unfold step
  split
  · exact ps_aOp P O t o he hn
  · split
    · unfold gd
      split
      · split
        · exact ps_aOp P O t o he hn
        · exact ps_ret _ _
      · exact ps_ret _ _
    · exact ps_ret _ _

theorem pn_step (P : Program) (O : Oracle) (ops : List Oper) (t : List Value) (o : Oper) (hn : isNew o.op = true) : PropN (step P O ops t o) := by
  unfold step
  split
  · exact pn_aOp P O t o hn
  · split
    · unfold gd
      split
      · split
        · exact pn_aOp P O t o hn
        · exact pn_ret _
      · exact pn_ret _
    · exact pn_ret _

theorem new_not_eff {op : Op} (h : isNew op = true) : isEff op = false := by cases op <;> simp_all [isNew, isEff]
theorem new_not_look {P : Program} {op : Op} (h : isNew op = true) : isLook P op = false := by cases op <;> simp_all [isNew, isLook]

/-! ### the trace -/

structure Trace (P : Program) (O : Oracle) (ops : List Oper) (ms : List Nat) (l : List Oper) (i : Nat) (rs : List Rd) (es : List Ef) (t : List Value) (H : Heap) (T : Nat → List Value) (HH : Nat → Heap) (V : Nat → Value) : Prop where
  t0 : T 0 = t
  h0 : HH 0 = H
  st : ∀ (j : Nat) (o : Oper), l[j]? = some o → step P O ops (T j) o (HH j) = some (V j, HH (j + 1)) ∧ T (j + 1) = putT (T j) o.dst (V j)
  rs : ∀ (j : Nat) (o : Oper), l[j]? = some o → isEff o.op = true → ∀ q ∈ rs, (ms.getD (i + j) 0).testBit q.i = true ∨ chk (step P O ops q.t q.o (HH (j + 1))) q.v = true
  es : ∀ (j : Nat) (o : Oper), l[j]? = some o → isEff o.op = false → isLook P o.op = true → ∀ e ∈ es, (ms.getD (i + j) 0).testBit e.i = true ∨ chk (step P O ops (T j) o e.h) (V j) = true
  le : ∀ (j : Nat) (o : Oper), l[j]? = some o → isEff o.op = true → ∀ (j' : Nat) (o' : Oper), j' < j → l[j']? = some o' → isEff o'.op = false → isLook P o'.op = true →
    (ms.getD (i + j) 0).testBit (i + j') = true ∨ chk (step P O ops (T j') o' (HH (j + 1))) (V j') = true
  el : ∀ (j : Nat) (o : Oper), l[j]? = some o → isEff o.op = false → isLook P o.op = true → ∀ (j' : Nat) (o' : Oper), j' < j → l[j']? = some o' → isEff o'.op = true →
    (ms.getD (i + j) 0).testBit (i + j') = true ∨ chk (step P O ops (T j) o (HH j')) (V j) = true

def shiftF {α : Type} (x : α) (f : Nat → α) : Nat → α
  | 0 => x
  | n + 1 => f n

theorem trace_of {P : Program} {O : Oracle} {ops : List Oper} {ms : List Nat} {r : Value × Heap} {k : K (Value × Heap)} : ∀ (l : List Oper) (i : Nat) (rs : List Rd) (es : List Ef) (t : List Value) (H : Heap),
    runDraw P O ops ms l i rs es k t H = some r → ∃ T HH V, Trace P O ops ms l i rs es t H T HH V ∧ k (T l.length) (HH l.length) = some r
  | [], i, rs, es, t, H, h => ⟨fun _ => t, fun _ => H, fun _ => undef, ⟨rfl, rfl, by simp, by simp, by simp, by simp, by simp⟩, h⟩
  | o :: l, i, rs, es, t, H, h => by
    simp only [runDraw] at h
    split at h
    · cases h
    · rename_i x hx
      -- what the head adds to the two lists
      have key : ∀ (rs' : List Rd) (es' : List Ef), (∀ q ∈ rs, q ∈ rs') → (∀ e ∈ es, e ∈ es') → (isEff o.op = true → (⟨i, H⟩ : Ef) ∈ es') → (isEff o.op = false → isLook P o.op = true → (⟨i, o, t, x.1⟩ : Rd) ∈ rs') →
          (isEff o.op = true → ∀ q ∈ rs, (ms.getD i 0).testBit q.i = true ∨ chk (step P O ops q.t q.o x.2) q.v = true) →
          (isEff o.op = false → isLook P o.op = true → ∀ e ∈ es, (ms.getD i 0).testBit e.i = true ∨ chk (step P O ops t o e.h) x.1 = true) →
          runDraw P O ops ms l (i + 1) rs' es' k (putT t o.dst x.1) x.2 = some r → ∃ T HH V, Trace P O ops ms (o :: l) i rs es t H T HH V ∧ k (T (o :: l).length) (HH (o :: l).length) = some r := by
        intro rs' es' hrs hes hef hrd hc1 hc2 h'
        obtain ⟨T, HH, V, tr, hk⟩ := trace_of l (i + 1) rs' es' _ _ h'
        refine ⟨shiftF t T, shiftF H HH, shiftF x.1 V, ⟨rfl, rfl, ?_, ?_, ?_, ?_, ?_⟩, hk⟩
        · intro j o' hj
          cases j with
          | zero => simp at hj; subst hj; exact ⟨by simp only [shiftF]; rw [tr.h0]; exact hx, by simp only [shiftF]; exact tr.t0⟩
          | succ j => exact tr.st j o' (by simpa using hj)
        · intro j o' hj he q hq
          cases j with
          | zero => simp at hj; subst hj; simp only [shiftF]; rw [tr.h0]; exact hc1 he q hq
          | succ j => have := tr.rs j o' (by simpa using hj) he q (hrs q hq); rw [show i + 1 + j = i + (j + 1) by omega] at this; exact this
        · intro j o' hj he hl e hee
          cases j with
          | zero => simp at hj; subst hj; exact hc2 he hl e hee
          | succ j => have := tr.es j o' (by simpa using hj) he hl e (hes e hee); rw [show i + 1 + j = i + (j + 1) by omega] at this; exact this
        · intro j o' hj he j' o'' hlt hj' he' hl'
          cases j with
          | zero => omega
          | succ j =>
            cases j' with
            | zero =>
              simp at hj'; subst hj'
              have := tr.rs j o' (by simpa using hj) he _ (hrd he' hl')
              rw [show i + 1 + j = i + (j + 1) by omega] at this; exact this
            | succ j' =>
              have := tr.le j o' (by simpa using hj) he j' o'' (by omega) (by simpa using hj') he' hl'
              rw [show i + 1 + j = i + (j + 1) by omega, show i + 1 + j' = i + (j' + 1) by omega] at this; exact this
        · intro j o' hj he hl j' o'' hlt hj' he'
          cases j with
          | zero => omega
          | succ j =>
            cases j' with
            | zero =>
              simp at hj'; subst hj'
              have := tr.es j o' (by simpa using hj) he hl _ (hef he')
              rw [show i + 1 + j = i + (j + 1) by omega] at this; exact this
            | succ j' =>
              have := tr.el j o' (by simpa using hj) he hl j' o'' (by omega) (by simpa using hj') he'
              rw [show i + 1 + j = i + (j + 1) by omega, show i + 1 + j' = i + (j' + 1) by omega] at this; exact this
      split at h
      · rename_i he
        split at h
        · rename_i hc
          simp only [List.all_eq_true, Bool.or_eq_true] at hc
          exact key rs _ (fun _ h => h) (fun _ h => List.mem_cons_of_mem _ h) (fun _ => List.mem_cons_self ..) (fun h0 => by rw [he] at h0; cases h0) (fun _ => hc) (fun h0 => by rw [he] at h0; cases h0) h
        · cases h
      · rename_i he
        have he' : isEff o.op = false := by simpa using he
        split at h
        · rename_i hl
          split at h
          · rename_i hc
            simp only [List.all_eq_true, Bool.or_eq_true] at hc
            exact key _ es (fun _ h => List.mem_cons_of_mem _ h) (fun _ h => h) (fun h0 => by rw [he'] at h0; cases h0) (fun _ _ => List.mem_cons_self ..) (fun h0 => by rw [he'] at h0; cases h0) (fun _ _ => hc) h
          · cases h
        · rename_i hl
          exact key rs es (fun _ h => h) (fun _ h => h) (fun h0 => by rw [he'] at h0; cases h0) (fun _ h0 => absurd h0 hl) (fun h0 => by rw [he'] at h0; cases h0) (fun _ h0 => absurd h0 hl) h

/-! ### a step, read in a greater heap -/

structure StepN (P : Program) (W N : Nat → Prop) (ρ : Ren) (G : Nat → Option Blk) (w : World) (ρ' : Ren) (G' : Nat → Option Blk) (w' : World) : Prop where
  rel : Rel P ρ' G' w'
  le : ρ.le ρ'
  sub : ∀ b, N b → W b
  new : ∀ b : Nat, ρ' b ≠ none → ρ b ≠ none ∨ N b
  size : w.heap.size ≤ w'.heap.size
  frame : ∀ c : Nat, c < w.heap.size → (∀ (b : Nat) (pl : Pl), ρ b = some pl → wr (G b) = true → pl.c ≠ c) → w'.heap[c]? = w.heap[c]?
  un : ∀ b : Nat, ¬ W b → ρ b = none → G' b = G b
  dead : ∀ b : Nat, ¬ W b → G b = some .dead → G' b = some .dead
  kd : ∀ b : Nat, ¬ W b → wr (G' b) = true → wr (G b) = true
  fresh : ∀ (b : Nat) (pl : Pl), ρ b = none → ρ' b = some pl → w.heap.size ≤ pl.c ∨ ∃ b0 p0, ρ b0 = some p0 ∧ wr (G b0) = true ∧ p0.c = pl.c
  os : w'.os = w.os
  tape : w'.tape = w.tape
  output : w'.output = w.output

theorem StepN.trans {P : Program} {W N1 N2 : Nat → Prop} {ρ ρ' ρ'' : Ren} {G G' G'' : Nat → Option Blk} {w w' w'' : World} (hW : ∀ b, W b → ρ b = none)
    (h : StepN P W N1 ρ G w ρ' G' w') (h' : StepN P W N2 ρ' G' w' ρ'' G'' w'') (kd2 : ∀ b pl, ρ b = some pl → wr (G' b) = true → wr (G b) = true) : StepN P W (fun b => N1 b ∨ N2 b) ρ G w ρ'' G'' w'' where
  rel := h'.rel
  le := Ren.le_trans h.le h'.le
  sub := fun b hb => hb.elim (h.sub b) (h'.sub b)
  new := fun b hb => by
    rcases h'.new b hb with h1 | h1
    · rcases h.new b h1 with h2 | h2
      · exact .inl h2
      · exact .inr (.inl h2)
    · exact .inr (.inr h1)
  size := Nat.le_trans h.size h'.size
  frame := fun c hc hf => by
    have h1 := h.frame c hc hf
    rw [h'.frame c (Nat.lt_of_lt_of_le hc h.size) ?_, h1]
    intro b pl hb hw
    cases hρ : ρ b with
    | some pl0 =>
      have := h.le b pl0 hρ
      rw [hb] at this; injection this with e; subst e
      exact hf b pl hρ (kd2 b pl hρ hw)
    | none =>
      rcases h.fresh b pl hρ hb with hge | ⟨b0, p0, h3, h4, h5⟩
      · omega
      · rw [← h5]; exact hf b0 p0 h3 h4
  un := fun b hb hn => by
    have hn' : ρ' b = none := by
      cases hρ : ρ' b with
      | none => rfl
      | some pl =>
        rcases h.new b (by simp [hρ]) with h1 | h1
        · exact absurd hn h1
        · exact absurd (h.sub b h1) hb
    rw [h'.un b hb hn', h.un b hb hn]
  dead := fun b hb hd => h'.dead b hb (h.dead b hb hd)
  kd := fun b hb hw => h.kd b hb (h'.kd b hb hw)
  fresh := fun b pl hn hb => by
    cases hρ : ρ' b with
    | some pl0 =>
      have := h'.le b pl0 hρ
      rw [hb] at this; injection this with e; subst e
      exact h.fresh b pl hn hρ
    | none =>
      rcases h'.fresh b pl hρ hb with hge | ⟨b0, p0, h3, h4, h5⟩
      · exact .inl (Nat.le_trans h.size hge)
      · cases h0 : ρ b0 with
        | some p1 =>
          have := h.le b0 p1 h0
          rw [h3] at this; injection this with e; subst e
          exact .inr ⟨b0, p0, h0, kd2 b0 p0 h0 h4, h5⟩
        | none =>
          rw [← h5]; exact h.fresh b0 p0 h0 h3
  os := h'.os.trans h.os
  tape := h'.tape.trans h.tape
  output := h'.output.trans h.output

/-- blocks that will come -/
def onTop (ini : Nat → Option Blk) (C : Heap) : Nat → Option Blk := fun b => if b < C.length then C[b]? else ini b

def IniOk (ini : Nat → Option Blk) : Prop := ∀ b x, ini b = some x → wr (some x) = true

theorem onTop_lt {ini : Nat → Option Blk} {C : Heap} {b : Nat} (h : b < C.length) : onTop ini C b = C[b]? := by simp [onTop, h]
theorem onTop_ge {ini : Nat → Option Blk} {C : Heap} {b : Nat} (h : ¬ b < C.length) : onTop ini C b = ini b := by simp [onTop, h]

theorem Rel.down {P : Program} {ρ : Ren} {ini : Nat → Option Blk} {C : Heap} {w : World} (hi : IniOk ini) (h : Rel P ρ (onTop ini C) w) : Rel P ρ (getH C) w := by
  refine ⟨h.lt, fun b pl x hb hx => ?_, fun b1 b2 p1 p2 hne h1 h2 hw hd => ?_⟩
  · have hlt := lt_of_ne_none hx
    exact h.blk b pl x hb (by rw [onTop_lt hlt]; exact hx)
  · obtain ⟨x, hx, _⟩ := wr_some hw
    have hlt := lt_of_ne_none hx
    refine h.sep b1 b2 p1 p2 hne h1 h2 (by rw [onTop_lt hlt]; exact hw) ?_
    by_cases h2' : b2 < C.length
    · rw [onTop_lt h2']; exact hd
    · rw [onTop_ge h2']
      intro e
      have := hi b2 _ e
      cases this

/-- a step of the heap is one of the greater one -/
theorem Step.lift {P : Program} {W : Nat → Prop} {ρ ρ' : Ren} {ini : Nat → Option Blk} {C C' : Heap} {w w' : World} (hi : IniOk ini) (hr : Rel P ρ (onTop ini C) w) (h : Step P ρ C w ρ' C' w')
    (hW : ∀ b, C.length ≤ b → b < C'.length → W b) : StepN P W (fun b => C.length ≤ b ∧ b < C'.length) ρ (onTop ini C) w ρ' (onTop ini C') w' := by
  have wrC : ∀ b, wr C[b]? = true → wr (onTop ini C b) = true := by
    intro b hb
    obtain ⟨x, hx, _⟩ := wr_some hb
    rw [onTop_lt (lt_of_ne_none hx)]; exact hb
  have iniwr : ∀ b x, ini b = some x → wr (ini b) = true := by
    intro b x hx
    rw [hx]; exact hi b x hx
  have inind : ∀ b, ini b ≠ some .dead := by
    intro b e
    have := hi b _ e
    cases this
  -- a pending block that is mapped behind the step was mapped ahead of it
  have pend : ∀ b p, ¬ b < C'.length → ρ' b = some p → ρ b = some p := by
    intro b p hb hp
    cases hρ : ρ b with
    | some p0 => have := h.le b p0 hρ; rw [hp] at this; exact this.symm ▸ rfl
    | none =>
      rcases h.new b (by rw [hp]; simp) with h1 | ⟨_, h2⟩
      · exact absurd hρ h1
      · exact absurd h2 hb
  have geC : ∀ b, ¬ b < C'.length → ¬ b < C.length := fun b hb hc => hb (Nat.lt_of_lt_of_le hc h.len)
  -- where a pending block lies, nothing living of the heap lies
  have apart : ∀ b1 b2 p1 p2, ¬ b1 < C'.length → b2 < C'.length → ρ' b1 = some p1 → ρ' b2 = some p2 → ini b1 ≠ none → C'[b2]? ≠ some .dead → p1.c ≠ p2.c := by
    intro b1 b2 p1 p2 hb1 hb2 h1 h2 hini hd
    have hρ1 := pend b1 p1 hb1 h1
    obtain ⟨x1, hx1⟩ := Option.ne_none_iff_exists'.1 hini
    have hg1 : onTop ini C b1 = ini b1 := onTop_ge (geC b1 hb1)
    cases hρ2 : ρ b2 with
    | some p20 =>
      have := h.le b2 p20 hρ2
      rw [h2] at this; injection this with e; subst e
      refine hr.sep b1 b2 p1 p2 (by omega) hρ1 hρ2 (by rw [hg1]; exact iniwr b1 x1 hx1) ?_
      by_cases hc : b2 < C.length
      · rw [onTop_lt hc]; intro hdd; exact hd (h.dead b2 hdd)
      · rw [onTop_ge hc]; exact inind b2
    | none =>
      rcases h.fresh b2 p2 hρ2 h2 with hge | ⟨b0, p0, h3, h4, h5⟩
      · have := hr.lt b1 p1 hρ1; omega
      · rw [← h5]
        have hne : b0 ≠ b1 := by
          rintro rfl
          obtain ⟨x, hx, _⟩ := wr_some h4
          exact geC b0 hb1 (lt_of_ne_none hx)
        exact fun e => hr.sep b0 b1 p0 p1 hne h3 hρ1 (wrC b0 h4) (by rw [hg1]; exact inind b1) e.symm
  refine ⟨⟨h.rel.lt, ?_, ?_⟩, h.le, fun b hb => hW b hb.1 hb.2, h.new, h.size, ?_, ?_, ?_, ?_, ?_, h.os, h.tape, h.output⟩
  · intro b p x hp hx
    by_cases hb : b < C'.length
    · rw [onTop_lt hb] at hx; exact h.rel.blk b p x hp hx
    · rw [onTop_ge hb] at hx
      have hρ := pend b p hb hp
      have hg : onTop ini C b = some x := by rw [onTop_ge (geC b hb)]; exact hx
      have hB := hr.blk b p x hρ hg
      rw [h.frame p.c (hr.lt b p hρ) ?_]
      · exact hB.mono h.le
      · intro b0 p0 h0 hw0
        have hne : b0 ≠ b := by
          rintro rfl
          obtain ⟨y, hy, _⟩ := wr_some hw0
          exact geC b0 hb (lt_of_ne_none hy)
        exact hr.sep b0 b p0 p hne h0 hρ (wrC b0 hw0) (by rw [hg]; intro h; have := hi b x hx; cases h; cases this)
  · intro b1 b2 p1 p2 hne h1 h2 hw hd
    by_cases hb1 : b1 < C'.length
    · rw [onTop_lt hb1] at hw
      by_cases hb2 : b2 < C'.length
      · rw [onTop_lt hb2] at hd; exact h.rel.sep b1 b2 p1 p2 hne h1 h2 hw hd
      · exact h.rel.sep b1 b2 p1 p2 hne h1 h2 hw (by simp only [getH]; rw [List.getElem?_eq_none (by omega)]; simp)
    · rw [onTop_ge hb1] at hw
      have hini : ini b1 ≠ none := by intro e; rw [e] at hw; simp [wr] at hw
      by_cases hb2 : b2 < C'.length
      · rw [onTop_lt hb2] at hd; exact apart b1 b2 p1 p2 hb1 hb2 h1 h2 hini hd
      · refine hr.sep b1 b2 p1 p2 hne (pend b1 p1 hb1 h1) (pend b2 p2 hb2 h2) (by rw [onTop_ge (geC b1 hb1)]; exact hw) (by rw [onTop_ge (geC b2 hb2)]; exact inind b2)
  · intro c hc hf
    exact h.frame c hc fun b p hb hw => hf b p hb (wrC b hw)
  · intro b hb hn
    by_cases h1 : b < C.length
    · rw [onTop_lt h1, onTop_lt (Nat.lt_of_lt_of_le h1 h.len)]; exact h.un b h1 hn
    · by_cases h2 : b < C'.length
      · exact absurd (hW b (by omega) h2) hb
      · rw [onTop_ge h1, onTop_ge h2]
  · intro b hb hd
    by_cases h1 : b < C.length
    · rw [onTop_lt h1] at hd
      rw [onTop_lt (Nat.lt_of_lt_of_le h1 h.len)]; exact h.dead b hd
    · rw [onTop_ge h1] at hd; exact absurd hd (inind b)
  · intro b hb hw
    by_cases h1 : b < C.length
    · rw [onTop_lt (Nat.lt_of_lt_of_le h1 h.len)] at hw
      rw [onTop_lt h1]; exact h.kd b h1 hw
    · by_cases h2 : b < C'.length
      · exact absurd (hW b (by omega) h2) hb
      · rw [onTop_ge h2] at hw; rw [onTop_ge h1]; exact hw
  · intro b p hn hp
    rcases h.fresh b p hn hp with h1 | ⟨b0, p0, h3, h4, h5⟩
    · exact .inl h1
    · exact .inr ⟨b0, p0, h3, wrC b0 h4, h5⟩

end Go.Abs
