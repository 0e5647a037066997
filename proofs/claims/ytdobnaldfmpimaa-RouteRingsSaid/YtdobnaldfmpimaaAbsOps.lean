/-
  EACH OPERATION IS SOUND, part 1: reading, writing, places, numbers.
-/
import Derived.Test.YtdobnaldfmpimaaAbsSteps
import Derived.Laws.StructEq
import Derived.Laws.Append
import Derived.Laws.MakeOwn
import Derived.Laws.Slices
set_option linter.unusedSimpArgs false
set_option linter.unusedVariables false
namespace Go.Abs

section
variable {P : Program} {ρ : Ren} {H H' : Heap} {w : World}

def Post (P : Program) (ρ : Ren) (H : Heap) (w : World) (v : Value) (H' : Heap) : Value → World → Prop :=
  fun v' w' => ∃ ρ', Vr ρ' v v' ∧ Step P ρ H w ρ' H' w'

/-- a run that answers -/
def Runs {α : Type} (P : Program) (s : Sem α) (w : World) (R : α → World → Prop) : Prop := ∃ v w', s.run P w = .ok v w' ∧ R v w'

theorem Post.same (hr : Rel P ρ (getH H) w) {v v' : Value} (h : Vr ρ v v') : Post P ρ H w v H v' w := ⟨ρ, h, Step.refl hr⟩

theorem pur_run {α : Type} (s : Sem α) (a : α) (h : pur P s = some a) (w : World) : s.run P w = .ok a w := by
  induction s with
  | pure b => simp [pur] at h; subst h; rfl
  | program k ih => simp only [pur] at h; simp only [Sem.run]; exact ih P h
  | _ => simp [pur] at h

theorem run_sizeOf {t : TypeId} {sz b : Nat} (h : infoB P t = some (sz, b)) (w : World) : (Go.sizeOf t).run P w = .ok sz w := by
  unfold infoB at h
  cases hi : P.info? t with
  | none => simp [hi] at h
  | some i => simp [hi] at h; simp [Go.sizeOf, typeInfo, hi, h.1]

theorem run_typeInfo {t : TypeId} {i : TypeInfo} (h : P.info? t = some i) (w : World) : (typeInfo t).run P w = .ok i w := by simp [typeInfo, h]

theorem infoB_some {t : TypeId} {sz b : Nat} (h : infoB P t = some (sz, b)) : ∃ i, P.info? t = some i ∧ i.size = sz ∧ i.bytes = b := by
  unfold infoB at h
  cases hi : P.info? t with
  | none => simp [hi] at h
  | some i => simp [hi] at h; exact ⟨i, rfl, h.1, h.2⟩

theorem cellsOf_infoB {t : TypeId} {sz b : Nat} (h : infoB P t = some (sz, b)) : P.cellsOf t = sz := by
  obtain ⟨i, hi, h1, _⟩ := infoB_some h
  simp [Program.cellsOf, hi, h1]

theorem zeroT_some {t : TypeId} {z : Value} (h : zeroT P t = some z) (w : World) : (zeroValue t).run P w = .ok z w := by
  unfold zeroT at h
  cases hi : P.info? t with
  | none => simp [hi] at h
  | some i => simp [hi] at h; simp [zeroValue, typeInfo, hi, h]

theorem run_isAgg {t : TypeId} {g : Bool} (h : aggOf P t = some g) (w : World) : (isAgg t).run P w = .ok g w := by
  unfold aggOf at h
  cases hu : P.underlying t with
  | none => simp [hu] at h
  | some d => cases d <;> simp_all [isAgg, run_underlying hu]

/-! ### reading -/

theorem ld1_inv {a v : Value} (h : ld1 a H = some (v, H')) : H' = H ∧ ∃ b o cs e k, a = adr b o ∧ H[b]? = some (.cells cs e k) ∧ cs[o]? = some v := by
  unfold ld1 at h
  split at h
  · rename_i b o
    split at h
    · rename_i cs e k hb
      split at h
      · rename_i x hx
        injection h with h; injection h with h1 h2; subst h1; subst h2
        exact ⟨rfl, b, o, cs, e, k, rfl, hb, hx⟩
      · cases h
    · cases h
  · cases h

theorem ldN_inv {n : Nat} {a v : Value} (h : ldN n a H = some (v, H')) : H' = H ∧ ∃ b o cs e k, a = adr b o ∧ H[b]? = some (.cells cs e k) ∧ o + n ≤ cs.length ∧ v = .agg ((cs.drop o).take n).toArray := by
  unfold ldN at h
  split at h
  · rename_i b o
    split at h
    · rename_i cs e k hb
      split at h
      · rename_i hx
        injection h with h; injection h with h1 h2; subst h1; subst h2
        exact ⟨rfl, b, o, cs, e, k, rfl, hb, hx, rfl⟩
      · cases h
    · cases h
  · cases h

theorem Vr.ptr_inv {b o : Nat} {v' : Value} (h : Vr ρ (adr b o) v') : ∃ pl, ρ b = some pl ∧ v' = adr pl.c (pl.base + o) := by
  cases h with
  | same h => simp [litCell] at h
  | @ptr _ _ pl h => exact ⟨pl, h, rfl⟩

theorem load_sound (hr : Rel P ρ (getH H) w) {ty : TypeId} {sz by' : Nat} {g : Bool} (hs : infoB P ty = some (sz, by')) (hg : aggOf P ty = some g) {a a' v : Value} (ha : Vr ρ a a')
    (h : (if g = true then ldN sz a else ld1 a) H = some (v, H')) : H' = H ∧ ∃ ad v', a' = .pointer (some ad) ∧ (loadVar ty ad).run P w = .ok v' w ∧ Vr ρ v v' := by
  cases g with
  | true =>
    simp only [if_true] at h
    obtain ⟨rfl, b, o, cs, e, k, rfl, hb, hn, rfl⟩ := ldN_inv h
    obtain ⟨pl, hpl, rfl⟩ := ha.ptr_inv
    obtain ⟨ys, hyl, hys, hcell⟩ := (hr.blk b pl _ hpl hb).read hn
    have hrun := run_loadCells_list (P := P) w ⟨pl.c, pl.base + o, none⟩ ys hcell
    rw [hyl] at hrun
    exact ⟨rfl, _, .agg ys.toArray, rfl, by simp [loadVar, run_isAgg hg, run_sizeOf hs, hrun], .agg (by simpa using hys.1) (by simpa using hys.2)⟩
  | false =>
    simp only [Bool.false_eq_true, if_false] at h
    obtain ⟨rfl, b, o, cs, e, k, rfl, hb, hx⟩ := ld1_inv h
    obtain ⟨pl, hpl, rfl⟩ := ha.ptr_inv
    obtain ⟨ccs, ce, lo, hi, ho, hv, _⟩ := hr.blk b pl _ hpl hb
    obtain ⟨v', h1, h2⟩ := hv o v hx
    have hc : w.cell? ⟨pl.c, pl.base + o, none⟩ = some v' := by rw [cell_row ho]; exact h1
    exact ⟨rfl, _, v', rfl, by simp [loadVar, run_isAgg hg, hc], h2⟩

/-! ### writing -/

/-- cells are written -/
theorem write_sound (hr : Rel P ρ (getH H) w) {b : Nat} {pl : Pl} {cs : List Value} {e : TypeId} {k : Kind} (hb : ρ b = some pl) (hH : H[b]? = some (.cells cs e k)) (hk : k ≠ .ro)
    {o : Nat} {vs vs' : List Value} (hv : Vrs ρ vs vs') (hl : o + vs.length ≤ cs.length) (hc : allCells vs = true) :
    ∃ w', (storeCells ⟨pl.c, pl.base + o, none⟩ vs').run P w = .ok () w' ∧ Step P ρ H w ρ (H.set b (.cells (setCells cs o vs) e k)) w' := by
  have hB := hr.blk b pl _ hb hH
  obtain ⟨ccs, ce, lo, hi, ho, hcs, hfz, hrow, hnrow⟩ := hB
  have hlen : ∀ i, i < cs.length → pl.base + i < ccs.size := by
    intro i hi
    obtain ⟨v', h1, _⟩ := hcs i cs[i] (by simp [hi])
    exact (Array.getElem?_eq_some_iff.1 h1).1
  have hwr : wr H[b]? = true := by rw [hH]; simpa [wr] using hk
  have hlt := (Array.getElem?_eq_some_iff.1 ho).1
  cases hvs : vs with
  | nil =>
    subst hvs
    rw [hv.nil_left]
    have : H.set b (.cells cs e k) = H := by
      apply List.ext_getElem?
      intro i
      rw [List.getElem?_set]
      by_cases hi : b = i
      · subst hi; rw [hH]; simp [lt_of_ne_none hH]
      · simp [hi]
    refine ⟨w, by simp [storeCells], ?_⟩
    simp only [setCells, this]
    exact Step.refl hr
  | cons x xs =>
    have hne : vs ≠ [] := by rw [hvs]; simp
    rw [← hvs]
    have hne' : vs' ≠ [] := by
      rintro rfl
      have := hv.1
      simp at this; exact hne this
    have hsz : pl.base + o + vs'.length ≤ ccs.size := by
      have := hlen (o + vs.length - 1) (by have := List.length_pos_iff.2 hne; omega)
      have := List.length_pos_iff.2 hne
      rw [← hv.1]; omega
    have hrun := run_storeCells P pl.c (pl.base + o) ce (lo, hi) vs' 0 w ccs ho (by simpa using hsz) (hfz hk) (hv.allCells hc)
    rw [if_neg hne'] at hrun
    refine ⟨_, hrun, ?_⟩
    refine Step.change hr hb hwr (by simp [putBlk]) (fun c hc _ => by rw [putBlk_get _ _ _ hlt, if_neg hc]) ?_ rfl rfl rfl
    refine ⟨setArr ccs (pl.base + o + 0) vs', ce, lo, hi, by rw [putBlk_get _ _ _ hlt]; simp, ?_, ?_, ?_, ?_⟩
    · intro i v hi
      rw [setCells_get _ _ _ hl] at hi
      rw [setArr_get _ _ _ (by simpa using hsz)]
      by_cases h1 : o ≤ i ∧ i < o + vs.length
      · rw [if_pos h1] at hi
        rw [if_pos (by rw [← hv.1]; omega), show pl.base + i - (pl.base + o + 0) = i - o by omega]
        exact hv.get hi
      · rw [if_neg h1] at hi
        rw [if_neg (by rw [← hv.1]; omega)]
        exact hcs i v hi
    · intro hk' off hoff
      rw [setArr_size] at hoff
      exact hfz hk' off hoff
    · intro h; rw [setArr_size]; exact hrow h
    · exact hnrow

theorem stN_sound (hr : Rel P ρ (getH H) w) {ty : TypeId} {sz by' : Nat} (hs : infoB P ty = some (sz, by')) {a a' v v' r : Value} (ha : Vr ρ a a') (hv : Vr ρ v v')
    (h : stN sz a v H = some (r, H')) : ∃ w', (Instr.storeAt ty a' v').run P w = .ok () w' ∧ r = undef ∧ Step P ρ H w ρ H' w' := by
  unfold stN at h
  split at h
  · rename_i b o
    split at h
    · rename_i cs e k hb
      split at h
      · rename_i hc
        obtain ⟨hk, hn, hl, hcl⟩ := hc
        injection h with h; injection h with h1 h2; subst h1; subst h2
        obtain ⟨pl, hpl, rfl⟩ := ha.ptr_inv
        obtain ⟨w', hrun, hst⟩ := write_sound (o := o) hr hpl hb hk hv.cells (by rw [hn]; exact hl) hcl
        refine ⟨w', ?_, rfl, hst⟩
        have hn' : v'.cells.size = sz := by have := hv.cells.1; simp only [Array.length_toList] at this hn; omega
        simp [Instr.storeAt, Instr.sureAddr, storeVar, run_sizeOf hs, hn', hrun]
      · cases h
    · cases h
  · cases h

/-! ### new memory -/

theorem alloc_get (w : World) (x : Obj) (c : Nat) : (w.heap.push x)[c]? = if c = w.heap.size then some x else w.heap[c]? := by
  rw [Array.getElem?_push]

theorem new_sound (hr : Rel P ρ (getH H) w) (hfree : ρ H.length = none) {e : TypeId} {cs cs' : List Value} (hv : Vrs ρ cs cs') (k : Kind) {w' : World} {ccs : Array Value} {lo hi : Nat}
    (hheap : w'.heap = w.heap.push (.cells ccs e (lo, hi))) (hpre : ∀ (i : Nat) (v : Value), cs'[i]? = some v → ccs[i]? = some v)
    (hfz : ∀ off, off < ccs.size → ¬ (lo ≤ off ∧ off < hi))
    (hos : w'.os = w.os) (htape : w'.tape = w.tape) (hout : w'.output = w.output) :
    Step P ρ H w (ρ.upd H.length ⟨w.heap.size, 0, if k = .row then some (P.cellsOf e, ccs.size) else none⟩) (H ++ [.cells cs e k]) w' := by
  refine Step.newB hr hfree (Nat.le_refl _) (by rw [hheap]; simp) (by rw [hheap]; simp) (fun c hc => by rw [hheap, alloc_get, if_neg (by omega)]) ?_ (by simp) hos htape hout
  have hle := Ren.le_upd (ρ := ρ) (b := H.length) ⟨w.heap.size, 0, if k = .row then some (P.cellsOf e, ccs.size) else none⟩ hfree
  refine ⟨ccs, e, lo, hi, by rw [hheap, alloc_get]; simp, ?_, fun _ => hfz, fun h => by simp [h], fun h => by simp [h]⟩
  intro i v hi
  obtain ⟨v', h1, h2⟩ := hv.get hi
  exact ⟨v', by simpa using hpre i v' h1, h2.mono hle⟩

theorem newVar_sound (hr : Rel P ρ (getH H) w) (hfree : ρ H.length = none) {e : TypeId} {v v' : Value} (hv : Vr ρ v v') {r : Value} (h : newB e v.cells.toList .fix H = some (r, H')) :
    Runs P (do pure (.pointer (some (← newVar e v'))) : Sem Value) w (Post P ρ H w r H') := by
  simp only [newB] at h
  injection h with h; injection h with h1 h2; subst h1; subst h2
  refine ⟨adr w.heap.size 0, { w with heap := w.heap.push (.cells v'.cells e) }, by simp [newVar, newRow], _, ?_,
    new_sound hr hfree hv.cells .fix (ccs := v'.cells) (lo := 0) (hi := 0) rfl (fun i v h => by simpa using h) (by omega) rfl rfl rfl⟩
  have := Vr.ptr (ρ := ρ.upd H.length ⟨w.heap.size, 0, none⟩) (o := 0) (Ren.upd_same ρ H.length ⟨w.heap.size, 0, none⟩)
  simpa using this

end
end Go.Abs
