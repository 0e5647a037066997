/-
  EACH OPERATION IS SOUND, part 3: copy, clear, make, literals, slices of slices, strings of bytes.
-/
import Derived.Test.YtdobnaldfmpimaaAbsOps2
import Derived.Lib.UnsafeStr
set_option linter.unusedSimpArgs false
set_option linter.unusedVariables false
namespace Go.Abs

section
variable {P : Program} {ρ : Ren} {H H' : Heap} {w : World}

theorem Vrs.set {xs ys : List Value} (h : Vrs ρ xs ys) {u v : Value} (hv : Vr ρ u v) (i : Nat) : Vrs ρ (xs.set i u) (ys.set i v) := by
  refine ⟨by simp [h.1], fun j a b ha hb => ?_⟩
  rw [List.getElem?_set] at ha hb
  by_cases e : i = j
  · subst e
    rw [if_pos rfl] at ha hb
    split at ha <;> split at hb <;> simp_all
  · rw [if_neg e] at ha hb
    exact h.2 j a b ha hb

theorem Vrs.setCells {vs vs' : List Value} (hv : Vrs ρ vs vs') : ∀ {xs ys : List Value} (o : Nat), Vrs ρ xs ys → Vrs ρ (Abs.setCells xs o vs) (Abs.setCells ys o vs') := by
  induction vs generalizing vs' with
  | nil => intro xs ys o h; rw [hv.nil_left]; exact h
  | cons u vs ih =>
    intro xs ys o h
    obtain ⟨v, vs'', rfl, h1, h2⟩ := hv.cons_left
    exact ih h2 (o + 1) (h.set h1 o)

theorem setArr_toList (a : Array Value) (o : Nat) (vs : List Value) : (setArr a o vs).toList = setCells a.toList o vs := by
  induction vs generalizing a o with
  | nil => rfl
  | cons v vs ih => simp [setArr, setCells, ih]

/-! ### rows of zeros -/

theorem flat_rep_length (zero : List Value) (n : Nat) : (List.replicate n zero).flatten.length = n * zero.length := by
  simp [List.length_flatten]

theorem flat_rep (zero : List Value) : ∀ (n i : Nat), i < n * zero.length → (List.replicate n zero).flatten[i]? = zero[i % zero.length]?
  | 0, i, h => by simp at h
  | n + 1, i, h => by
    rw [List.replicate_succ, List.flatten_cons, List.getElem?_append]
    split
    · rename_i hlt; rw [Nat.mod_eq_of_lt hlt]
    · rename_i hge
      rw [flat_rep zero n (i - zero.length) (by rw [Nat.add_mul] at h; omega)]
      rw [Nat.mod_eq_sub_mod (by omega : i ≥ zero.length)]

theorem range_zero (z : Array Value) (n : Nat) : ((Array.range (n * z.size)).map (z[· % z.size]!)).toList = (List.replicate n z.toList).flatten := by
  apply List.ext_getElem?
  intro i
  rw [Array.toList_map, Array.toList_range, List.getElem?_map]
  by_cases h : i < n * z.size
  · rw [List.getElem?_range h, flat_rep _ _ _ (by simpa using h)]
    have hz : 0 < z.size := by rcases Nat.eq_zero_or_pos z.size with e | e; · rw [e] at h; omega
                               · exact e
    have : i % z.size < z.size := Nat.mod_lt _ hz
    simp [this, getElem!_pos]
  · rw [List.getElem?_eq_none (by simpa using h), List.getElem?_eq_none (by rw [flat_rep_length]; simpa using h)]
    rfl

theorem range_zero' (z : Array Value) (sz n : Nat) (h : z.size = sz) : ((Array.range (n * sz)).map (z[· % z.size]!)).toList = (List.replicate n z.toList).flatten := by
  subst h; exact range_zero z n

theorem zeroCells_toList (z : Array Value) (n : Nat) : (Builtin.zeroCells z n).toList = (List.replicate n z.toList).flatten := by
  have := range_zero z n
  simpa [Builtin.zeroCells] using this

theorem lit_rep {zero : List Value} (hz : zero.all litCell = true) (n : Nat) : Vrs ρ (List.replicate n zero).flatten (List.replicate n zero).flatten := by
  refine ⟨rfl, fun i u v hu hv => ?_⟩
  rw [hu] at hv; injection hv with e; subst e
  have hm := List.mem_of_getElem? hu
  simp only [List.mem_flatten, List.mem_replicate] at hm
  obtain ⟨l, ⟨_, rfl⟩, hm⟩ := hm
  exact .same (List.all_eq_true.1 hz u hm)

/-! ### copy, clear -/

theorem setSame {b : Nat} {x : Blk} (h : H[b]? = some x) : H.set b x = H := by
  apply List.ext_getElem?
  intro i
  rw [List.getElem?_set]
  by_cases hi : b = i
  · subst hi; rw [h]; simp [lt_of_ne_none h]
  · simp [hi]

theorem cpy_sound (hr : Rel P ρ (getH H) w) {ts : Array TypeId} {t ty e : TypeId} {sz by' : Nat} (hts : ts[0]? = some t) (ht : P.underlying t = some (.slice e)) (hs : infoB P e = some (sz, by'))
    {d d' s s' r : Value} (hd : Vr ρ d d') (hsv : Vr ρ s s') (h : cpy sz d s H = some (r, H')) : Runs P (Builtin.copy_ ts ty #[d', s']) w (Post P ρ H w r H') := by
  unfold cpy at h
  split at h
  · cases h
  rename_i sn hsn
  have hl := fun w1 => srcLen_sound (P := P) hsv hsn w1
  split at h
  · injection h with h; injection h with h1 h2; subst h1; subst h2
    cases hd with
    | same _ =>
      have h0 : (Builtin.firstCells sz 0 s').run P w = .ok #[] w := by
        have hz : srcCells sz s 0 H = some [] ∨ (srcCells sz s 0 H = none) := by
          unfold srcCells
          split
          · simp
          · simp
          · split <;> simp
          · simp
        cases hsv with
        | same hls => cases s <;> simp_all [srcLen, litCell, Builtin.firstCells] <;> rename_i a _ _ <;> cases a <;> simp_all [Builtin.firstCells]
        | slice => show (loadCells _ (0 * sz)).run P w = _; rw [Nat.zero_mul]; rfl
        | slice0 => show (loadCells _ (0 * sz)).run P w = _; rw [Nat.zero_mul]; rfl
        | ptr => simp [srcLen] at hsn
        | map => simp [srcLen] at hsn
        | func => simp [srcLen] at hsn
        | agg => simp [srcLen] at hsn
        | tuple => simp [srcLen] at hsn
      refine ⟨.int .i64 0, w, ?_, Post.same hr (.same rfl)⟩
      simp [Builtin.copy_, hts, run_underlying ht, hl w, run_sizeOf hs, h0]; rfl
  · rename_i b o dn dc
    split at h
    · cases h
    rename_i new hnew
    split at h
    · rename_i cs e' k hb
      split at h
      · rename_i hc
        obtain ⟨hk, hlen, hall⟩ := hc
        injection h with h; injection h with h1 h2; subst h1; subst h2
        obtain ⟨hnl, ys, hys, hyl, hf⟩ := src_sound (P := P) hr hsv hnew
        have hf' := hf w rfl
        have fin : ∀ (a' : Addr) (dc' : Nat) (w' : World), (storeCells a' ys).run P w = .ok () w' → d' = .slice (some a') dn dc' →
            (Builtin.copy_ ts ty #[d', s']).run P w = .ok (.int .i64 (min sn dn : Nat)) w' := by
          intro a' dc' w' hst hd'
          subst hd'
          have hmin : Nat.min sn dn = min sn dn := rfl
          simp [Builtin.copy_, hts, run_underlying ht, hl w, run_sizeOf hs, hmin, hf', hst]; rfl
        cases hd with
        | same hls => simp [litCell] at hls
        | @slice _ _ _ _ cap' pl hpl _ _ _ =>
          obtain ⟨w', hrun, hst⟩ := write_sound (o := o) hr hpl hb hk hys (by rw [hnl]; exact hlen) hall
          exact ⟨_, w', fin _ _ w' hrun rfl, ρ, .same rfl, hst⟩
        | @slice0 _ _ pl a hpl =>
          have h0 : min sn 0 = 0 := by omega
          rw [h0, Nat.zero_mul] at hnl
          have hnil := List.length_eq_zero_iff.1 hnl
          subst hnil
          have := hys.nil_left
          subst this
          refine ⟨_, w, fin a 0 w (by simp [storeCells]) rfl, ρ, .same rfl, ?_⟩
          simp only [setCells]
          rw [setSame hb]
          exact Step.refl hr
      · cases h
    · cases h
  · cases h

theorem clr_sound (hr : Rel P ρ (getH H) w) {ts : Array TypeId} {t ty e : TypeId} {sz by' : Nat} {z : Value} (hts : ts[0]? = some t) (ht : P.underlying t = some (.slice e)) (hs : infoB P e = some (sz, by')) (hz : zeroT P e = some z) (hzl : z.cells.toList.all litCell = true)
    {d d' r : Value} (hd : Vr ρ d d') (h : clr sz z.cells.toList d H = some (r, H')) : Runs P (Builtin.clear_ ts ty #[d']) w (Post P ρ H w r H') := by
  unfold clr at h
  split at h
  · injection h with h; injection h with h1 h2; subst h1; subst h2
    cases hd with
    | same _ => exact ⟨.tuple #[], w, by simp [Builtin.clear_, hts, run_underlying ht], Post.same hr (.of_lit rfl)⟩
  · rename_i b o n c
    split at h
    · rename_i h0
      injection h with h; injection h with h1 h2; subst h1; subst h2; subst h0
      cases hd with
      | same hls => simp [litCell] at hls
      | slice => exact ⟨.tuple #[], w, by simp [Builtin.clear_, hts, run_underlying ht], Post.same hr (.of_lit rfl)⟩
      | slice0 => exact ⟨.tuple #[], w, by simp [Builtin.clear_, hts, run_underlying ht], Post.same hr (.of_lit rfl)⟩
    · rename_i h0
      split at h
      · rename_i cs e' k hb
        split at h
        · rename_i hc
          obtain ⟨hk, hlen, hzs, hall⟩ := hc
          injection h with h; injection h with h1 h2; subst h1; subst h2
          cases hd with
          | same hls => simp [litCell] at hls
          | slice0 => exact absurd rfl h0
          | @slice _ _ _ _ cap' pl hpl _ _ _ =>
            have hrep : allCells (List.replicate n z.cells.toList).flatten = true := by
              simp only [allCells, List.all_eq_true] at hall ⊢
              intro x hx
              simp only [List.mem_flatten, List.mem_replicate] at hx
              obtain ⟨l, ⟨_, rfl⟩, hx⟩ := hx
              exact hall x hx
            obtain ⟨w', hrun, hst⟩ := write_sound (o := o) hr hpl hb hk (lit_rep hzl n) (by rw [flat_rep_length, hzs]; exact hlen) hrep
            refine ⟨_, w', ?_, ρ, .of_lit (v := .tuple #[]) rfl, hst⟩
            rw [← zeroCells_toList] at hrun
            cases n with
            | zero => exact absurd rfl h0
            | succ n => simp [Builtin.clear_, hts, run_underlying ht, zeroT_some hz, hrun]
        · cases h
      · cases h
  · cases h

/-! ### make -/

theorem mkSlice_sound (hr : Rel P ρ (getH H) w) {t e : TypeId} {sz by' : Nat} {z : Value} (ht : P.underlying t = some (.slice e)) (hs : infoB P e = some (sz, by')) (hz : zeroT P e = some z) (hzl : z.cells.toList.all litCell = true)
    {n n' c c' r : Value} (hn : Vr ρ n n') (hc : Vr ρ c c') (hfree : ∀ b, H.length ≤ b → b < H'.length → ρ b = none)
    (h : mkSlice e sz by' z.cells.toList n c H = some (r, H')) : Runs P (Instr.makeSlice t n' c') w (Post P ρ H w r H') := by
  unfold mkSlice at h
  split at h
  · rename_i kn n kc c
    split at h
    · rename_i hcond
      obtain ⟨h0, hnc, hby, h62, hzs⟩ := hcond
      injection h with h; injection h with h1 h2; subst h1; subst h2
      have e1 := hn.eq_of_flat rfl
      have e2 := hc.eq_of_flat rfl
      subst e1; subst e2
      obtain ⟨i, hi, hi1, hi2⟩ := infoB_some hs
      have hzv : i.zero = some z := by unfold zeroT at hz; simpa [hi] using hz
      have hrun := run_make (P := P) w t e i z ht hi hzv kn kc n c h0 hnc (by rw [hi2]; exact hby) (by omega)
      rw [hi1] at hrun
      have hfr : ρ H.length = none := hfree _ (Nat.le_refl _) (by simp)
      have hlist : (madeCells z.cells (c.toNat * sz)).toList = (List.replicate c.toNat z.cells.toList).flatten := by
        unfold madeCells
        exact range_zero' z.cells sz c.toNat (by simpa using hzs)
      have hst := new_sound (w' := w.alloc (.cells (madeCells z.cells (c.toNat * sz)) e)) hr hfr (e := e) (lit_rep hzl c.toNat) .row (lo := 0) (hi := 0) (ccs := madeCells z.cells (c.toNat * sz)) rfl
        (fun i v hi => by rw [← hlist] at hi; rw [← Array.getElem?_toList]; exact hi) (by omega) rfl rfl rfl
      simp only [if_true] at hst
      refine ⟨_, _, hrun, _, ?_, hst⟩
      have := Vr.slice (ρ := ρ.upd H.length ⟨w.heap.size, 0, some (P.cellsOf e, (madeCells z.cells (c.toNat * sz)).size)⟩) (o := 0) (n := n.toNat) (cap := c.toNat) (cap' := c.toNat) (Ren.upd_same _ _ _) (by omega) (Nat.le_refl _) (by
        intro e' T hT
        simp only [Option.some.injEq, Prod.mk.injEq] at hT
        obtain ⟨rfl, rfl⟩ := hT
        rw [size_madeCells, cellsOf_infoB hs]; simp)
      simpa using this
    · cases h
  · cases h

/-! ### literals -/

theorem zipIdx_foldl (off : Nat) : ∀ (l : List Value) (k : Nat) (a : Array Value), (l.zipIdx k).foldl (fun cs (x : Value × Nat) => cs.setIfInBounds (off + x.2) x.1) a = setArr a (off + k) l
  | [], k, a => rfl
  | v :: l, k, a => by simp only [List.zipIdx_cons, List.foldl_cons, setArr]; rw [zipIdx_foldl off l (k + 1)]; rfl

def Parts (ρ : Ren) (ps ps' : List (Nat × Value)) : Prop := ps.map (·.1) = ps'.map (·.1) ∧ Vrs ρ (ps.map (·.2)) (ps'.map (·.2))

theorem fill_rel (place : Nat → Option (Nat × Nat)) : ∀ (ps ps' : List (Nat × Value)) (cs cs' r : Array Value), Parts ρ ps ps' → Vrs ρ cs.toList cs'.toList → Instr.fill place cs ps = some r →
    ∃ r', Instr.fill place cs' ps' = some r' ∧ Vrs ρ r.toList r'.toList
  | [], ps', cs, cs', r, hp, hc, h => by
    have : ps' = [] := by have := hp.1; simp at this; exact this
    subst this
    simp only [Instr.fill, Option.some.injEq] at h
    subst h
    exact ⟨cs', rfl, hc⟩
  | (i, v) :: ps, ps', cs, cs', r, hp, hc, h => by
    cases ps' with
    | nil => have := hp.1; simp at this
    | cons p ps' =>
      obtain ⟨i', v'⟩ := p
      have hi : i' = i := by have := hp.1; simp at this; exact this.1.symm
      subst hi
      have hv : Vr ρ v v' := by have := hp.2; exact Vrs.head (by simpa using this)
      have hps : Parts ρ ps ps' := ⟨by have := hp.1; simp at this; exact this, by have := hp.2; exact Vrs.tail (by simpa using this)⟩
      simp only [Instr.fill] at h ⊢
      split at h
      · cases h
      · rename_i off size hpl
        try rw [hpl]
        have hvc := hv.cells
        have e1 : v'.cells.size = v.cells.size := by have := hvc.1; simpa using this.symm
        have e2 : cs'.size = cs.size := by have := hc.1; simpa using this.symm
        simp only [e1, e2]
        split at h
        · cases h
        · rename_i hcond
          rw [if_neg hcond]
          have key : ∀ (x : Array Value) (a : Array Value), x.zipIdx.foldl (fun cs (p : Value × Nat) => cs.setIfInBounds (off + p.2) p.1) a = setArr a off x.toList := by
            intro x a
            rw [← Array.foldl_toList, Array.toList_zipIdx, zipIdx_foldl]; rfl
          have hk1 := key v.cells cs
          have hk2 := key v'.cells cs'
          refine fill_rel place ps ps' _ _ r hps ?_ h
          have : Vrs ρ (setArr cs off v.cells.toList).toList (setArr cs' off v'.cells.toList).toList := by
            rw [setArr_toList, setArr_toList]; exact Vrs.setCells hvc off hc
          rw [← hk1, ← hk2] at this
          exact this

theorem bldSlice_sound (hr : Rel P ρ (getH H) w) {t e : TypeId} {sz by' n : Nat} {z : Value} (ht : P.underlying t = some (.slice e)) (hs : infoB P e = some (sz, by')) (hz : zeroT P e = some z) (hzl : z.cells.toList.all litCell = true)
    (hzs : z.cells.toList.length = sz) (hn : n * sz ≤ 2 ^ 24) {ps : List (Nat × Value)} {ps' : Array (Nat × Value)} (hps : Parts ρ ps ps'.toList) {r : Value} (hfree : ∀ b, H.length ≤ b → b < H'.length → ρ b = none)
    (h : bldSlice e sz n z.cells.toList ps H = some (r, H')) : Runs P (Instr.buildSlice t n ps') w (Post P ρ H w r H') := by
  unfold bldSlice at h
  split at h
  · rename_i cs hcs
    injection h with h; injection h with h1 h2; subst h1; subst h2
    obtain ⟨cs', hfill, hrel⟩ := fill_rel _ ps ps'.toList _ (List.replicate n z.cells.toList).flatten.toArray _ hps (by simpa using lit_rep hzl n) hcs
    have hfr : ρ H.length = none := hfree _ (Nat.le_refl _) (by simp)
    have hst := new_sound (w' := w.alloc (.cells cs' e)) hr hfr (e := e) hrel .row (lo := 0) (hi := 0) (ccs := cs') rfl (fun i v hi => by rw [← Array.getElem?_toList]; exact hi) (by omega) rfl rfl rfl
    simp only [if_true] at hst
    have hsize : ∀ (place : Nat → Option (Nat × Nat)) (ps : List (Nat × Value)) (a r : Array Value), Instr.fill place a ps = some r → r.size = a.size := by
      intro place ps
      induction ps with
      | nil => intro a r h; simp [Instr.fill] at h; subst h; rfl
      | cons p ps ih =>
        intro a r h
        simp only [Instr.fill] at h
        split at h
        · cases h
        · split at h
          · cases h
          · have := ih _ _ h
            rw [this]
            have : ∀ (l : List (Value × Nat)) (off : Nat) (a : Array Value), (l.foldl (fun cs (p : Value × Nat) => cs.setIfInBounds (off + p.2) p.1) a).size = a.size := by
              intro l off
              induction l with
              | nil => intro a; rfl
              | cons x l ih => intro a; simp only [List.foldl_cons]; rw [ih]; simp
            rw [← Array.foldl_toList]
            exact this _ _ _
    have hsz : cs'.size = n * sz := by
      rw [hsize _ _ _ _ hfill]
      simp only [List.size_toArray]
      rw [flat_rep_length, hzs]
    refine ⟨.slice (some ⟨w.heap.size, 0, none⟩) n n, w.alloc (.cells cs' e), ?_, _, ?_, hst⟩
    · have hinit : ((Array.range (n * sz)).map (z.cells[· % z.cells.size]!)) = (List.replicate n z.cells.toList).flatten.toArray := by
        apply Array.ext'
        rw [range_zero' z.cells sz n (by simpa using hzs)]
      have hnlt : ¬ (2 ^ 24 < n * sz) := by omega
      by_cases h0 : n * sz = 0
      · have he : (List.replicate n z.cells.toList).flatten = [] := by
          apply List.length_eq_zero_iff.1
          rw [flat_rep_length, hzs]; exact h0
        rw [he] at hfill
        simp [Instr.buildSlice, run_underlying ht, run_sizeOf hs, h0, hfill, newRow, Array.range_zero']
      · simp [Instr.buildSlice, run_underlying ht, run_sizeOf hs, h0, hnlt, zeroT_some hz, newRow]
        rw [hinit, hfill]
        simp
    · have := Vr.slice (ρ := ρ.upd H.length ⟨w.heap.size, 0, some (P.cellsOf e, cs'.size)⟩) (o := 0) (n := n) (cap := n) (cap' := n) (Ren.upd_same _ _ _) (Nat.le_refl _) (Nat.le_refl _) (by
        intro e' T hT
        simp only [Option.some.injEq, Prod.mk.injEq] at hT
        obtain ⟨rfl, rfl⟩ := hT
        rw [hsz, cellsOf_infoB hs]; simp)
      simpa using this
  · cases h

end
end Go.Abs
