/-
  slices.Sort AT INTEGERS AS A WORD (its contract is the library's own): what it does here, and that it does so there.
-/
import Derived.Test.YtdobnaldfmpimaaAbsRow
import Derived.Sort.Grow
set_option linter.unusedSectionVars false
set_option linter.unusedSimpArgs false
set_option linter.unusedVariables false
namespace Go.Abs
open Go.Sort

def intsOf : List Value → Option (List Int)
  | [] => some []
  | .int .i64 n :: r => (intsOf r).map (n :: ·)
  | _ => none

def ins (x : Int) : List Int → List Int
  | [] => [x]
  | y :: ys => if x ≤ y then x :: y :: ys else y :: ins x ys
def srt : List Int → List Int
  | [] => []
  | x :: xs => ins x (srt xs)

theorem ins_perm (x : Int) : ∀ ys, (ins x ys).Perm (x :: ys)
  | [] => List.Perm.refl _
  | y :: ys => by
    unfold ins
    split
    · exact List.Perm.refl _
    · exact ((ins_perm x ys).cons y).trans (List.Perm.swap x y ys)
theorem srt_perm : ∀ zs, (srt zs).Perm zs
  | [] => List.Perm.refl _
  | x :: xs => (ins_perm x (srt xs)).trans ((srt_perm xs).cons x)
theorem ins_pw (x : Int) : ∀ ys, ys.Pairwise (· ≤ ·) → (ins x ys).Pairwise (· ≤ ·)
  | [], _ => by simp [ins]
  | y :: ys, h => by
    obtain ⟨h1, h2⟩ := List.pairwise_cons.mp h
    unfold ins
    split
    · rename_i hxy
      refine List.pairwise_cons.mpr ⟨fun z hz => ?_, h⟩
      rcases List.mem_cons.mp hz with rfl | hz
      · exact hxy
      · exact Int.le_trans hxy (h1 z hz)
    · rename_i hxy
      refine List.pairwise_cons.mpr ⟨fun z hz => ?_, ins_pw x ys h2⟩
      rcases List.mem_cons.mp ((ins_perm x ys).mem_iff.mp hz) with rfl | hz
      · omega
      · exact h1 z hz
theorem srt_pw : ∀ zs, (srt zs).Pairwise (· ≤ ·)
  | [] => List.Pairwise.nil
  | x :: xs => ins_pw x _ (srt_pw xs)
theorem srt_eq (zs : List Int) : (zs.mergeSort fun x y => decide (x ≤ y)) = srt zs := by
  refine List.Perm.eq_of_pairwise (le := fun x y => x ≤ y) (fun a b _ _ h1 h2 => by omega) ?_ (srt_pw zs) ((List.mergeSort_perm zs _).trans (srt_perm zs).symm)
  have := List.pairwise_mergeSort (le := fun x y : Int => decide (x ≤ y)) (fun a b c h1 h2 => by simp at *; omega) (fun a b => by simp; omega) zs
  exact this.imp fun h => by simpa using h

theorem intsOf_map : ∀ zs : List Int, intsOf (zs.map (Value.int .i64)) = some zs
  | [] => rfl
  | z :: zs => by simp [intsOf, intsOf_map zs]
theorem intsOf_some : ∀ (vs : List Value) (zs : List Int), intsOf vs = some zs → vs = zs.map (Value.int .i64)
  | [], zs, h => by simp [intsOf] at h; subst h; rfl
  | v :: vs, zs, h => by
    unfold intsOf at h
    split at h
    · rename_i h1; cases h1
    · rename_i n r h1
      cases h1
      cases hr : intsOf vs with
      | none => rw [hr] at h; cases h
      | some ys =>
        rw [hr] at h
        cases h
        rw [List.map_cons, ← intsOf_some vs ys hr]
    · cases h

/-- slices.Sort -/
def sortP (args : List Value) (H : Heap) : Option (Value × Heap) :=
  match args with
  | [.slice none 0 0] => some (.tuple #[], H)
  | [.slice (some ⟨b, o, none⟩) n _] =>
    if n = 0 then some (.tuple #[], H) else
    match H[b]? with
    | some (.cells cs e .row) =>
      if o + n ≤ cs.length ∧ n < 4611686018427387904 then
        match intsOf ((cs.drop o).take n) with
        | some zs => some (.tuple #[], H.set b (.cells (setCells cs o ((srt zs).map (Value.int .i64))) e .row))
        | none => none
      else none
    | _ => none
  | _ => none

/-- what the library's contract says of function g -/
structure SortOk (P : Program) (g : FuncId) : Prop where
  ent : ∀ args w, (callFunc g args).run P w = .ok (.enter g args) w
  none : ∀ (p : Option Addr) (cap : Nat) (w : World), Calls P g #[.slice p 0 cap] w fun e w' => e = .returned (.tuple #[]) ∧ w' = w
  sort : ∀ (blk off cap : Nat) (zs : List Int) (w : World), Holds (Value.int .i64) w blk off zs.toArray → blk < w.heap.size → zs.length < 4611686018427387904 →
    Calls P g #[.slice (some ⟨blk, off, Option.none⟩) zs.length cap] w fun e w' => e = .returned (.tuple #[]) ∧ ∃ n os, w' = grow (putRow (Value.int .i64) (Sort.ahead w n) blk off (zs.mergeSort fun x y => decide (x ≤ y)).toArray) os

theorem sortP_len {args : List Value} {H H' : Heap} {v : Value} (h : sortP args H = some (v, H')) : H.length ≤ H'.length := by
  unfold sortP at h
  split at h
  · cases h; exact Nat.le_refl _
  · split at h
    · cases h; exact Nat.le_refl _
    · split at h
      · split at h
        · split at h
          · cases h; simp
          · cases h
        · cases h
      · cases h
  · cases h

theorem srt_len (zs : List Int) : (srt zs).length = zs.length := (srt_perm zs).length_eq

theorem sortP_sound {P : Program} {g : FuncId} (hg : SortOk P g) {args : List Value} {H H' : Heap} {v : Value} (h : sortP args H = some (v, H')) {ρ : Ren} {w : World} {args' : List Value} (hr : Rel P ρ (getH H) w) (ha : Vrs ρ args args') :
    CallGood P (.func g) args'.toArray w (Post P ρ H w v H') := by
  have he := hg.ent args'.toArray w
  refine ⟨he, ?_⟩
  unfold sortP at h
  split at h
  · cases h
    obtain ⟨hl, h1⟩ := ha
    match args', hl with
    | [a'], _ =>
      have hv := h1 0 _ a' rfl rfl
      cases hv with
      | same _ => exact (hg.none none 0 w).mono fun e w' ⟨h1, h2⟩ => ⟨_, h1, h2 ▸ Post.same hr (.of_lit rfl)⟩
  · rename_i b o n cap
    obtain ⟨hl, h1⟩ := ha
    match args', hl with
    | [a'], _ =>
      have hv := h1 0 _ a' rfl rfl
      split at h
      · rename_i h0
        cases h
        subst h0
        cases hv with
        | same hls => simp [litCell] at hls
        | slice => exact (hg.none _ _ w).mono fun e w' ⟨h1, h2⟩ => ⟨_, h1, h2 ▸ Post.same hr (.of_lit rfl)⟩
        | slice0 => exact (hg.none _ _ w).mono fun e w' ⟨h1, h2⟩ => ⟨_, h1, h2 ▸ Post.same hr (.of_lit rfl)⟩
      · rename_i h0
        split at h
        · rename_i cs e hb
          split at h
          · rename_i hlen
            split at h
            · rename_i zs hzs
              cases h
              have hz := intsOf_some _ _ hzs
              have hzl : zs.length = n := by
                have := congrArg List.length hz
                simp at this
                omega
              cases hv with
              | same hls => simp [litCell] at hls
              | slice0 => exact absurd rfl h0
              | @slice _ _ _ _ cap' pl hpl _ _ _ =>
                have hB := hr.blk b pl _ hpl hb
                obtain ⟨ccs, ce, lo, hi, ho, hcv, hfz, hrow, hro⟩ := hB
                have hplt := hr.lt b pl hpl
                have hin : ∀ j, j < n → ∃ z, zs[j]? = some z ∧ ccs[pl.base + o + j]? = some (.int .i64 z) := by
                  intro j hj
                  have hzj : zs[j]? = some zs[j] := List.getElem?_eq_getElem (by omega)
                  refine ⟨_, hzj, ?_⟩
                  have h2 : cs[o + j]? = some (.int .i64 zs[j]) := by
                    have := congrArg (·[j]?) hz
                    simp only [List.getElem?_take, List.getElem?_drop, List.getElem?_map, hzj, if_pos hj] at this
                    exact this
                  obtain ⟨v', h3, h4⟩ := hcv (o + j) _ h2
                  have h5 := h4.eq_of_flat rfl
                  subst h5
                  rw [Nat.add_assoc]
                  exact h3
                have hH : Holds (Value.int .i64) w pl.c (pl.base + o) zs.toArray := by
                  intro j hj
                  have hj' : j < n := by simpa [hzl] using hj
                  obtain ⟨z, hz1, hz2⟩ := hin j hj'
                  have hgz : zs.toArray[j]! = z := by
                    have hjz : j < zs.length := by omega
                    rw [getElem!_pos _ j (by simpa using hjz)]
                    have := List.getElem?_eq_some_iff.mp hz1
                    simpa using this.2
                  refine ⟨by rw [cell_row ho, hz2, hgz], ?_⟩
                  have hlt : pl.base + o + j < ccs.size := (Array.getElem?_eq_some_iff.mp hz2).1
                  have := hfz (by decide) (pl.base + o + j) hlt
                  simp only [World.frozen?, ho]
                  simp
                  omega
                have hc := hg.sort pl.c (pl.base + o) cap' zs w hH hplt (by omega)
                rw [hzl, srt_eq] at hc
                refine hc.mono fun e w' ⟨h1, q, os, h2⟩ => ⟨_, h1, ρ, .of_lit (v := .tuple #[]) rfl, ?_⟩
                have hsz : (srt zs).toArray.size = n := by
                  have := srt_len zs
                  simp [this, hzl]
                have hheap : ∀ c : Nat, c < w.heap.size → w'.heap[c]? = if c = pl.c then some (.cells (putCells (Value.int .i64) (pl.base + o) (srt zs).toArray ccs) ce (lo, hi)) else w.heap[c]? := by
                  intro c hcl
                  rw [h2]
                  simp only [grow, putRow, mapBlock, Sort.ahead]
                  rw [Array.getElem?_append_left (by simpa using hcl), Array.getElem?_modify]
                  by_cases hcc : pl.c = c
                  · subst hcc
                    rw [if_pos rfl, if_pos rfl, ho]
                    rfl
                  · rw [if_neg hcc, if_neg (Ne.symm hcc)]
                refine Step.change hr hpl (by rw [hb]; rfl) ?_ (fun c hne hcl => by rw [hheap c hcl, if_neg hne]) ?_ ?_ ?_ ?_
                · rw [h2]
                  simp [grow, putRow, mapBlock, Sort.ahead]
                · rw [hheap pl.c hplt, if_pos rfl]
                  refine ⟨_, ce, lo, hi, rfl, fun i v hi => ?_, fun hk off hoff => hfz hk off (by simpa [putCells] using hoff), fun hk => ?_, hro⟩
                  · rw [setCells_get _ _ _ (by rw [List.length_map, srt_len]; omega)] at hi
                    rw [List.length_map, srt_len, hzl] at hi
                    by_cases hin2 : o ≤ i ∧ i < o + n
                    · rw [if_pos hin2] at hi
                      obtain ⟨z, _, hz2⟩ := hin (i - o) (by omega)
                      have hlt : pl.base + i < ccs.size := by
                        have := (Array.getElem?_eq_some_iff.mp hz2).1
                        omega
                      refine ⟨v, ?_, ?_⟩
                      · unfold putCells
                        rw [Array.getElem?_mapIdx, Array.getElem?_eq_getElem hlt, Option.map_some, if_pos ⟨by omega, by rw [hsz]; omega⟩]
                        have e1 : pl.base + i - (pl.base + o) = i - o := by omega
                        rw [e1]
                        have hlt2 : i - o < (srt zs).length := by rw [srt_len]; omega
                        rw [List.getElem?_map, List.getElem?_eq_getElem hlt2] at hi
                        rw [← Option.some.inj hi]
                        have : (srt zs).toArray[i - o]! = (srt zs)[i - o] := by
                          rw [getElem!_pos _ (i - o) (by rw [hsz]; omega)]
                          simp
                        rw [this]
                      · have hlt2 : i - o < (srt zs).length := by rw [srt_len]; omega
                        rw [List.getElem?_map, List.getElem?_eq_getElem hlt2] at hi
                        rw [← Option.some.inj hi]
                        exact .of_lit rfl
                    · rw [if_neg hin2] at hi
                      obtain ⟨v', h3, h4⟩ := hcv i v hi
                      refine ⟨v', ?_, h4⟩
                      unfold putCells
                      rw [Array.getElem?_mapIdx, h3, Option.map_some, if_neg (by rw [hsz]; omega)]
                  · have := hrow hk
                    simpa [putCells] using this
                · rw [h2]; rfl
                · rw [h2]; rfl
                · rw [h2]; rfl
            · cases h
          · cases h
        · cases h
  · cases h

/-- calls without arguments that answer true, and slices.Sort -/
def sortPr (ids : List FuncId) (g : FuncId) : Prims := fun f => match f with
  | .func k => if k = g then some sortP else flatPr ids (.func k)
  | _ => none

theorem sortPr_no {ids : List FuncId} {g k : FuncId} (hg : (k == g) = false) (h : ids.contains k = false) : sortPr ids g (.func k) = none := by
  have : k ≠ g := by simpa using hg
  simp only [sortPr, if_neg this]
  exact flatPr_no h
theorem sortPr_sort {ids : List FuncId} {g : FuncId} : sortPr ids g (.func g) = some sortP := by simp [sortPr]
theorem sortPr_ok {P : Program} {ids : List FuncId} {g : FuncId} (h : PrimsOk P (flatPr ids)) (hs : SortOk P g) : PrimsOk P (sortPr ids g) := by
  constructor
  · intro f p hf args H v H' hp
    cases f with
    | func k =>
      by_cases hk : k = g
      · simp only [sortPr, if_pos hk] at hf
        cases hf
        exact sortP_len hp
      · simp only [sortPr, if_neg hk] at hf
        exact h.mono _ _ hf _ _ _ _ hp
    | _ => cases hf
  · intro f p hf args H v H' hp ρ w args' hr ha hfree
    cases f with
    | func k =>
      by_cases hk : k = g
      · simp only [sortPr, if_pos hk] at hf
        cases hf
        subst hk
        exact sortP_sound hs hp hr ha
      · simp only [sortPr, if_neg hk] at hf
        exact h.sound _ _ hf _ _ _ _ hp _ _ _ hr ha hfree
    | _ => cases hf

/-- calls without arguments that answer true, over other words -/
def truePr (ids : List FuncId) (pr : Prims) : Prims := fun f => match f with
  | .func k => if ids.contains k = true then some fun args H => if args.isEmpty = true then some (.bool true, H) else none else pr (.func k)
  | _ => none

theorem truePr_no {ids : List FuncId} {pr : Prims} {k : FuncId} (h : ids.contains k = false) (hp : pr (.func k) = none) : truePr ids pr (.func k) = none := by
  simp only [truePr, h]
  exact hp
theorem truePr_old {ids : List FuncId} {pr : Prims} {k : FuncId} (h : ids.contains k = false) : truePr ids pr (.func k) = pr (.func k) := by
  simp only [truePr, h]
  rfl
theorem truePr_yes {ids : List FuncId} {pr : Prims} {g : FuncId} (h : ids.contains g = true) : truePr ids pr (.func g) = some fun args H => if args.isEmpty = true then some (.bool true, H) else none := by
  simp only [truePr, h]
  rfl
theorem true_call {P : Program} {ids : List FuncId} {pr : Prims} {g : FuncId} (h : ids.contains g = true) {n : Nat} (hn : 0 < n) (H : Heap) : lvl P (truePr ids pr) n (.func g) [] H = some (.bool true, H) := by
  obtain ⟨m, rfl⟩ : ∃ m, n = m + 1 := ⟨n - 1, by omega⟩
  simp only [lvl, truePr_yes h]
  rfl
theorem word_call {P : Program} {pr : Prims} {g : FuncId} {p : List Value → Heap → Option (Value × Heap)} (h : pr (.func g) = some p) {n : Nat} (hn : 0 < n) (args : List Value) (H : Heap) : lvl P pr n (.func g) args H = p args H := by
  obtain ⟨m, rfl⟩ : ∃ m, n = m + 1 := ⟨n - 1, by omega⟩
  simp only [lvl, h]

theorem truePr_ok {P : Program} (hmix : P.follows .mixedOrders = true) {pr : Prims} (hpr : PrimsOk P pr) {ids : List FuncId} (h : ∀ g, ids.contains g = true → ∃ n, (lvl P pr n (.func g) [] []).map (·.1) = some (.bool true)) : PrimsOk P (truePr ids pr) := by
  constructor
  · intro f p hf args H v H' hp
    cases f with
    | func g =>
      by_cases hg : ids.contains g = true
      · rw [truePr_yes hg] at hf
        cases hf
        simp only at hp
        split at hp
        · cases hp; exact Nat.le_refl _
        · cases hp
      · rw [truePr_old (by simpa using hg)] at hf
        exact hpr.mono _ _ hf _ _ _ _ hp
    | _ => cases hf
  · intro f p hf args H v H' hp ρ w args' hr ha hfree
    cases f with
    | func g =>
      by_cases hg : ids.contains g = true
      · rw [truePr_yes hg] at hf
        cases hf
        simp only at hp
        split at hp
        · rename_i hnil
          cases hp
          have hargs : args = [] := by simpa using hnil
          subst hargs
          have := ha.nil_left
          subst this
          obtain ⟨n, hn⟩ := h g hg
          obtain ⟨r, hr1, hr2⟩ := Option.map_eq_some_iff.mp hn
          have hc := lvl_sound hpr hmix n (.func g) [] [] r.1 r.2 (by rw [hr1]) (fun _ => none) w [] (rel_nil P w) (Vrs.nil _) (fun _ _ _ => rfl)
          refine ⟨hc.1, hc.2.mono ?_⟩
          intro e w' ⟨v', he, ρ', hv, hs⟩
          rw [hr2] at hv
          refine ⟨v', he, ρ, ?_, Step.quiet hr hs.size (fun c hc => hs.frame c hc fun b pl hb => (by cases hb)) hs.os hs.tape hs.output⟩
          cases hv with
          | same _ => exact .same rfl
        · cases hp
      · rw [truePr_old (by simpa using hg)] at hf
        exact hpr.sound _ _ hf _ _ _ _ hp _ _ _ hr ha hfree
    | _ => cases hf
end Go.Abs
