/-
  FROM A RECKONED CALL TO A ROW: what a call at a level answers, the program's call answers, and of the world nothing turns.
-/
import Derived.Test.YtdobnaldfmpimaaAbsSound
import Derived.ProofKit
import Derived.RowKit
import Derived.RowKit3
import Derived.ChangeSame
set_option linter.unusedSimpArgs false
set_option linter.unusedVariables false
namespace Go.Abs
open Go.ChangeShapes Go.WideShapes

/-- the world is as it was, with blocks behind it -/
structure Kept (w w' : World) : Prop where
  size : w.heap.size ≤ w'.heap.size
  same : ∀ c : Nat, c < w.heap.size → w'.heap[c]? = w.heap[c]?
  os : w'.os = w.os
  output : w'.output = w.output

theorem Kept.but {w w' : World} (h : Kept w w') (may : MemPlace → Prop) : w.keptBut w' may := by
  refine ⟨h.os, h.output, fun i hi => ?_⟩
  rw [h.same i hi]
  cases hb : w.heap[i]? with
  | none => trivial
  | some x => cases x with
    | cells c t fr => exact ⟨rfl, rfl, rfl, fun _ _ => rfl⟩
    | map es clock => exact .inr ⟨rfl, rfl⟩
    | _ => rfl

theorem Kept.frozen {w w' : World} (h : Kept w w') (a : Addr) (ha : a.block < w.heap.size) : w'.frozen? a = w.frozen? a := by
  simp only [World.frozen?, h.same a.block ha]

theorem Kept.of_step {P : Program} {ρ ρ' : Ren} {H H' : Heap} {w w' : World} (h : Step P ρ H w ρ' H' w') (hw : ∀ b pl, ρ b = some pl → wr H[b]? = false) : Kept w w' :=
  ⟨h.size, fun c hc => h.frame c hc fun b pl hb hwr => (by rw [hw b pl hb] at hwr; exact absurd hwr (by decide)), h.os, h.output⟩

/-- nothing is known ahead of the call -/
theorem rel_nil (P : Program) (w : World) : Rel P (fun _ => none) (getH []) w :=
  ⟨fun b p h => (by cases h), fun b p x h => (by cases h), fun b1 b2 p1 p2 _ h => (by cases h)⟩

theorem call_flat {P : Program} {pr : Prims} (hp : PrimsOk P pr) (hmix : P.follows .mixedOrders = true) {n : Nat} {f : FuncId} {args : List Value} {b : Bool} {H' : Heap}
    (h : lvl P pr n (.func f) args [] = some (.bool b, H')) (ha : Vrs (fun _ => none) args args) (w : World) :
    Calls P f args.toArray w fun e w' => e = .returned (.bool b) ∧ Kept w w' := by
  refine (lvl_sound hp hmix n (.func f) args [] _ _ h (fun _ => none) w args (rel_nil P w) ha (fun _ _ _ => rfl)).2.mono ?_
  intro e w' ⟨v, he, ρ', hv, hs⟩
  have hvb : v = .bool b := by cases hv with | same _ => rfl
  subst hvb
  exact ⟨he, Kept.of_step hs (fun b pl h => (by cases h))⟩

theorem vrs_int {ρ : Ren} (k : IntKind) (n : Int) {xs ys : List Value} (h : Vrs ρ xs ys) : Vrs ρ (.int k n :: xs) (.int k n :: ys) := Vrs.cons (.same rfl) h
theorem vrs_bool {ρ : Ren} (b : Bool) {xs ys : List Value} (h : Vrs ρ xs ys) : Vrs ρ (.bool b :: xs) (.bool b :: ys) := Vrs.cons (.same rfl) h

/-- the ending of a row whose call answers and turns nothing -/
theorem post_of_kept {H : Type} {enc : TypeId × Value → H} {P : Program} {f : Func} {s : ChangeSpec} {apart fresh handsOn again : Bool} {W W' : World} {args : Array Value} {v : Value} {ds gs : List (DataW H)} {before pa pv : List MemPlace}
    (hW : DataW.Whole enc P f.params.toList s.vars apart W args.toList ds gs before)
    (hres : ∀ (b : Nat) (sp : Nat → Bool) (hd : Bool), DataW.TrodAll enc P W' b sp hd f.resultTypes.toList (v.resultList f.resultTypes.size) (s.fn H (ds ++ gs)).results [])
    (hargs : ∀ sp : Nat → Bool, (∀ p ∈ before, sp p.block = true) → DataW.TrodAll enc P W' 0 sp true f.params.toList args.toList (s.fn H (ds ++ gs)).args pa)
    (hvars : ∀ sp : Nat → Bool, (∀ p ∈ before, sp p.block = true) → DataW.TrodVars enc P W' sp s.vars (s.fn H (ds ++ gs)).vars pv)
    (hps : before = pa ++ pv) (hk : Kept W W')
    (hok : ∀ (j : Nat) (t : TypeId) (r : Value), f.resultTypes[j]? = some t → (v.resultList f.resultTypes.size)[j]? = some r → Value.okWide P W' .any 0 t r) :
    s.post enc P f apart fresh handsOn again W args v W' := by
  have hlt : ∀ p ∈ before, p.block < W.heap.size := fun p hp => hW.lt p hp
  have hin : ∀ p ∈ before, p ∈ pa ∨ p ∈ pv := fun p hp => by rw [hps] at hp; exact List.mem_append.mp hp
  have hcov : ∀ p ∈ before, (fun b => decide (b < W.heap.size)) p.block = true := fun p hp => by simpa using hlt p hp
  obtain ⟨_, _, _, _, _, hz, hnd⟩ := id hW
  refine ⟨ds, gs, before, [], pa, pv, hW, hres _ _ _, hargs _ hcov, hvars _ hcov, hk.but _, fun _ => ⟨hok, (s.fn H (ds ++ gs)).results ++ (s.fn H (ds ++ gs)).args, (s.fn H (ds ++ gs)).vars, pa ++ pv, ?_, ?_⟩⟩
  · refine ⟨pa, pv, ?_, hvars _ (fun _ _ => rfl), rfl, ?_, ?_⟩
    · exact trodAll_append (p' := pa) (p := []) (hargs _ (fun _ _ => rfl)) (hres _ _ _)
    · intro b off hb
      rw [← hps] at hb
      rw [hk.frozen _ (hlt _ hb)]
      exact hz b off hb
    · intro ha
      rw [← hps]
      exact hnd ha
  · intro p hp _
    rw [hps]
    exact hp

/-! ### calls of no argument that answer true: taken as words -/

theorem Step.quiet {P : Program} {ρ : Ren} {H : Heap} {w w' : World} (hr : Rel P ρ (getH H) w) (hs : w.heap.size ≤ w'.heap.size) (same : ∀ c : Nat, c < w.heap.size → w'.heap[c]? = w.heap[c]?)
    (hos : w'.os = w.os) (htape : w'.tape = w.tape) (hout : w'.output = w.output) : Step P ρ H w ρ H w' :=
  ⟨⟨fun b p h => Nat.lt_of_lt_of_le (hr.lt b p h) hs, fun b pl x h1 h2 => (by rw [same pl.c (hr.lt b pl h1)]; exact hr.blk b pl x h1 h2), hr.sep⟩, Ren.le_refl ρ, fun b h => .inl h, Nat.le_refl _, fun b h1 h2 => absurd h1 (by omega),
    hs, fun c hc _ => same c hc, fun _ _ _ => rfl, fun _ h => h, fun _ _ h => h, fun b pl h h' => (by rw [h] at h'; cases h'), hos, htape, hout⟩

def flatPr (ids : List FuncId) : Prims := fun f => match f with
  | .func g => if ids.contains g = true then some fun args H => if args.isEmpty = true then some (.bool true, H) else none else none
  | _ => none

theorem flatPr_no {ids : List FuncId} {g : FuncId} (h : ids.contains g = false) : flatPr ids (.func g) = none := by
  simp only [flatPr, h]
  rfl
theorem flatPr_yes {ids : List FuncId} {g : FuncId} (h : ids.contains g = true) : flatPr ids (.func g) = some fun args H => if args.isEmpty = true then some (.bool true, H) else none := by
  simp only [flatPr, h]
  rfl
theorem flat_call {P : Program} {ids : List FuncId} {g : FuncId} (h : ids.contains g = true) {n : Nat} (hn : 0 < n) (H : Heap) : lvl P (flatPr ids) n (.func g) [] H = some (.bool true, H) := by
  obtain ⟨m, rfl⟩ : ∃ m, n = m + 1 := ⟨n - 1, by omega⟩
  simp only [lvl, flatPr_yes h]
  rfl

theorem flatPr_ok {P : Program} (hmix : P.follows .mixedOrders = true) {ids : List FuncId} (h : ∀ g, ids.contains g = true → ∃ n, (lvl P (fun _ => none) n (.func g) [] []).map (·.1) = some (.bool true)) : PrimsOk P (flatPr ids) := by
  constructor
  · intro f p hf args H v H' hp
    cases f with
    | func g =>
      by_cases hg : ids.contains g = true
      · rw [flatPr_yes hg] at hf
        cases hf
        simp only at hp
        split at hp
        · cases hp; exact Nat.le_refl _
        · cases hp
      · rw [flatPr_no (by simpa using hg)] at hf
        cases hf
    | _ => cases hf
  · intro f p hf args H v H' hp ρ w args' hr ha _
    cases f with
    | func g =>
      by_cases hg : ids.contains g = true
      · rw [flatPr_yes hg] at hf
        cases hf
        simp only at hp
        split at hp
        · rename_i hnil
          cases hp
          have hargs : args = [] := by simpa using hnil
          subst hargs
          have := ha.nil_left
          subst this
          obtain ⟨n, hn⟩ := h g hg
          obtain ⟨r, hr1, hr2⟩ := Option.map_eq_some_iff.mp hn
          have hc := lvl_sound (noPrims (P := P)) hmix n (.func g) [] [] r.1 r.2 (by rw [hr1]) (fun _ => none) w [] (rel_nil P w) (Vrs.nil _) (fun _ _ _ => rfl)
          refine ⟨hc.1, hc.2.mono ?_⟩
          intro e w' ⟨v', he, ρ', hv, hs⟩
          rw [hr2] at hv
          refine ⟨v', he, ρ, ?_, Step.quiet hr hs.size (fun c hc => hs.frame c hc fun b pl hb => (by cases hb)) hs.os hs.tape hs.output⟩
          cases hv with
          | same _ => exact .same rfl
        · cases hp
      · rw [flatPr_no (by simpa using hg)] at hf
        cases hf
    | _ => cases hf
end Go.Abs
