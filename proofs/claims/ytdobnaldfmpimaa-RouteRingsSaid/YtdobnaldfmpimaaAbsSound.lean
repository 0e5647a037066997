/-
  THE ABSTRACT INTERPRETER IS SOUND.
-/
import Derived.Test.YtdobnaldfmpimaaAbsDraw
import Derived.Test.YtdobnaldfmpimaaAbsLvl
import Derived.Scope
set_option linter.unusedSimpArgs false
set_option linter.unusedVariables false
namespace Go.Abs

section
variable {P : Program} {ρ : Ren} {H H' : Heap} {w : World}

theorem Rel.congr {G : Nat → Option Blk} {w' : World} (h : Rel P ρ G w) (e : w'.heap = w.heap) : Rel P ρ G w' :=
  ⟨fun b pl hb => by rw [e]; exact h.lt b pl hb, fun b pl x hb hx => by rw [e]; exact h.blk b pl x hb hx, h.sep⟩

theorem Step.congr {ρ' : Ren} {w1 w' : World} (h : Step P ρ H w1 ρ' H' w') (e : w1.heap = w.heap) (e1 : w1.os = w.os) (e2 : w1.tape = w.tape) (e3 : w1.output = w.output) : Step P ρ H w ρ' H' w' :=
  ⟨h.rel, h.le, h.new, h.len, h.free, by rw [← e]; exact h.size, by rw [← e]; exact h.frame, h.un, h.dead, h.kd, by rw [← e]; exact h.fresh, by rw [← e1]; exact h.os, by rw [← e2]; exact h.tape, by rw [← e3]; exact h.output⟩

def exOf : Ex → Exit
  | .normal => .normal
  | .exit id => .exit id
  | .ret => .ret

def EGood (P : Program) (ρ : Ren) (H : Heap) (w : World) (r : Value × Heap) (k : Ex → K (Value × Heap)) (Q : Exit → Act → World → Prop) : Prop :=
  ∀ e, KGood P ρ H w r (k e) (Q (exOf e))

theorem EGood.step {ρ' : Ren} {w' : World} {r : Value × Heap} {k : Ex → K (Value × Heap)} {Q : Exit → Act → World → Prop} (h : EGood P ρ H w r k Q) (hs : Step P ρ H w ρ' H' w') : EGood P ρ' H' w' r k Q :=
  fun e => (h e).step hs

/-- a piece of code that is sound -/
def Sound (P : Program) (c : Code) (B : (Ex → K (Value × Heap)) → K (Value × Heap)) (r : Value × Heap) : Prop :=
  ∀ (k : Ex → K (Value × Heap)), MonoE k r → ∀ (Q : Exit → Act → World → Prop) (ρ : Ren) (t : List Value) (H : Heap) (w : World) (a : Act), B k t H = some r → Rel P ρ (getH H) w → Vrs ρ t a.tmps.toList → a.defers = [] → Free ρ H r →
    EGood P ρ H w r k Q → c.wp P Q a w

theorem loop_sound {c : Code} {B : (Ex → K (Value × Heap)) → K (Value × Heap)} {r : Value × Heap} (hB : Sound P c B r) (hBm : ∀ k, MonoE k r → MonoK (B k) r) : ∀ (n : Nat) (k : Ex → K (Value × Heap)), MonoE k r → ∀ (Q : Exit → Act → World → Prop) (ρ : Ren) (t : List Value) (H : Heap) (w : World) (a : Act),
    loopN n B k t H = some r → Rel P ρ (getH H) w → Vrs ρ t a.tmps.toList → a.defers = [] → Free ρ H r → EGood P ρ H w r k Q → Code.rounds P c Q n a w
  | 0, k, hk, Q, ρ, t, H, w, a, h, _, _, _, _, _ => by cases h
  | n + 1, k, hk, Q, ρ, t, H, w, a, h, hr, ht, hd, hf, hq => by
    rw [rounds_succ]
    refine hB _ ?_ _ ρ t H w a h hr ht hd hf fun e => ?_
    · intro e
      cases e with
      | normal => exact mono_loopN hBm n k hk
      | exit id => exact hk _
      | ret => exact hk _
    · cases e with
      | normal => exact fun ρ' t' H' w' a' h' hs hv hd' => loop_sound hB hBm n k hk Q ρ' t' H' w' a' h' hs.rel hv hd' (hf.step hs) (hq.step hs)
      | exit id => exact hq (.exit id)
      | ret => exact hq .ret

theorem runCode_sound {O : Oracle} (hO : OSound P O) (hM : MonoO O) (hmix : P.follows .mixedOrders = true) (n : Nat) {r : Value × Heap} : ∀ c : Code, Sound P c (runCode P O (loopN n) c) r := by
  intro c
  induction c with
  | skip => exact fun k hk Q ρ t H w a h hr ht hd hf hq => wp_skip (hq .normal ρ t H w a h (Step.refl hr) ht hd)
  | ret => exact fun k hk Q ρ t H w a h hr ht hd hf hq => wp_ret (hq .ret ρ t H w a h (Step.refl hr) ht hd)
  | exit id => exact fun k hk Q ρ t H w a h hr ht hd hf hq => wp_exit (hq (.exit id) ρ t H w a h (Step.refl hr) ht hd)
  | region id ops draw =>
    intro k hk Q ρ t H w a h hr ht hd hf hq
    simp only [runCode] at h
    cases draw with
    | true =>
      simp only [if_true] at h
      split at h
      · rename_i hok
        refine wp_region_any hmix ?_
        refine draw_sound hO hM ops (hk .normal) hok h (hr.congr rfl) ht hd hf ?_
        exact fun ρ' t' H' w' a' h' hs hv hd' => hq .normal ρ' t' H' w' a' h' (hs.congr rfl rfl rfl rfl) hv hd'
      · cases h
    | false =>
      simp only [Bool.false_eq_true, if_false] at h
      refine wp_region ?_
      have := runOps_sound hO hM ops (hk .normal) (Q := Q) ops.toList 0 ρ t H w a rfl h hr ht hd hf (hq .normal)
      rwa [Array.length_toList, ← List.range_eq_range'] at this
  | seq x y ihx ihy =>
    intro k hk Q ρ t H w a h hr ht hd hf hq
    simp only [runCode] at h
    refine wp_seq (ihx _ ?_ _ ρ t H w a h hr ht hd hf fun e => ?_)
    · intro e
      cases e with
      | normal => exact mono_runCode P hM n y k hk
      | exit id => exact hk _
      | ret => exact hk _
    · cases e with
      | normal => exact fun ρ' t' H' w' a' h' hs hv hd' => ihy k hk Q ρ' t' H' w' a' h' hs.rel hv hd' (hf.step hs) (hq.step hs)
      | exit id => exact hq (.exit id)
      | ret => exact hq .ret
  | cond c x y ihx ihy =>
    intro k hk Q ρ t H w a h hr ht hd hf hq
    simp only [runCode] at h
    split at h
    · rename_i b hb
      have hev : a.eval c = .bool b := by
        have := opnds_of_looked (ops := []) (o := ⟨none, .move c, 0, "", #[], none⟩) (Looked.of ht _)
        have h1 := this c (by simp [Op.operands]) _ hb
        exact (bool_inv h1).1 b rfl
      cases b with
      | true => exact wp_cond_true hev (ihx k hk Q ρ t H w a h hr ht hd hf hq)
      | false => exact wp_cond_false hev (ihy k hk Q ρ t H w a h hr ht hd hf hq)
    · cases h
  | block id c ih =>
    intro k hk Q ρ t H w a h hr ht hd hf hq
    simp only [runCode] at h
    refine wp_block (ih _ ?_ _ ρ t H w a h hr ht hd hf fun e => ?_)
    · intro e
      cases e with
      | normal => exact hk _
      | exit j => simp only; split <;> exact hk _
      | ret => exact hk _
    · cases e with
      | normal => exact hq .normal
      | exit j =>
        by_cases hj : j = id
        · have e : Exit.inBlock id Q (.exit j) = Q .normal := by funext a w; simp [Exit.inBlock, hj]
          simp only [hj, if_true]
          rw [hj] at e
          show KGood P ρ H w r (k .normal) (Exit.inBlock id Q (.exit id))
          rw [e]; exact hq .normal
        · have e : Exit.inBlock id Q (.exit j) = Q (.exit j) := by funext a w; simp [Exit.inBlock, hj]
          simp only [hj, if_false]
          show KGood P ρ H w r (k (.exit j)) (Exit.inBlock id Q (.exit j))
          rw [e]; exact hq (.exit j)
      | ret => exact hq .ret
  | loop c ih =>
    intro k hk Q ρ t H w a h hr ht hd hf hq
    simp only [runCode] at h
    exact wp_loop_rounds n (loop_sound ih (fun k hk => mono_runCode P hM n c k hk) n k hk Q ρ t H w a h hr ht hd hf hq)
  | scope c ih =>
    intro k hk Q ρ t H w a h hr ht hd hf hq
    simp only [runCode] at h
    refine wp_scope_straight (ih k hk (Exit.noGoto Q) ρ t H w a h hr ht hd hf fun e => ?_)
    cases e with
    | normal => exact hq .normal
    | exit id => exact hq (.exit id)
    | ret => exact hq .ret
  | label l => exact fun k hk Q ρ t H w a h hr ht hd hf hq => wp_label (hq .normal ρ t H w a h (Step.refl hr) ht hd)
  | _ => intro k hk Q ρ t H w a h; simp only [runCode] at h; cases h

/-! ### calls -/

def resF (tmps : Array Value) : ResultVar → Sem Value
  | .tmp t => pure (tmps.getD t undef)
  | .cell x t => do loadVar t (← asAddr (tmps.getD x undef))

theorem results_eq (fn : Func) (tmps : Array Value) : results fn tmps = (do let vs ← fn.results.mapM (resF tmps); pure (if h : vs.size = 1 then vs[0] else .tuple vs)) := rfl

theorem resV_sound (hr : Rel P ρ (getH H) w) {t : List Value} {a : Act} (ht : Vrs ρ t a.tmps.toList) : ∀ (l : List ResultVar) (vs : List Value), resV P t H l = some vs →
    ∃ vs', (l.mapM (resF a.tmps)).run P w = .ok vs' w ∧ Vrs ρ vs vs'
  | [], vs, h => by simp [resV] at h; subst h; exact ⟨[], by simp, .nil ρ⟩
  | .tmp i :: l, vs, h => by
    simp only [resV] at h
    cases hl : resV P t H l with
    | none => simp [hl] at h
    | some vs1 =>
      simp [hl] at h; subst h
      obtain ⟨vs', h1, h2⟩ := resV_sound hr ht l vs1 hl
      have hi := Looked.of ht [i] i (by simp)
      refine ⟨a.tmps.getD i undef :: vs', ?_, .cons (by rw [List.getD_eq_getElem?_getD] at hi; exact hi) h2⟩
      simp only [List.mapM_cons, resF, Sem.run_bind, Sem.run_pure, Result.andThen_ok, h1]
  | .cell x ty :: l, vs, h => by
    simp only [resV] at h
    split at h
    · rename_i sz by' g hs hg
      split at h
      · rename_i y hy
        cases hl : resV P t H l with
        | none => simp [hl] at h
        | some vs1 =>
          simp [hl] at h; subst h
          obtain ⟨vs', h1, h2⟩ := resV_sound hr ht l vs1 hl
          have hi := Looked.of ht [x] x (by simp)
          obtain ⟨_, ad, v', e0, e1, e2⟩ := load_sound (H' := y.2) (v := y.1) hr hs hg hi hy
          refine ⟨v' :: vs', ?_, .cons e2 h2⟩
          have hA : (asAddr (.pointer (some ad))).run P w = .ok ad w := rfl
          simp only [List.mapM_cons, resF, Sem.run_bind, e0, hA, Sem.run_pure, Result.andThen_ok, e1, h1]
      · cases h
    · cases h

theorem results_sound (hr : Rel P ρ (getH H) w) {t : List Value} {a : Act} (ht : Vrs ρ t a.tmps.toList) {fn : Func} {vs : List Value} (h : resV P t H fn.results.toList = some vs) :
    ∃ v', (results fn a.tmps).run P w = .ok v' w ∧ Vr ρ (oneOf vs) v' := by
  obtain ⟨vs', h1, h2⟩ := resV_sound hr ht _ vs h
  refine ⟨oneOf vs', ?_, ?_⟩
  · rw [results_eq, Array.mapM_eq_mapM_toList]
    simp only [Sem.run_bind, Sem.run_map, h1, Result.andThen_ok, Sem.run_pure]
    congr 1
    match vs' with
    | [] => rfl
    | [v] => rfl
    | x :: y :: l => simp [oneOf]
  · unfold oneOf
    split
    · rename_i v
      obtain ⟨v', vs'', rfl, hv, hn⟩ := h2.cons_left
      have := hn.nil_left; subst this
      exact hv
    · rename_i hne
      split
      · rename_i v'
        exfalso
        have := h2.1
        match vs, this with
        | [v], _ => exact hne v rfl
      · exact .tuple (by simpa using h2.1) (by simpa using h2.2)

/-- A function of the program, over an oracle, is sound. -/
theorem body_sound {O : Oracle} (hO : OSound P O) (hM : MonoO O) (hmix : P.follows .mixedOrders = true) (n : Nat) {f : FuncId} {args : List Value} {v : Value}
    (h : body P O (loopN n) f args H = some (v, H')) (hr : Rel P ρ (getH H) w) {args' : List Value} (ha : Vrs ρ args args') (hf : ∀ b, H.length ≤ b → b < H'.length → ρ b = none) :
    CallGood P (.func f) args'.toArray w (Post P ρ H w v H') := by
  unfold body at h
  split at h
  · rename_i fn hfn
    split at h
    · rename_i c hc
      split at h
      · rename_i hname
        have hfn' : P.funcs[f]? = some fn := by rw [arr_get]; exact hfn
        have hname' : ¬ fn.name = "runtime.NumGoroutine" := by simpa using hname
        refine ⟨by simp [callFunc, hfn', hname', hc], ?_⟩
        refine calls_of_wp hfn' hc ?_
        have hmono : MonoE (kRet P fn) (v, H') := by
          intro e t H1 h1
          by_cases hx : ∃ id, e = .exit id
          · obtain ⟨id, rfl⟩ := hx
            cases h1
          · rw [kRet_other P fn e (fun id he => hx ⟨id, he⟩)] at h1
            cases hv : resV P t H1 fn.results.toList with
            | none => simp [hv] at h1
            | some vs => simp [hv] at h1; rw [h1.2]; exact Nat.le_refl _
        have htm : Vrs ρ (args ++ List.replicate (fn.ntmps - args.length) undef) (args'.toArray ++ Array.replicate (fn.ntmps - args'.toArray.size) undef).toList := by
          have : args'.length = args.length := ha.1.symm
          simp only [Array.toList_append, Array.toList_replicate, List.size_toArray, this]
          refine ha.append ⟨rfl, fun i u v hu hv => ?_⟩
          rw [hu] at hv; injection hv with e; subst e
          have := List.eq_of_mem_replicate (List.mem_of_getElem? hu)
          subst this; exact .undef ρ
        refine runCode_sound hO hM hmix n c _ hmono _ ρ _ H w _ h hr htm rfl hf fun e => ?_
        have fin : ∀ ρ' t' H1 w' (a' : Act), ((resV P t' H1 fn.results.toList).map fun vs => (oneOf vs, H1)) = some (v, H') → Step P ρ H w ρ' H1 w' → Vrs ρ' t' a'.tmps.toList → a'.defers = [] →
            a'.defers = [] ∧ ∃ v', (results fn a'.tmps).run P w' = .ok v' w' ∧ ∃ v1, Ending.returned v' = .returned v1 ∧ Post P ρ H w v H' v1 w' := by
          intro ρ' t' H1 w' a' h1 hs hv hd
          cases hvs : resV P t' H1 fn.results.toList with
          | none => simp [hvs] at h1
          | some vs =>
            simp [hvs] at h1
            obtain ⟨rfl, rfl⟩ := h1
            obtain ⟨v', h2, h3⟩ := results_sound hs.rel hv hvs
            exact ⟨hd, v', h2, v', rfl, ρ', h3, hs⟩
        cases e with
        | exit id => exact fun ρ' t' H1 w' a' h1 => by cases h1
        | normal => exact fun ρ' t' H1 w' a' h1 hs hv hd => fin ρ' t' H1 w' a' (by rw [← kRet_other P fn .normal (by simp)]; exact h1) hs hv hd
        | ret => exact fun ρ' t' H1 w' a' h1 hs hv hd => fin ρ' t' H1 w' a' (by rw [← kRet_other P fn .ret (by simp)]; exact h1) hs hv hd
      · cases h
    · cases h
  · cases h

theorem mono_body {O : Oracle} (hM : MonoO O) (n : Nat) {f : FuncId} {args : List Value} {v : Value} (h : body P O (loopN n) f args H = some (v, H')) : H.length ≤ H'.length := by
  unfold body at h
  split at h
  · rename_i fn hfn
    split at h
    · split at h
      · refine mono_runCode P hM n _ _ (r := (v, H')) ?_ _ _ h
        intro e t H1 h1
        by_cases hx : ∃ id, e = .exit id
        · obtain ⟨id, rfl⟩ := hx
          cases h1
        · rw [kRet_other P _ e (fun id he => hx ⟨id, he⟩)] at h1
          cases hv : resV P t H1 fn.results.toList with
          | none => simp [hv] at h1
          | some vs => simp [hv] at h1; rw [h1.2]; exact Nat.le_refl _
      · cases h
    · cases h
  · cases h

/-- what is given beside the program's own functions is sound -/
structure PrimsOk (P : Program) (pr : Prims) : Prop where
  mono : ∀ f p, pr f = some p → ∀ args H v H', p args H = some (v, H') → H.length ≤ H'.length
  sound : ∀ f p, pr f = some p → ∀ args H v H', p args H = some (v, H') → ∀ ρ w args', Rel P ρ (getH H) w → Vrs ρ args args' → (∀ b, H.length ≤ b → b < H'.length → ρ b = none) →
    CallGood P f args'.toArray w (Post P ρ H w v H')

theorem mono_lvl {pr : Prims} (hp : PrimsOk P pr) : ∀ n, MonoO (lvl P pr n)
  | 0 => fun _ _ _ _ _ h => by cases h
  | n + 1 => fun f args H v H' h => by
    simp only [lvl] at h
    split at h
    · rename_i p hpf; exact hp.mono f p hpf args H v H' h
    · split at h
      · exact mono_body (mono_lvl hp n) n h
      · cases h

/-- EVERY LEVEL IS SOUND. -/
theorem lvl_sound {pr : Prims} (hp : PrimsOk P pr) (hmix : P.follows .mixedOrders = true) : ∀ n, OSound P (lvl P pr n)
  | 0 => fun _ _ _ _ _ h => by cases h
  | n + 1 => fun f args H v H' h ρ w args' hr ha hf => by
    simp only [lvl] at h
    split at h
    · rename_i p hpf; exact hp.sound f p hpf args H v H' h ρ w args' hr ha hf
    · split at h
      · exact body_sound (lvl_sound hp hmix n) (mono_lvl hp n) hmix n h hr ha hf
      · cases h

theorem noPrims : PrimsOk P (fun _ => none) := ⟨fun f p h => (by cases h), fun f p h => (by cases h)⟩

end
end Go.Abs
