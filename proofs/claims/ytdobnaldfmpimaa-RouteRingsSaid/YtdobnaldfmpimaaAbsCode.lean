/-
  CODE IS SOUND: operations in the text's order, tests, loops, calls, levels.
-/
import Derived.Test.YtdobnaldfmpimaaAbsMono
set_option linter.unusedSimpArgs false
set_option linter.unusedVariables false
namespace Go.Abs

section
variable {P : Program} {ρ : Ren} {H H' : Heap} {w : World}

/-- slots that an operation looks at -/
def Looked (ρ : Ren) (t : List Value) (a : Act) (ss : List Tmp) : Prop := ∀ s ∈ ss, Vr ρ (t.getD s undef) (a.tmps.getD s undef)

theorem Looked.of {t : List Value} {a : Act} (h : Vrs ρ t a.tmps.toList) (ss : List Tmp) : Looked ρ t a ss := by
  intro s _
  rw [List.getD_eq_getElem?_getD, Array.getD_eq_getD_getElem?]
  cases ht : t[s]? with
  | none =>
    have : a.tmps[s]? = none := by
      rw [Array.getElem?_eq_none_iff]
      have := List.getElem?_eq_none_iff.1 ht
      have h1 := h.1
      simp at h1; omega
    rw [this]; exact .undef ρ
  | some v =>
    obtain ⟨v', h1, h2⟩ := h.get ht
    rw [Array.getElem?_toList] at h1
    rw [h1]; exact h2

theorem opnds_of_looked {ops : List Oper} {o : Oper} {t : List Value} {a : Act} (h : Looked ρ t a (looks ops o)) : Opnds ρ t a o.op.operands.toList := by
  intro x hx v hv
  cases x with
  | tmp s =>
    simp only [opv, Option.some.injEq] at hv
    subst hv
    exact h s (by simp only [looks, List.mem_append, List.mem_filterMap]; left; exact ⟨.tmp s, hx, rfl⟩)
  | const c =>
    simp only [opv] at hv
    split at hv
    · injection hv with hv; subst hv; rename_i hl; exact .of_lit hl
    · cases hv
  | global g => simp [opv] at hv
  | func f =>
    simp only [opv, Option.some.injEq] at hv
    subst hv
    exact .func rfl rfl (fun i u v h => by simp at h) (fun i u v h => by simp at h)

theorem bool_inv {v v' : Value} (h : Vr ρ v v') : (∀ b, v = .bool b → v' = .bool b) ∧ (∀ b, v' = .bool b → v = .bool b) := by
  constructor
  · rintro b rfl; exact h.eq_of_flat rfl
  · rintro b rfl
    cases h with
    | same _ => rfl

/-- An operation of a region, as the model meets it. -/
theorem step_op {O : Oracle} (hO : OSound P O) {ops : Array Oper} {t : List Value} {o : Oper} {a : Act} {r : Value} (hr : Rel P ρ (getH H) w) (hl : Looked ρ t a (looks ops.toList o))
    (hf : ∀ b, H.length ≤ b → b < H'.length → ρ b = none) (h : step P O ops.toList t o H = some (r, H')) {K : Act → World → Prop} {Q : Exit → Act → World → Prop}
    (hK : ∀ v w', Post P ρ H w r H' v w' → K (a.put o.dst v) w') :
    if Region.wanted o (yielded ops a.tmps) then o.wp P a w K Q ∨ (o.asks P a w ∧ LetsOut Q) else K (a.put o.dst undef) w := by
  have main : aOp P O t o H = some (r, H') → o.wp P a w K Q := fun h =>
    (aOp_sound hO hr (opnds_of_looked hl) hf h).wp hK
  unfold step at h
  cases hg : o.guard with
  | none =>
    rw [hg] at h
    simp only at h
    simp only [Region.wanted, hg, if_true]
    exact .inl (main h)
  | some g =>
    obtain ⟨j, want⟩ := g
    rw [hg] at h
    simp only at h
    have undef_case : step P O ops.toList t o H = some (undef, H) → r = undef → H' = H → K (a.put o.dst undef) w := by
      rintro _ rfl rfl
      exact hK _ _ ⟨ρ, .undef ρ, Step.refl hr⟩
    cases hd : dstOf ops.toList j with
    | none =>
      rw [hd] at h
      simp only [M.ret] at h
      injection h with h; injection h with h1 h2
      have hy : yielded ops a.tmps j = none := by
        unfold dstOf at hd
        unfold yielded
        rw [arr_get, hd]; rfl
      have : Region.wanted o (yielded ops a.tmps) = false := by simp [Region.wanted, hg, hy]
      rw [this]
      simp only [Bool.false_eq_true, if_false]
      exact hK _ _ (by rw [← h1, ← h2]; exact ⟨ρ, .undef ρ, Step.refl hr⟩)
    | some d =>
      rw [hd] at h
      simp only at h
      have hv := hl d (by simp only [looks, hg, hd, List.mem_append]; right; simp)
      have hyield : yielded ops a.tmps j = match a.tmps[d]? with | some (.bool b) => some b | _ => none := by
        unfold dstOf at hd
        unfold yielded
        rw [arr_get ops j, hd]; rfl
      rw [Array.getD_eq_getD_getElem?] at hv
      generalize ht : t.getD d undef = x at h hv
      unfold gd at h
      split at h
      · rename_i b
        have hb : a.tmps[d]? = some (.bool b) := by
          cases ha : a.tmps[d]? with
          | none => rw [ha] at hv; have := (bool_inv hv).1 b rfl; cases this
          | some y => rw [ha] at hv; have := (bool_inv hv).1 b rfl; simp at this; rw [this]
        rw [hb] at hyield
        simp only at hyield
        split at h
        · rename_i hbw
          have : Region.wanted o (yielded ops a.tmps) = true := by simp [Region.wanted, hg, hyield, hbw]
          rw [this]; simp only [if_true]
          exact .inl (main h)
        · rename_i hbw
          have : Region.wanted o (yielded ops a.tmps) = false := by
            simp only [Region.wanted, hg, hyield]; simpa using hbw
          rw [this]; simp only [Bool.false_eq_true, if_false]
          injection h with h; injection h with h1 h2
          exact hK _ _ (by rw [← h1, ← h2]; exact ⟨ρ, .undef ρ, Step.refl hr⟩)
      · rename_i hnb
        have hyn : yielded ops a.tmps j = none := by
          rw [hyield]
          cases ha : a.tmps[d]? with
          | none => rfl
          | some y =>
            cases y <;> try rfl
            rename_i b
            rw [ha] at hv
            have := (bool_inv hv).2 b rfl
            exact absurd this (hnb b)
        have : Region.wanted o (yielded ops a.tmps) = false := by simp [Region.wanted, hg, hyn]
        rw [this]; simp only [Bool.false_eq_true, if_false]
        injection h with h; injection h with h1 h2
        exact hK _ _ (by rw [← h1, ← h2]; exact ⟨ρ, .undef ρ, Step.refl hr⟩)

theorem Vrs.put {ρ' : Ren} {t : List Value} {a : Act} {v v' : Value} (h : Vrs ρ' t a.tmps.toList) (hv : Vr ρ' v v') (d : Option Tmp) : Vrs ρ' (putT t d v) (a.put d v').tmps.toList := by
  cases d with
  | none => exact h
  | some d => simp only [putT, Act.put, Array.toList_setIfInBounds]; exact h.set hv d

theorem put_defers (a : Act) (d : Option Tmp) (v : Value) : (a.put d v).defers = a.defers := by cases d <;> rfl

/-- the continuation is met by what it is given -/
def KGood (P : Program) (ρ : Ren) (H : Heap) (w : World) (r : Value × Heap) (k : K (Value × Heap)) (Q : Act → World → Prop) : Prop :=
  ∀ ρ' t' H' w' a', k t' H' = some r → Step P ρ H w ρ' H' w' → Vrs ρ' t' a'.tmps.toList → a'.defers = [] → Q a' w'

theorem KGood.step {ρ' : Ren} {w' : World} {r : Value × Heap} {k : K (Value × Heap)} {Q : Act → World → Prop} (h : KGood P ρ H w r k Q) (hs : Step P ρ H w ρ' H' w') : KGood P ρ' H' w' r k Q :=
  fun ρ'' t' H'' w'' a' hk hs' hv hd => h ρ'' t' H'' w'' a' hk (hs.trans hs') hv hd

def Free (ρ : Ren) (H : Heap) (r : Value × Heap) : Prop := ∀ b, H.length ≤ b → b < r.2.length → ρ b = none

theorem Free.step {ρ' : Ren} {w' : World} {r : Value × Heap} (h : Free ρ H r) (hs : Step P ρ H w ρ' H' w') : Free ρ' H' r := by
  intro b h1 h2
  cases hb : ρ' b with
  | none => rfl
  | some pl =>
    rcases hs.new b (by rw [hb]; simp) with h3 | ⟨h3, h4⟩
    · exact absurd (h b (Nat.le_trans hs.len h1) h2) h3
    · omega

theorem runOps_sound {O : Oracle} (hO : OSound P O) (hM : MonoO O) (ops : Array Oper) {r : Value × Heap} {k : K (Value × Heap)} (hk : MonoK k r) {Q : Exit → Act → World → Prop} :
    ∀ (l : List Oper) (i : Nat) (ρ : Ren) (t : List Value) (H : Heap) (w : World) (a : Act), ops.toList.drop i = l → runOps P O ops.toList l k t H = some r → Rel P ρ (getH H) w → Vrs ρ t a.tmps.toList → a.defers = [] → Free ρ H r →
      KGood P ρ H w r k (Q .normal) → wpOps P ops Q (List.range' i l.length) a w
  | [], i, ρ, t, H, w, a, _, h, hr, ht, hd, _, hq => hq ρ t H w a h (Step.refl hr) ht hd
  | o :: l, i, ρ, t, H, w, a, hi, h, hr, ht, hd, hf, hq => by
    have ho : ops[i]? = some o := by
      rw [arr_get]
      have := congrArg (fun l : List Oper => l[0]?) hi
      simpa using this
    have hi' : ops.toList.drop (i + 1) = l := by
      have := congrArg List.tail hi
      simpa using this
    simp only [runOps] at h
    split at h
    · cases h
    · rename_i x hx
      have hlen := mono_runOps P hM ops.toList l k hk _ _ h
      simp only [List.length_cons, List.range'_succ, wpOps, ho]
      refine step_op hO hr (Looked.of ht _) (fun b h1 h2 => hf b h1 (by omega)) hx fun v w' ⟨ρ', hv, hs⟩ => ?_
      refine runOps_sound hO hM ops hk l (i + 1) ρ' _ _ w' _ hi' h hs.rel ((ht.mono hs.le).put hv o.dst) (by rw [put_defers]; exact hd) (hf.step hs) (hq.step hs)

end
end Go.Abs
