/-
  EACH OPERATION IS SOUND: all of them together.
-/
import Derived.Test.YtdobnaldfmpimaaAbsOps4
set_option linter.unusedSimpArgs false
set_option linter.unusedVariables false
namespace Go.Abs

section
variable {P : Program} {ρ : Ren} {H H' : Heap} {w : World}

/-- a call that answers -/
def CallGood (P : Program) (fn : Fn) (args : Array Value) (w : World) (R : Value → World → Prop) : Prop :=
  match fn with
  | .func g => (callFunc g args).run P w = .ok (.enter g args) w ∧ Calls P g args w fun e w' => ∃ v, e = .returned v ∧ R v w'
  | _ => False

def OSound (P : Program) (O : Oracle) : Prop :=
  ∀ fn args H v H', O fn args H = some (v, H') → ∀ ρ w args', Rel P ρ (getH H) w → Vrs ρ args args' → (∀ b, H.length ≤ b → b < H'.length → ρ b = none) →
    CallGood P fn args'.toArray w (Post P ρ H w v H')

/-- an operation that answers -/
def OpGood (P : Program) (o : Oper) (a : Act) (w : World) (R : Value → World → Prop) : Prop :=
  (∃ v w', (execOp a.eval o).run P w = .ok (.value v) w' ∧ R v w') ∨
  (∃ w', (execOp a.eval o).run P w = .ok .skip w' ∧ R undef w') ∨
  (∃ f args, (execOp a.eval o).run P w = .ok (.enter f args) w ∧ Calls P f args w fun e w' => ∃ v, e = .returned v ∧ R v w')

theorem OpGood.wp {o : Oper} {a : Act} {R : Value → World → Prop} (h : OpGood P o a w R) {next : Act → World → Prop} {Q : Exit → Act → World → Prop}
    (hn : ∀ v w', R v w' → next (a.put o.dst v) w') : o.wp P a w next Q := by
  unfold Oper.wp
  rcases h with ⟨v, w', h, hr⟩ | ⟨w', h, hr⟩ | ⟨f, args, h, hr⟩
  · rw [h]; exact hn _ _ hr
  · rw [h]; exact hn _ _ hr
  · rw [h]
    exact hr.mono fun e w' ⟨v, he, hv⟩ => by subst he; exact hn _ _ hv

def Opnds (ρ : Ren) (t : List Value) (a : Act) (xs : List Operand) : Prop := ∀ x ∈ xs, ∀ v, opv t x = some v → Vr ρ v (a.eval x)

theorem ofOpt_some {x : Option Value} {r : Value} (h : M.ofOpt x H = some (r, H')) : x = some r ∧ H' = H := by
  cases x with
  | none => cases h
  | some v => simp only [M.ofOpt, M.ret] at h; injection h with h; injection h with h1 h2; exact ⟨by rw [h1], h2.symm⟩

theorem opvs_rel {t : List Value} {a : Act} : ∀ {xs : List Operand} {vs : List Value}, Opnds ρ t a xs → opvs t xs = some vs → Vrs ρ vs (xs.map a.eval)
  | [], vs, _, h => by simp [opvs] at h; subst h; exact .nil ρ
  | x :: xs, vs, ho, h => by
    simp only [opvs] at h
    split at h
    · rename_i v vs' h1 h2
      injection h with h; subst h
      exact .cons (ho x (by simp) v h1) (opvs_rel (fun y hy => ho y (by simp [hy])) h2)
    · cases h

theorem pairs_rel {t : List Value} {a : Act} : ∀ {xs : List (Nat × Operand)} {vs : List (Nat × Value)}, Opnds ρ t a (xs.map (·.2)) → pairs t xs = some vs → Parts ρ vs (xs.map fun (i, x) => (i, a.eval x))
  | [], vs, _, h => by simp [pairs] at h; subst h; exact ⟨rfl, .nil ρ⟩
  | (i, x) :: xs, vs, ho, h => by
    simp only [pairs] at h
    split at h
    · rename_i v vs' h1 h2
      injection h with h; subst h
      have ih := pairs_rel (fun y hy => ho y (by simp at hy ⊢; exact .inr hy)) h2
      exact ⟨by simp [ih.1], by simpa using Vrs.cons (ho x (by simp) v h1) ih.2⟩
    · cases h

theorem opvO_rel {t : List Value} {a : Act} {x : Option Operand} {v : Option Value} (ho : Opnds ρ t a x.toList) (h : opvO t x = some v) : Vro ρ v (x.map a.eval) := by
  cases x with
  | none => simp [opvO] at h; subst h; trivial
  | some x =>
    simp only [opvO] at h
    cases hv : opv t x with
    | none => simp [hv] at h
    | some u => simp [hv] at h; subst h; exact ho x (by simp) u hv

theorem zeroL_some {e : TypeId} {z : Value} (h : zeroL P e = some z) : zeroT P e = some z ∧ z.cells.toList.all litCell = true := by
  unfold zeroL at h
  split at h
  · split at h
    · injection h with h; subst h; rename_i h1 h2; exact ⟨h1, h2⟩
    · cases h
  · cases h

theorem Vr.of_cells {z : Value} (h : z.cells.toList.all litCell = true) : Vr ρ z z := by
  cases z with
  | agg cs => exact .of_lit h
  | _ => exact .same (by simpa [Value.cells] using h)

/-- a run that answers a value makes a good operation -/
theorem good_value {o : Oper} {a : Act} {s : Sem Value} {R : Value → World → Prop} (he : execOp a.eval o = (do pure (.value (← s)) : Sem Next)) (h : Runs P s w R) : OpGood P o a w R := by
  obtain ⟨v, w', h1, h2⟩ := h
  exact .inl ⟨v, w', by rw [he]; simp [h1], h2⟩
theorem good_unit {o : Oper} {a : Act} {s : Sem Unit} {R : Value → World → Prop} (he : execOp a.eval o = (do s; pure .skip : Sem Next)) {w' : World} (h : s.run P w = .ok () w') (hr : R undef w') : OpGood P o a w R :=
  .inr (.inl ⟨w', by rw [he]; simp [h], hr⟩)
theorem good_same {o : Oper} {a : Act} {s : Sem Value} (hr : Rel P ρ (getH H) w) (he : execOp a.eval o = (do pure (.value (← s)) : Sem Next)) {v v' : Value} (h : s.run P w = .ok v' w) (hv : Vr ρ v v') : OpGood P o a w (Post P ρ H w v H) :=
  good_value he ⟨v', w, h, Post.same hr hv⟩

theorem nilChk_sound {v v' r : Value} (hv : Vr ρ v v') (h : nilChk v = some r) : Vr ρ r v' ∧ ((∃ a, v' = .pointer (some a)) ∨ ∃ f x y, v' = .func (.func f) x y) := by
  unfold nilChk at h
  split at h
  · rename_i a
    injection h with h; subst h
    refine ⟨hv, .inl ?_⟩
    cases hv with
    | same hl => simp [litCell] at hl
    | ptr _ => exact ⟨_, rfl⟩
  · rename_i f x y
    injection h with h; subst h
    refine ⟨hv, .inr ?_⟩
    cases hv with
    | same hl => simp [litCell] at hl
    | func => exact ⟨_, _, _, rfl⟩
  · cases hv with
    | same hl => simp [litCell] at hl
  · cases h

theorem fAddr_sound {off : Nat} {v v' r : Value} (hv : Vr ρ v v') (h : fAddr off v = some r) : ∃ c o, v' = adr c o ∧ Vr ρ r (adr c (o + off)) := by
  unfold fAddr at h
  split at h
  · rename_i b o
    injection h with h; subst h
    obtain ⟨pl, hpl, rfl⟩ := hv.ptr_inv
    refine ⟨_, _, rfl, ?_⟩
    have := Vr.ptr (ρ := ρ) (o := o + off) hpl
    simpa [Nat.add_assoc] using this
  · cases h

theorem iAddr_sound {sz : Nat} {v v' i i' r : Value} (hv : Vr ρ v v') (hi : Vr ρ i i') (h : iAddr sz v i = some r) :
    ∃ c o n cap k j, v' = .slice (some ⟨c, o, none⟩) n cap ∧ i' = .int k j ∧ 0 ≤ j ∧ j < (n : Int) ∧ Vr ρ r (adr c (o + j.toNat * sz)) := by
  unfold iAddr at h
  split at h
  · rename_i b o n cap k j
    split at h
    · rename_i hc
      injection h with h; subst h
      have e := hi.eq_of_flat rfl
      subst e
      cases hv with
      | same hl => simp [litCell] at hl
      | @slice _ _ _ _ cap' pl hpl _ _ _ =>
        refine ⟨pl.c, pl.base + o, n, cap', k, j, rfl, rfl, hc.1, hc.2, ?_⟩
        have := Vr.ptr (ρ := ρ) (o := o + j.toNat * sz) hpl
        simpa [Nat.add_assoc] using this
      | slice0 => omega
    · cases h
  · cases h

theorem aAddr_sound {len sz : Nat} {v v' i i' r : Value} (hv : Vr ρ v v') (hi : Vr ρ i i') (h : aAddr len sz v i = some r) :
    ∃ c o k j, v' = adr c o ∧ i' = .int k j ∧ 0 ≤ j ∧ j < (len : Int) ∧ Vr ρ r (adr c (o + j.toNat * sz)) := by
  unfold aAddr at h
  split at h
  · rename_i b o k j
    split at h
    · rename_i hc
      injection h with h; subst h
      have e := hi.eq_of_flat rfl
      subst e
      obtain ⟨pl, hpl, rfl⟩ := hv.ptr_inv
      refine ⟨_, _, k, j, rfl, rfl, hc.1, hc.2, ?_⟩
      have := Vr.ptr (ρ := ρ) (o := o + j.toNat * sz) hpl
      simpa [Nat.add_assoc] using this
    · cases h
  · cases h

theorem part_sound {t : TypeId} {g : Bool} {off sz by' : Nat} (hg : aggOf P t = some g) (hs : infoB P t = some (sz, by')) {v v' r : Value} (hv : Vr ρ v v') (h : (if g = true then partN off sz v else part1 off v) = some r) (w : World) :
    ∃ cs r', v' = .agg cs ∧ (part t cs off).run P w = .ok r' w ∧ Vr ρ r r' := by
  have hagg : ∀ {x : Array Value}, v = .agg x → ∃ cs, v' = .agg cs ∧ Vrs ρ x.toList cs.toList := by
    rintro x rfl
    cases hv with
    | same hl => simp [litCell] at hl
    | @agg _ x' hl h1 => exact ⟨x', rfl, hl, h1⟩
  cases g with
  | true =>
    simp only [if_true, partN] at h
    split at h
    · rename_i x
      injection h with h; subst h
      obtain ⟨cs, rfl, hcs⟩ := hagg rfl
      refine ⟨cs, .agg (cs.extract off (off + sz)), rfl, by simp [part, run_isAgg hg, run_sizeOf hs], ?_⟩
      have hd := (hcs.drop off).take sz
      have e : (cs.extract off (off + sz)).toList = (cs.toList.drop off).take sz := by simp [List.extract]
      exact .agg (by rw [e]; simpa using hd.1) (by rw [e]; simpa using hd.2)
    · cases h
  | false =>
    simp only [Bool.false_eq_true, if_false, part1] at h
    split at h
    · rename_i x
      obtain ⟨cs, rfl, hcs⟩ := hagg rfl
      obtain ⟨r', h1, h2⟩ := hcs.get h
      rw [Array.getElem?_toList] at h1
      exact ⟨cs, r', rfl, by simp [part, run_isAgg hg, h1], h2⟩
    · cases h

theorem minmax_sound {mx : Bool} {vs vs' : List Value} {r : Value} (hv : Vrs ρ vs vs') (h : minmax P mx vs = some r) (w : World) :
    vs' = vs ∧ flat r = true ∧ (if mx = true then Builtin.max_ #[] 0 vs.toArray else Builtin.min_ #[] 0 vs.toArray).run P w = .ok r w := by
  unfold minmax at h
  split at h
  · rename_i hf
    refine ⟨Vrs.eq_of_flat hv (by simpa using hf), ?_⟩
    cases mx with
    | true => simp only [if_true] at h ⊢; exact ⟨(purF_run h w).2, (purF_run h w).1⟩
    | false => simp only [Bool.false_eq_true, if_false] at h ⊢; exact ⟨(purF_run h w).2, (purF_run h w).1⟩
  · cases h

theorem built_rel {t : TypeId} {ps ps' : List (Nat × Value)} {cs : Array Value} {z : Value} (hz : zeroL P t = some z) (hp : Parts ρ ps ps') (h : P.built t ps = some cs) :
    ∃ cs', P.built t ps' = some cs' ∧ Vrs ρ cs.toList cs'.toList := by
  obtain ⟨hz1, hz2⟩ := zeroL_some hz
  have hzz : Vrs ρ z.cells.toList z.cells.toList := (Vr.of_cells hz2).cells
  unfold zeroT at hz1
  unfold Program.built at h ⊢
  cases hi : P.info? t with
  | none => simp [hi] at hz1
  | some it =>
    simp [hi] at hz1
    cases hu : P.underlying t with
    | none => simp [hi, hu] at h
    | some d =>
      cases d <;> simp only [hi, hu, hz1] at h ⊢ <;> (try (cases h; done))
      case array n e =>
        cases he : P.info? e with
        | none => simp [he] at h
        | some ie => simp only [he] at h ⊢; exact fill_rel _ _ _ _ _ _ hp hzz h
      case struct fs =>
        cases hf : fs.toList.mapM (fun f => (P.info? f.type).map fun i => (f.offset, i.size)) with
        | none => simp [hf] at h
        | some pl => simp only [hf] at h ⊢; exact fill_rel _ _ _ _ _ _ hp hzz h

theorem lenSl_sound {v v' r : Value} (hv : Vr ρ v v') {ts : Array TypeId} {t ty e : TypeId} (hts : ts[0]? = some t) (hu : P.underlying t = some (.slice e)) (h : lenSl v = some r) (w : World) :
    (Builtin.len_ ts ty #[v']).run P w = .ok r w ∧ flat r = true := by
  unfold lenSl at h
  split at h
  · injection h with h; subst h
    cases hv
    exact ⟨by simp [Builtin.len_, hts, run_underlying hu]; rfl, rfl⟩
  · injection h with h; subst h
    cases hv with
    | same hl => simp [litCell] at hl
    | slice => exact ⟨by simp [Builtin.len_, hts, run_underlying hu]; rfl, rfl⟩
    | slice0 => exact ⟨by simp [Builtin.len_, hts, run_underlying hu]; rfl, rfl⟩
  · cases h

theorem lenStr_sound {v v' r : Value} (hv : Vr ρ v v') {ts : Array TypeId} {t ty : TypeId} (hts : ts[0]? = some t) (hu : P.underlying t = some .string) (h : lenStr v = some r) (w : World) :
    (Builtin.len_ ts ty #[v']).run P w = .ok r w ∧ flat r = true := by
  unfold lenStr at h
  split at h
  · injection h with h; subst h
    cases hv
    exact ⟨by simp [Builtin.len_, hts, run_underlying hu]; rfl, rfl⟩
  · cases h

end
end Go.Abs
