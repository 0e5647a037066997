/-
  EVERY OPERATION IS SOUND.
-/
import Derived.Test.YtdobnaldfmpimaaAbsOps5
import Derived.Test.YtdobnaldfmpimaaAbsMaps2
set_option linter.unusedSimpArgs false
set_option linter.unusedVariables false
namespace Go.Abs

section
variable {P : Program} {ρ : Ren} {H H' : Heap} {w : World}

theorem arr_get {α : Type} (xs : Array α) (i : Nat) : xs[i]? = xs.toList[i]? := (Array.getElem?_toList ..).symm

theorem del2_inv {ts : Array TypeId} {vs : List Value} {r : Value} (h : M.run (del2 P ts vs) H = some (r, H')) : ∃ m k, vs = [m, k] ∧ delM P ts m k H = some (r, H') := by
  match vs, h with
  | [m, k], h => exact ⟨m, k, rfl, h⟩
  | [], h => cases h
  | [_], h => cases h
  | _ :: _ :: _ :: _, h => cases h

theorem builtin_sound (hr : Rel P ρ (getH H) w) {b : Builtin} {ts : Array TypeId} {ty : TypeId} {cs : Array Bool} {vs vs' : List Value} {r : Value} (hv : Vrs ρ vs vs')
    (hf : ∀ b, H.length ≤ b → b < H'.length → ρ b = none) (h : aBuiltin P b ts vs H = some (r, H')) :
    ∃ s : Sem Value, (builtin b ts ty cs vs'.toArray) = (do pure (.value (← s)) : Sem Next) ∧ Runs P s w (Post P ρ H w r H') := by
  replace h : M.run (aBuiltin P b ts vs) H = some (r, H') := h
  unfold aBuiltin at h
  split at h
  · -- len
    rename_i v
    obtain ⟨v', vs'', rfl, hv', hn⟩ := hv.cons_left
    have := hn.nil_left; subst this
    refine ⟨_, rfl, ?_⟩
    split at h
    · rename_i hu
      cases h0 : ts.toList[0]? with
      | none => simp [h0] at hu
      | some t =>
        simp [h0] at hu
        obtain ⟨hx, rfl⟩ := ofOpt_some h
        obtain ⟨h1, h2⟩ := lenStr_sound (P := P) (ty := ty) hv' (by rw [arr_get]; exact h0) hu hx w
        exact ⟨r, w, h1, Post.same hr (.of_flat h2)⟩
    · rename_i e0 hu
      cases h0 : ts.toList[0]? with
      | none => simp [h0] at hu
      | some t =>
        simp [h0] at hu
        obtain ⟨hx, rfl⟩ := ofOpt_some h
        obtain ⟨h1, h2⟩ := lenSl_sound (P := P) (ty := ty) hv' (by rw [arr_get]; exact h0) hu hx w
        exact ⟨r, w, h1, Post.same hr (.of_flat h2)⟩
    · replace h : M.run (lenM P ts v) H = some (r, H') := h
      unfold lenM at h
      split at h
      · rename_i p0 hu
        cases h0 : ts.toList[0]? with
        | none => simp [h0] at hu
        | some t =>
        simp [h0] at hu
        replace hu := mapTy_some hu
        obtain ⟨rfl, h1, h2⟩ := lenMp_sound (P := P) (ty0 := ty) hr (by rw [arr_get]; exact h0) hu hv' h
        exact ⟨r, w, h1, Post.same hr (.of_flat h2)⟩
      · cases h
  · -- append
    rename_i v x
    obtain ⟨v', vs1, rfl, hv', hn⟩ := hv.cons_left
    obtain ⟨x', vs2, rfl, hx', hn⟩ := hn.cons_left
    have := hn.nil_left; subst this
    refine ⟨_, rfl, ?_⟩
    split at h
    · rename_i e hu
      cases h0 : ts.toList[0]? with
      | none => simp [h0] at hu
      | some t =>
        simp [h0] at hu
        have fin : ∀ {sz by' : Nat} {z : Value} {d : TypeDesc}, infoB P e = some (sz, by') → zeroT P e = some z → ts.toList[1]?.bind P.underlying = some d → (d = .string ∨ ∃ x, d = .slice x) → z.cells.size = sz → app e sz by' v x H = some (r, H') →
            Runs P (Builtin.append_ ts ty #[v', x']) w (Post P ρ H w r H') := by
          intro sz by' z d hs hz hd hdd hzs h
          cases h1 : ts.toList[1]? with
          | none => simp [h1] at hd
          | some tx =>
            simp [h1] at hd
            refine app_sound hr (by rw [arr_get]; exact h0) (by rw [arr_get]; exact h1) hu ?_ hs hz hzs hv' hx' hf h
            rcases hdd with rfl | ⟨x, rfl⟩
            · exact .inl hd
            · exact .inr ⟨x, hd⟩
        split at h
        · rename_i hs hz hd
          split at h
          · rename_i hzs; exact fin hs hz hd (.inr ⟨_, rfl⟩) hzs h
          · cases h
        · rename_i hs hz hd
          split at h
          · rename_i hzs; exact fin hs hz hd (.inl rfl) hzs h
          · cases h
        · cases h
    · cases h
  · -- copy
    rename_i d s
    obtain ⟨d', vs1, rfl, hd', hn⟩ := hv.cons_left
    obtain ⟨s', vs2, rfl, hs', hn⟩ := hn.cons_left
    have := hn.nil_left; subst this
    refine ⟨_, rfl, ?_⟩
    split at h
    · rename_i e hu
      cases h0 : ts.toList[0]? with
      | none => simp [h0] at hu
      | some t =>
        simp [h0] at hu
        split at h
        · rename_i sz by' hs
          exact cpy_sound hr (by rw [arr_get]; exact h0) hu hs hd' hs' h
        · cases h
    · cases h
  · -- clear
    rename_i v
    obtain ⟨v', vs'', rfl, hv', hn⟩ := hv.cons_left
    have := hn.nil_left; subst this
    refine ⟨_, rfl, ?_⟩
    split at h
    · rename_i e hu
      cases h0 : ts.toList[0]? with
      | none => simp [h0] at hu
      | some t =>
        simp [h0] at hu
        split at h
        · rename_i sz by' z hs hz
          obtain ⟨hz1, hz2⟩ := zeroL_some hz
          exact clr_sound hr (by rw [arr_get]; exact h0) hu hs hz1 hz2 hv' h
        · cases h
    · cases h
  · -- min
    obtain ⟨hx, rfl⟩ := ofOpt_some h
    obtain ⟨e, hfl, hrun⟩ := minmax_sound hv hx w
    subst e
    refine ⟨_, rfl, r, w, ?_, Post.same hr (.of_flat hfl)⟩
    exact hrun
  · -- max
    obtain ⟨hx, rfl⟩ := ofOpt_some h
    obtain ⟨e, hfl, hrun⟩ := minmax_sound hv hx w
    subst e
    refine ⟨_, rfl, r, w, ?_, Post.same hr (.of_flat hfl)⟩
    exact hrun
  · replace h : M.run (moreB P _ ts _) H = some (r, H') := h
    unfold moreB at h
    split at h
    · obtain ⟨v, x, rfl, h⟩ := del2_inv h
      by_cases hd : True
      · obtain ⟨v', vs1, rfl, hv', hn⟩ := hv.cons_left
        obtain ⟨x', vs2, rfl, hx', hn⟩ := hn.cons_left
        have := hn.nil_left; subst this
        refine ⟨_, rfl, ?_⟩
        replace h : M.run (delM P ts v x) H = some (r, H') := h
        unfold delM at h
        split at h
        · rename_i p0 hu
          cases h0 : ts.toList[0]? with
          | none => simp [h0] at hu
          | some t =>
            simp [h0] at hu
            replace hu := mapTy_some hu
            split at h
            · rename_i kt hkt
              exact mapDel_sound (P := P) (ty0 := ty) hr (by rw [arr_get]; exact h0) hu hkt hv' hx' h
            · cases h
        · cases h
      · exact absurd trivial hd
    · cases h

theorem conv_sound (hr : Rel P ρ (getH H) w) {s d : TypeId} {v v' r : Value} (hv : Vr ρ v v') (h : conv P s d v H = some (r, H')) : H' = H ∧ (convert s d v').run P w = .ok r w ∧ flat r = true := by
  replace h : M.run (conv P s d v) H = some (r, H') := h
  unfold conv at h
  split at h
  · rename_i k1 k hs hd
    split at h
    · rename_i kk n
      injection h with h; injection h with h1 h2; subst h1; subst h2
      rw [hv.eq_of_flat rfl]
      exact ⟨rfl, by simp [convert, run_underlying hs, run_underlying hd, Conv.intToInt], rfl⟩
    · cases h
  · rename_i hs hd
    split at h
    · rename_i s'
      injection h with h; injection h with h1 h2; subst h1; subst h2
      rw [hv.eq_of_flat rfl]
      exact ⟨rfl, by simp [convert, run_underlying hs, run_underlying hd], rfl⟩
    · cases h
  · rename_i e hs hd
    split at h
    · rename_i he
      exact toStr_sound hr hs he hd hv h
    · cases h
  · cases h

theorem call_sound {O : Oracle} (hO : OSound P O) {t : List Value} {c : Call} {dst : Option Tmp} {ty0 : TypeId} {pos : String} {after : Array Edge} {guard : Option (Nat × Bool)} {a : Act} {r : Value} {vs : List Value}
    (hr : Rel P ρ (getH H) w) (hx : Opnds ρ t a c.operands.toList) (hargs : Vrs ρ vs (c.args.toList.map a.eval)) (hf : ∀ b, H.length ≤ b → b < H'.length → ρ b = none)
    (h : M.run (match c.callee with
      | .value f =>
        match opv t f with
        | some f => callV O f vs
        | none => M.fail
      | .builtin b => aBuiltin P b c.argTypes vs
      | .invoke _ _ => M.fail) H = some (r, H')) : OpGood P ⟨dst, .call c, ty0, pos, after, guard⟩ a w (Post P ρ H w r H') := by
  have hargs' : (c.args.map a.eval) = (c.args.toList.map a.eval).toArray := by apply Array.ext'; rw [Array.toList_map]
  obtain ⟨callee, args, argTypes⟩ := c
  cases callee with
  | value f =>
    simp only at h hargs hargs'
    cases hfv : opv t f with
    | none => rw [hfv] at h; cases h
    | some fv =>
      rw [hfv] at h
      simp only at h
      have hfx := hx f (by simp [Call.operands]) fv hfv
      generalize hfe : a.eval f = fe at hfx
      cases fv with
      | func fn xs ys =>
        replace h : O fn (xs.toList ++ vs ++ ys.toList) H = some (r, H') := h
        cases hfx with
        | same hl => simp [litCell] at hl
        | @func g _ xs' _ ys' hl1 hl2 hv1 hv2 =>
          have hall : Vrs ρ (xs.toList ++ vs ++ ys.toList) (xs'.toList ++ args.toList.map a.eval ++ ys'.toList) := (Vrs.append ⟨hl1, hv1⟩ hargs).append ⟨hl2, hv2⟩
          obtain ⟨h1, h2⟩ := hO _ _ _ _ _ h ρ w _ hr hall hf
          have e : (xs'.toList ++ args.toList.map a.eval ++ ys'.toList).toArray = xs' ++ args.map a.eval ++ ys' := by
            apply Array.ext'; simp
          rw [e] at h1 h2
          refine .inr (.inr ⟨g, _, ?_, h2⟩)
          rw [← h1]
          simp [execOp, resolve, hfe, Deferred.ofValue, invoke]
      | _ => cases h
  | builtin b =>
    simp only at h hargs hargs'
    obtain ⟨s, hs, hrun⟩ := builtin_sound (ty := ty0) (cs := args.map fun | .const _ => true | _ => false) hr hargs hf h
    refine good_value (s := s) ?_ hrun
    rw [← hs, ← hargs']
    rfl
  | invoke _ _ => cases h

theorem slice_sound {dst : Option Tmp} {ty0 t' : TypeId} {pos : String} {after : Array Edge} {guard : Option (Nat × Bool)} {a : Act} {r u : Value} {x : Operand} {lo hi mx : Option Operand} {lo' hi' mx' : Option Value}
    (hr : Rel P ρ (getH H) w) (hu : Vr ρ u (a.eval x)) (hlo : Vro ρ lo' (lo.map a.eval)) (hhi : Vro ρ hi' (hi.map a.eval)) (hmx : Vro ρ mx' (mx.map a.eval))
    (h : M.run (sliceM P t' u lo' hi' mx') H = some (r, H')) : OpGood P ⟨dst, .slice t' x lo hi mx, ty0, pos, after, guard⟩ a w (Post P ρ H w r H') := by
  unfold sliceM at h
  split at h
  · rename_i e hty
    split at h
    · rename_i sz by' hs
      split at h
      · rename_i hmh
        obtain ⟨rfl, v'', h1, h2⟩ := slc_sound hr hty hs hu hlo hhi hmx (by
          intro h; rcases hmh with h1 | h1
          · cases mx' <;> simp_all
          · intro e; rw [e] at h1; cases h1) h
        exact good_same (s := Instr.sliceAt t' (a.eval x) (lo.map a.eval) (hi.map a.eval) (mx.map a.eval)) hr rfl h1 h2
      · cases h
    · cases h
  · rename_i n e hty
    split at h
    · rename_i sz by' hs
      have hmx0 : mx = none := by cases mx with
        | none => rfl
        | some _ => exact hmx.elim
      subst hmx0
      obtain ⟨rfl, v'', h1, h2⟩ := slcA_sound hr hty hs hu hlo hhi h
      exact good_same (s := Instr.sliceAt t' (a.eval x) (lo.map a.eval) (hi.map a.eval) none) hr rfl h1 h2
    · cases h
  · rename_i hty
    split at h
    · rename_i hc
      obtain ⟨hc1, hc2, hc3, hc4⟩ := hc
      obtain ⟨h1, rfl⟩ := ofOpt_some h
      have e1 := hu.eq_of_flat hc1
      have e2 : ∀ {y : Option Value} {y' : Option Operand}, Vro ρ y (y'.map a.eval) → y.all flat = true → y'.map a.eval = y := by
        intro y y' hy hfl
        cases y with
        | none => cases y' with
          | none => rfl
          | some _ => exact hy.elim
        | some y => cases y' with
          | none => exact hy.elim
          | some y' => simp at hfl; simp; exact Vr.eq_of_flat hy hfl
      have e3 := e2 hlo hc2
      have e4 := e2 hhi hc3
      have hmx0 : mx = none := by
        cases mx with
        | none => rfl
        | some _ => cases mx' with
          | none => exact hmx.elim
          | some _ => cases hc4
      subst hmx0
      refine good_same (s := Instr.sliceAt t' (a.eval x) (lo.map a.eval) (hi.map a.eval) none) hr rfl ?_ (.of_flat (purF_run h1 w).2)
      rw [e1, e3, e4]
      have := (purF_run h1 w).1
      simpa [Instr.sliceAt, run_underlying hty] using this
    · cases h
  · cases h

set_option maxHeartbeats 4000000 in
theorem aOp_sound {O : Oracle} (hO : OSound P O) {t : List Value} {o : Oper} {a : Act} {r : Value} (hr : Rel P ρ (getH H) w) (hx : Opnds ρ t a o.op.operands.toList)
    (hf : ∀ b, H.length ≤ b → b < H'.length → ρ b = none) (h : aOp P O t o H = some (r, H')) : OpGood P o a w (Post P ρ H w r H') := by
  obtain ⟨dst, op, ty0, pos, after, guard⟩ := o
  replace h : M.run (aOp P O t ⟨dst, op, ty0, pos, after, guard⟩) H = some (r, H') := h
  cases op <;> simp only [aOp] at h <;> simp only [Op.operands] at hx
  case move x =>
    obtain ⟨h1, rfl⟩ := ofOpt_some h
    exact .inl ⟨_, w, rfl, Post.same hr (hx x (by simp) r h1)⟩
  case assign x =>
    obtain ⟨h1, rfl⟩ := ofOpt_some h
    exact .inl ⟨_, w, rfl, Post.same hr (hx x (by simp) r h1)⟩
  case pick c x y =>
    split at h
    · rename_i c' x' y' h1 h2 h3
      obtain ⟨hp, rfl⟩ := ofOpt_some h
      have hc := hx c (by simp) _ h1
      have hxx := hx x (by simp) _ h2
      have hyy := hx y (by simp) _ h3
      unfold pick at hp
      split at hp
      · rename_i b
        injection hp with hp
        have e := hc.eq_of_flat rfl
        refine .inl ⟨if b = true then a.eval x else a.eval y, w, ?_, ?_⟩
        · simp [execOp, e, asBool]
        · cases b
          · simp at hp ⊢; subst hp; exact Post.same hr hyy
          · simp at hp ⊢; subst hp; exact Post.same hr hxx
      · cases hp
    · cases h
  case alloc e =>
    split at h
    · rename_i z hz
      obtain ⟨hz1, hz2⟩ := zeroL_some hz
      have hfr : ρ H.length = none := by
        simp only [M.run, newB] at h; injection h with h; injection h with h1 h2; subst h2
        exact hf _ (Nat.le_refl _) (by simp)
      obtain ⟨v', w', hrun, hp⟩ := newVar_sound (P := P) (w := w) hr hfr (Vr.of_cells hz2) h
      refine good_value (s := Instr.alloc e true (.tuple #[])) rfl ⟨v', w', ?_, hp⟩
      simp only [Instr.alloc, Sem.run_bind, zeroT_some hz1, Result.andThen_ok]
      exact hrun
    · cases h
  case box e x =>
    split at h
    · rename_i v hv
      have hfr : ρ H.length = none := by
        simp only [M.run, newB] at h; injection h with h; injection h with h1 h2; subst h2
        exact hf _ (Nat.le_refl _) (by simp)
      exact good_value (s := Instr.box e (a.eval x)) rfl (newVar_sound (P := P) (w := w) hr hfr (hx x (by simp) v hv) h)
    · cases h
  case build t' ps =>
    split at h
    · rename_i ps' hps
      obtain ⟨hb, rfl⟩ := ofOpt_some h
      unfold bld at hb
      split at hb
      · rename_i z hz
        cases hbb : P.built t' ps' with
        | none => simp [hbb] at hb
        | some cs =>
          simp [hbb] at hb; subst hb
          have hpar := pairs_rel (a := a) (by simpa using hx) hps
          obtain ⟨cs', hb', hrel⟩ := built_rel hz hpar hbb
          refine good_same (s := Instr.build t' (ps.map fun (i, x) => (i, a.eval x))) hr rfl (run_build w t' _ cs' (by simpa using hb')) (.agg hrel.1 hrel.2)
      · cases hb
    · cases h
  case buildSlice t' n ps =>
    split at h
    · rename_i e hu
      split at h
      · rename_i sz by' z ps' hs hz hps
        split at h
        · rename_i hc
          obtain ⟨hz1, hz2⟩ := zeroL_some hz
          have hpar := pairs_rel (a := a) (by simpa using hx) hps
          exact good_value (s := Instr.buildSlice t' n (ps.map fun (i, x) => (i, a.eval x))) rfl (bldSlice_sound hr hu hs hz1 hz2 hc.2 hc.1 (by simpa using hpar) hf h)
        · cases h
      · cases h
    · cases h
  case load t' x =>
    split at h
    · rename_i v sz by' g hv hs hg
      obtain ⟨rfl, ad, v', h0, h1, h3⟩ := load_sound hr hs hg (hx x (by simp) v hv) h
      refine good_same (s := Instr.loadAt t' (a.eval x)) hr rfl ?_ h3
      rw [h0]
      simp only [Instr.loadAt, Instr.sureAddr, pure_bind]
      exact h1
    · cases h
  case store t' x y =>
    split at h
    · rename_i v u sz by' hv hu hs
      obtain ⟨w', h1, rfl, h3⟩ := stN_sound hr hs (hx x (by simp) v hv) (hx y (by simp) u hu) h
      exact good_unit (s := Instr.storeAt t' (a.eval x) (a.eval y)) rfl h1 ⟨ρ, .undef ρ, h3⟩
    · cases h
  case nilCheck x =>
    split at h
    · rename_i v hv
      obtain ⟨h1, rfl⟩ := ofOpt_some h
      obtain ⟨h2, h3⟩ := nilChk_sound (hx x (by simp) v hv) h1
      refine .inl ⟨a.eval x, w, ?_, Post.same hr h2⟩
      rcases h3 with ⟨p, hp⟩ | ⟨f, p, q, hp⟩
      · simp [execOp, hp]
      · simp [execOp, hp]
    · cases h
  case binOp op t' x y yt =>
    split at h
    · rename_i u v hu hv
      obtain ⟨h1, rfl⟩ := ofOpt_some h
      obtain ⟨h2, h3⟩ := bin_sound (hx x (by simp) u hu) (hx y (by simp) v hv) h1 x y w
      exact good_same (s := (do eqGuard op t' x y (a.eval x) (a.eval y); binOp op t' (a.eval x) (a.eval y))) hr rfl h2 (.of_flat h3)
    · cases h
  case unOp op t' x =>
    split at h
    · rename_i u hu
      obtain ⟨h1, rfl⟩ := ofOpt_some h
      unfold un at h1
      split at h1
      · rename_i hfl
        have e := (hx x (by simp) u hu).eq_of_flat hfl
        exact good_same (s := Op.unary op (a.eval x)) hr rfl (by rw [e]; exact (purF_run h1 w).1) (.of_flat (purF_run h1 w).2)
      · cases h1
    · cases h
  case convert s d x =>
    split at h
    · rename_i u hu
      obtain ⟨rfl, h1, h2⟩ := conv_sound hr (hx x (by simp) u hu) h
      exact good_same (s := Go.convert s d (a.eval x)) hr rfl h1 (.of_flat h2)
    · cases h
  case makeFunc fn xs ys =>
    split at h
    · rename_i f us vs hus hvs
      injection h with h; injection h with h1 h2; subst h1; subst h2
      have hu := opvs_rel (a := a) (fun x hx' => hx x (by simp; exact .inl (by simpa using hx'))) hus
      have hv := opvs_rel (a := a) (fun x hx' => hx x (by simp; exact .inr (by simpa using hx'))) hvs
      refine good_same (s := Instr.makeFunc (.func f) (xs.map a.eval) (ys.map a.eval)) hr rfl rfl ?_
      exact .func (by simpa using hu.1) (by simpa using hv.1) (by simpa using hu.2) (by simpa using hv.2)
    · cases h
  case makeSlice t' n c =>
    split at h
    · rename_i e hu
      split at h
      · rename_i sz by' z n' c' hs hz hn hc
        obtain ⟨hz1, hz2⟩ := zeroL_some hz
        exact good_value (s := Instr.makeSlice t' (a.eval n) (a.eval c)) rfl (mkSlice_sound hr hu hs hz1 hz2 (hx n (by simp) n' hn) (hx c (by simp) c' hc) hf h)
      · cases h
    · cases h
  case slice t' x lo hi mx =>
    split at h
    · rename_i u lo' hi' mx' hu hlo hhi hmx
      have hux := hx x (by simp) u hu
      have hlo' := opvO_rel (a := a) (x := lo) (fun y hy => hx y (by simp; right; left; simpa using hy)) hlo
      have hhi' := opvO_rel (a := a) (x := hi) (fun y hy => hx y (by simp; right; right; left; simpa using hy)) hhi
      have hmx' := opvO_rel (a := a) (x := mx) (fun y hy => hx y (by simp; right; right; right; simpa using hy)) hmx
      exact slice_sound (ty0 := ty0) (pos := pos) (after := after) (guard := guard) (dst := dst) hr hux hlo' hhi' hmx' h
    · cases h
  case fieldAddr t' x f =>
    split at h
    · rename_i u fs hu hty
      split at h
      · rename_i fl hfl
        split at h
        · cases h
        · rename_i hsz
          obtain ⟨h1, rfl⟩ := ofOpt_some h
          obtain ⟨c, o, e, h2⟩ := fAddr_sound (hx x (by simp) u hu) h1
          refine good_same (s := Instr.fieldAt t' (a.eval x) f) hr rfl ?_ h2
          rw [e]
          have hfl' : fs[f]? = some fl := by rw [arr_get]; exact hfl
          obtain ⟨i, hi⟩ : ∃ i, P.info? fl.type = some i := by
            cases hi : P.info? fl.type with
            | none => simp [Program.cellsOf, hi] at hsz
            | some i => exact ⟨i, rfl⟩
          have hne : i.size ≠ 0 := by simpa [Program.cellsOf, hi] using hsz
          simp [Instr.fieldAt, run_underlying hty, hfl', Instr.sureAddr, fieldPlace, Go.sizeOf, typeInfo, hi, hne, add_eq]
      · cases h
    · cases h
  case field t' x f =>
    split at h
    · rename_i u fs hu hty
      split at h
      · rename_i fl hfl
        split at h
        · rename_i sz by' g hs hg
          obtain ⟨h1, rfl⟩ := ofOpt_some h
          obtain ⟨cs, r', e, h2, h3⟩ := part_sound hg hs (hx x (by simp) u hu) h1 w
          refine good_same (s := Instr.field t' (a.eval x) f) hr rfl ?_ h3
          have hfl' : fs[f]? = some fl := by rw [arr_get]; exact hfl
          rw [e]
          simp [Instr.field, run_underlying hty, hfl', asAgg, h2]
        · cases h
      · cases h
    · cases h
  case indexAddr t' x i =>
    split at h
    · rename_i u v e hu hv hty
      split at h
      · rename_i sz by' hs
        obtain ⟨h1, rfl⟩ := ofOpt_some h
        obtain ⟨c, o, n, cap, k, j, e1, e2, h2, h3, h4⟩ := iAddr_sound (hx x (by simp) u hu) (hx i (by simp) v hv) h1
        refine good_same (s := Instr.indexAt t' (a.eval x) (a.eval i)) hr rfl ?_ h4
        rw [e1, e2]
        simp [Instr.indexAt, asIntOf, run_underlying hty, h2, h3, run_sizeOf hs, add_eq]
      · cases h
    · rename_i u v n e hu hv hty
      split at h
      · rename_i sz by' hs
        obtain ⟨h1, rfl⟩ := ofOpt_some h
        obtain ⟨c, o, k, j, e1, e2, h2, h3, h4⟩ := aAddr_sound (hx x (by simp) u hu) (hx i (by simp) v hv) h1
        refine good_same (s := Instr.indexAt t' (a.eval x) (a.eval i)) hr rfl ?_ h4
        rw [e1, e2]
        simp [Instr.indexAt, asIntOf, run_underlying hty, h2, h3, run_sizeOf hs, add_eq, Instr.sureAddr]
      · cases h
    · cases h
  case index t' x i =>
    split at h
    · rename_i u v hu hv hty
      split at h
      · rename_i hc
        obtain ⟨h1, rfl⟩ := ofOpt_some h
        have e1 := (hx x (by simp) u hu).eq_of_flat hc.1
        have e2 := (hx i (by simp) v hv).eq_of_flat hc.2
        exact good_same (s := Instr.index t' (a.eval x) (a.eval i)) hr rfl (by rw [e1, e2]; exact (purF_run h1 w).1) (.of_flat (purF_run h1 w).2)
      · cases h
    · cases h
  case extract x i =>
    split at h
    · rename_i v hv
      obtain ⟨h1, rfl⟩ := ofOpt_some h
      have hvx := hx x (by simp) v hv
      unfold ext at h1
      split at h1
      · rename_i vs
        obtain ⟨vs', e, hvs⟩ : ∃ vs', a.eval x = .tuple vs' ∧ Vrs ρ vs.toList vs'.toList := by
          generalize a.eval x = y at hvx
          cases hvx with
          | same hl => simp [litCell] at hl
          | @tuple _ x' hl h1 => exact ⟨x', rfl, hl, h1⟩
        obtain ⟨r', h2, h3⟩ := hvs.get h1
        refine good_same (s := Instr.extract (a.eval x) i) hr rfl ?_ h3
        rw [e]
        have h2' : vs'[i]? = some r' := by rw [arr_get]; exact h2
        simp [Instr.extract, h2']
      · cases h1
    · cases h
  case call c =>
    split at h
    · cases h
    · rename_i vs hvs
      have hargs := opvs_rel (a := a) (fun x hx' => hx x (by simp [Call.operands]; exact .inr (by simpa using hx'))) hvs
      exact call_sound hO hr hx hargs hf h
  case makeMap t' r0 =>
    split at h
    · exact good_value (s := Instr.makeMap t' none) rfl (newM_sound hr hf h)
    · cases h
  case lookup t' x i ok =>
    split at h
    · rename_i m k p hm hk hu
      split at h
      · rename_i kt z hkt hz
        obtain ⟨rfl, r', h1, h2⟩ := mapGet_sound hr (mapTy_some hu) hkt hz (hx x (by simp) m hm) (hx i (by simp) k hk) h
        exact good_same (s := Instr.lookup t' (a.eval x) (a.eval i) ok) hr rfl h1 h2
      · cases h
    · cases h
  case mapUpdate t' x i y =>
    split at h
    · rename_i m k v p hm hk hv hu
      split at h
      · rename_i kt hkt
        obtain ⟨w', h1, rfl, h3⟩ := mapSet_sound hr (mapTy_some hu) hkt (hx x (by simp) m hm) (hx i (by simp) k hk) (hx y (by simp) v hv) h
        exact good_unit (s := Instr.mapUpdate t' (a.eval x) (a.eval i) (a.eval y)) rfl h1 ⟨ρ, .undef ρ, h3⟩
      · cases h
    · cases h
  case mapEntry t' x i =>
    split at h
    · rename_i m k p hm hk hu
      split at h
      · rename_i kt z hkt hz
        obtain ⟨r', w', h1, h2, h3⟩ := mapEnt_sound hr (mapTy_some hu) hkt hz (hx x (by simp) m hm) (hx i (by simp) k hk) h
        exact good_value (s := Instr.mapEntry t' (a.eval x) (a.eval i)) rfl ⟨r', w', h1, ρ, h2, h3⟩
      · cases h
    · cases h
  case entryStore t' x s y =>
    split at h
    · rename_i m k v hm hk hv
      obtain ⟨w', h1, rfl, h3⟩ := entSet_sound (ty := t') hr (hx x (by simp) m hm) (hx s (by simp) k hk) (hx y (by simp) v hv) h
      exact good_unit (s := Instr.entryStore t' (a.eval x) (a.eval s) (a.eval y)) rfl h1 ⟨ρ, .undef ρ, h3⟩
    · cases h
  all_goals (cases h)

end
end Go.Abs
