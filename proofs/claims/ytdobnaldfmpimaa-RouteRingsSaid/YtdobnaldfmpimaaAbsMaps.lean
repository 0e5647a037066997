/-
  MAPS: keys are numbers, or structs of numbers.
-/
import Derived.Test.YtdobnaldfmpimaaAbsOps5
import Derived.MapKept
import Derived.WideKeyRuns
set_option linter.unusedSimpArgs false
set_option linter.unusedVariables false
namespace Go.Abs

section
variable {P : Program} {ρ : Ren} {H H' : Heap} {w : World}

theorem eqT_self : ∀ {ks : List Bool} {xs ys : List Value}, eqT ks xs ys = some true → ys = xs
  | ks, xs, ys, h => by
    unfold eqT at h
    split at h
    · rfl
    · rename_i ks' k a xs' k' b ys'
      split at h
      · rename_i hk
        subst hk
        cases hr : eqT ks' xs' ys' with
        | none => simp [hr] at h
        | some r =>
          simp [hr] at h
          obtain ⟨h1, h2⟩ := h
          subst h1 h2
          rw [eqT_self hr]
      · cases h
    · rename_i ks' a xs' b ys'
      cases hr : eqT ks' xs' ys' with
      | none => simp [hr] at h
      | some r =>
        simp [hr] at h
        obtain ⟨h1, h2⟩ := h
        subst h1 h2
        rw [eqT_self hr]
    · cases h

/-- a key: what it is made of is flat -/
def KeyV : Value → Prop
  | .int _ _ => True
  | .agg xs => ∀ x ∈ xs.toList, ∃ k n b, x = .int k n ∨ x = .bool b
  | _ => False

theorem eqT_num : ∀ {ks : List Bool} {xs ys : List Value} {b : Bool}, eqT ks xs ys = some b → (∀ x ∈ xs, ∃ k n b, x = .int k n ∨ x = .bool b) ∧ (∀ x ∈ ys, ∃ k n b, x = .int k n ∨ x = .bool b)
  | ks, xs, ys, b, h => by
    unfold eqT at h
    split at h
    · simp
    · rename_i ks' k a xs' k' b' ys'
      split at h
      · cases hr : eqT ks' xs' ys' with
        | none => simp [hr] at h
        | some r =>
          obtain ⟨h1, h2⟩ := eqT_num hr
          refine ⟨fun x hx => ?_, fun x hx => ?_⟩
          · rcases List.mem_cons.mp hx with rfl | hx
            · exact ⟨k, a, false, .inl rfl⟩
            · exact h1 x hx
          · rcases List.mem_cons.mp hx with rfl | hx
            · exact ⟨k', b', false, .inl rfl⟩
            · exact h2 x hx
      · cases h
    · rename_i ks' a xs' b' ys'
      cases hr : eqT ks' xs' ys' with
      | none => simp [hr] at h
      | some r =>
        obtain ⟨h1, h2⟩ := eqT_num hr
        refine ⟨fun x hx => ?_, fun x hx => ?_⟩
        · rcases List.mem_cons.mp hx with rfl | hx
          · exact ⟨.i64, 0, a, .inr rfl⟩
          · exact h1 x hx
        · rcases List.mem_cons.mp hx with rfl | hx
          · exact ⟨.i64, 0, b', .inr rfl⟩
          · exact h2 x hx
    · cases h

theorem keyEq_num {k v : Value} {b : Bool} (h : keyEq .num k v = some b) : ∃ kk a c, k = .int kk a ∧ v = .int kk c ∧ b = (a == c) := by
  cases k <;> cases v <;> simp [keyEq] at h
  rename_i k1 a k2 c
  obtain ⟨rfl, rfl⟩ := h
  exact ⟨_, _, _, rfl, rfl, rfl⟩
theorem keyEq_str {ks : List Bool} {k v : Value} {b : Bool} (h : keyEq (.str ks) k v = some b) : ∃ xs ys, k = .agg xs ∧ v = .agg ys ∧ eqT ks xs.toList ys.toList = some b := by
  cases k <;> cases v <;> simp [keyEq] at h
  exact ⟨_, _, rfl, rfl, h⟩

theorem keyEq_key {kt : KeyT} {k v : Value} {b : Bool} (h : keyEq kt k v = some b) : KeyV k ∧ KeyV v := by
  unfold keyEq at h
  split at h
  · exact ⟨trivial, trivial⟩
  · exact eqT_num h
  · cases h

theorem KeyV.fix {k k' : Value} (h : KeyV k) (hv : Vr ρ k k') : k' = k := by
  cases hv with
  | same _ => rfl
  | agg hx h1 =>
    rename_i x x'
    have := Vrs.eq_of_flat (ρ := ρ) ⟨hx, h1⟩ (fun y hy => by
      obtain ⟨k, n, b, rfl | rfl⟩ := h y hy <;> rfl)
    rw [Array.ext' this]
  | ptr _ => exact h.elim
  | slice _ _ _ _ => exact h.elim
  | slice0 _ => exact h.elim
  | map _ => exact h.elim
  | func _ _ _ _ => exact h.elim
  | tuple _ _ => exact h.elim

theorem KeyV.elim_vr {k k' : Value} (h : KeyV k) (hv : Vr ρ k' k) : Vr ρ k' k := hv

theorem keyEq_true {kt : KeyT} {k v : Value} (h : keyEq kt k v = some true) : v = k := by
  unfold keyEq at h
  split at h
  · split at h
    · rename_i hk
      subst hk
      simp at h
      rw [h]
    · cases h
  · rename_i xs ys
    have := eqT_self h
    rw [Array.ext' this]
  · cases h

theorem sameBits_key {k : Value} (h : KeyV k) (n : Nat) : Instr.sameBits (n + 1) k k = true := by
  cases k with
  | int k a => simp [Instr.sameBits]
  | agg xs =>
    simp only [Instr.sameBits, beq_self_eq_true, Bool.true_and]
    rw [List.all_eq_true]
    intro p hp
    obtain ⟨i, hi⟩ := List.getElem?_of_mem hp
    rw [List.getElem?_zip_eq_some] at hi
    have e : p.1 = p.2 := by
      have := hi.1.symm.trans hi.2
      simpa using this
    obtain ⟨k, m, b, hx⟩ := h p.1 (List.mem_of_getElem? hi.1)
    obtain ⟨p1, p2⟩ := p
    simp only at e hx
    subst e
    rcases hx with rfl | rfl <;> simp [Instr.sameBits]
  | _ => exact h.elim

theorem run_stays {k : Value} (h : KeyV k) : (Instr.keyThatStays k k).run P w = .ok k w := by
  simp [Instr.keyThatStays, sameBits_key h]

/-- the kind of a key's type -/
theorem keyT_some {t : TypeId} {kt : KeyT} (h : keyT P t = some kt) : (∃ k, P.underlying t = some (.int k) ∧ kt = .num) ∨ ∃ ks, kindsOf P t = some ks ∧ kt = .str ks := by
  unfold keyT at h
  split at h
  · rename_i k hu
    cases h
    exact .inl ⟨k, hu, rfl⟩
  · obtain ⟨ks, h1, rfl⟩ := Option.map_eq_some_iff.mp h
    exact .inr ⟨ks, h1, rfl⟩
  · cases h

theorem run_check {t : TypeId} {kt : KeyT} (ht : keyT P t = some kt) {k : Value} (hk : keyEq kt k k = some true) (em : Bool) : (Instr.checkKey em 10000 t k).run P w = .ok () w := by
  rcases keyT_some ht with ⟨kk, hu, rfl⟩ | ⟨ks, hks, rfl⟩
  · obtain ⟨k1, a, c, rfl, _, _⟩ := keyEq_num hk
    rw [show (10000 : Nat) = 9999 + 1 from rfl, Instr.checkKey]
    simp only [Sem.run_bind, run_underlying hu, Result.andThen_ok]
    simp
  · obtain ⟨h1, h2, h3, h4⟩ := kindsOf_some hks
    obtain ⟨xs, ys, rfl, e, hk⟩ := keyEq_str hk
    cases e
    have hk' := hk
    by_cases hdummy : True
    · skip
      rw [show (10000 : Nat) = 9999 + 1 from rfl, Instr.checkKey]
      simp only [Sem.run_bind, run_underlying h1, Result.andThen_ok]
      rw [← Array.forIn_toList]
      have gen : ∀ (L : List Field) (i : Nat) (ks : List Bool), kindsL P i L = some ks → eqT ks (xs.toList.drop i) (xs.toList.drop i) = some true →
          (forIn (m := Sem) L PUnit.unit fun f _ => if f.name ≠ "_" then (do
              let a ← part f.type xs f.offset
              Instr.checkKey em 9999 f.type a
              pure (ForInStep.yield PUnit.unit)) else pure (ForInStep.yield PUnit.unit)).run P w = .ok PUnit.unit w := by
        intro L
        induction L with
        | nil => intro i ks _ _; simp
        | cons f L ih =>
          intro i ks hf he
          simp only [kindsL] at hf
          split at hf
          · rename_i hc
            obtain ⟨hoff, hname⟩ := hc
            have hat : ∀ (z : Value) (zr : List Value), aggOf P f.type = some false → xs.toList.drop i = z :: zr → (part f.type xs f.offset).run P w = .ok z w := by
              intro z zr hagg hz
              have : xs.toList[i]? = some z := by
                have := congrArg (fun l : List Value => l[0]?) hz
                simpa using this
              rw [Array.getElem?_toList] at this
              simp [part, run_isAgg hagg, hoff, this]
            have tl : ∀ (z : Value) (zr : List Value), xs.toList.drop i = z :: zr → xs.toList.drop (i + 1) = zr := by
              intro z zr hz
              have := congrArg List.tail hz
              simpa using this
            split at hf
            · rename_i kk hu
              have hagg : aggOf P f.type = some false := by simp [aggOf, hu]
              obtain ⟨ks', hks', rfl⟩ := Option.map_eq_some_iff.mp hf
              unfold eqT at he
              split at he
              · rename_i e1 _ _; cases e1
              · rename_i k1 ks1 kx a xs' ky b ys' e1 e2 e3
                cases e1
                rw [e2] at e3
                cases e3
                have hr : eqT ks' xs' xs' = some true := by
                  simp at he
                  exact he
                simp only [List.forIn_cons, Sem.run_bind, hname, ne_eq, not_false_eq_true, if_true, hat _ _ hagg e2, Result.andThen_ok, Sem.run_pure]
                rw [show (9999 : Nat) = 9998 + 1 from rfl, Instr.checkKey]
                simp only [Sem.run_bind, run_underlying hu, Result.andThen_ok, Sem.run_pure]
                exact ih (i + 1) ks' hks' (by rw [tl _ _ e2]; exact hr)
              · rename_i e1 _ _; cases e1
              · cases he
            · rename_i hu
              have hagg : aggOf P f.type = some false := by simp [aggOf, hu]
              obtain ⟨ks', hks', rfl⟩ := Option.map_eq_some_iff.mp hf
              unfold eqT at he
              split at he
              · rename_i e1 _ _; cases e1
              · rename_i e1 _ _; cases e1
              · rename_i k1 ks1 a xs' b ys' e1 e2 e3
                cases e1
                rw [e2] at e3
                cases e3
                have hr : eqT ks' xs' xs' = some true := by
                  simp at he
                  exact he
                simp only [List.forIn_cons, Sem.run_bind, hname, ne_eq, not_false_eq_true, if_true, hat _ _ hagg e2, Result.andThen_ok, Sem.run_pure]
                rw [show (9999 : Nat) = 9998 + 1 from rfl, Instr.checkKey]
                simp only [Sem.run_bind, run_underlying hu, Result.andThen_ok, Sem.run_pure]
                exact ih (i + 1) ks' hks' (by rw [tl _ _ e2]; exact hr)
              · cases he
            · cases hf
          · cases hf
      have := gen _ 0 ks h4 (by simpa using hk)
      rw [this]
      rfl
    · exact absurd trivial hdummy

/-- what a search finds -/
def Found (ρ : Ren) (es : List Ent) (ms : List MapEntry) (x : Option (Nat × Ent)) (x' : Option (Nat × Value)) : Prop :=
  match x with
  | none => x' = none
  | some (i, e) => ∃ m, es[i]? = some e ∧ ms[i]? = some m ∧ EntR ρ e m ∧ x' = some (i, m.val)

theorem find_now {kk : IntKind} {k : Value} : ∀ (es : List Ent) (ms : List MapEntry) (pre : List Ent) (pms : List MapEntry) (x : Option (Nat × Ent)), pre.length = pms.length → EntsR ρ es ms → KeyV k → findK .num k es pre.length = some x →
    ∃ x', Instr.findNow (.int kk) k ms pre.length = some x' ∧ Found ρ (pre ++ es) (pms ++ ms) x x'
  | [], ms, pre, pms, x, hl, he, hk, h => by
    have : ms = [] := List.length_eq_zero_iff.mp he.1.symm
    subst this
    simp only [findK] at h
    cases h
    exact ⟨none, rfl, rfl⟩
  | e :: es, [], pre, pms, x, hl, he, hk, h => by have := he.1; simp at this
  | e :: es, m :: ms, pre, pms, x, hl, he, hk, h => by
    have hem := he.2 0 e m rfl rfl
    simp only [findK] at h
    split at h
    · cases h
    · rename_i hq
      cases h
      have hkey := keyEq_true hq
      have hm : m.key = k := by rw [← hkey]; exact (keyEq_key hq).2.fix hem.1
      refine ⟨some (pre.length, m.val), ?_, m, by simp, by simp [hl], hem, rfl⟩
      obtain ⟨k1, a, c, rfl, _, _⟩ := keyEq_num hq
      simp [Instr.findNow, hm, Instr.sameNow]
    · rename_i hq
      have hm : m.key = e.key := (keyEq_key hq).2.fix hem.1
      obtain ⟨x', h1, h2⟩ := find_now es ms (pre ++ [e]) (pms ++ [m]) x (by simp [hl]) ⟨by have := he.1; simpa using this, fun i a b ha hb => he.2 (i + 1) a b (by simpa using ha) (by simpa using hb)⟩ hk (by simpa using h)
      refine ⟨x', ?_, by simpa using h2⟩
      obtain ⟨k1, a, c, e1, e2, e3⟩ := keyEq_num hq
      subst e1
      simp only [Instr.findNow, hm, e2, Instr.sameNow, if_true]
      rw [← e3]
      simpa using h1

theorem find_ask {t : TypeId} {ks : List Bool} (hks : kindsOf P t = some ks) {k : Value} : ∀ (es : List Ent) (ms : List MapEntry) (pre : List Ent) (pms : List MapEntry) (x : Option (Nat × Ent)), pre.length = pms.length → EntsR ρ es ms → KeyV k → findK (.str ks) k es pre.length = some x →
    ∃ x', (Instr.findAsking t k ms pre.length).run P w = .ok x' w ∧ Found ρ (pre ++ es) (pms ++ ms) x x'
  | [], ms, pre, pms, x, hl, he, hk, h => by
    have : ms = [] := List.length_eq_zero_iff.mp he.1.symm
    subst this
    simp only [findK] at h
    cases h
    exact ⟨none, rfl, rfl⟩
  | e :: es, [], pre, pms, x, hl, he, hk, h => by have := he.1; simp at this
  | e :: es, m :: ms, pre, pms, x, hl, he, hk, h => by
    have hem := he.2 0 e m rfl rfl
    have eqr : ∀ b, keyEq (.str ks) k e.key = some b → (Op.equal t k m.key).run P w = .ok b w := by
      intro b hq
      have hm : m.key = e.key := (keyEq_key hq).2.fix hem.1
      rw [hm]
      obtain ⟨xs, ys, e1, e2, e3⟩ := keyEq_str hq
      rw [e1, e2]
      exact run_equalIn_agg' 9998 hks e3 w
    simp only [findK] at h
    split at h
    · cases h
    · rename_i hq
      cases h
      refine ⟨some (pre.length, m.val), ?_, m, by simp, by simp [hl], hem, rfl⟩
      simp [Instr.findAsking, eqr true hq]
    · rename_i hq
      obtain ⟨x', h1, h2⟩ := find_ask hks es ms (pre ++ [e]) (pms ++ [m]) x (by simp [hl]) ⟨by have := he.1; simpa using this, fun i a b ha hb => he.2 (i + 1) a b (by simpa using ha) (by simpa using hb)⟩ hk (by simpa using h)
      refine ⟨x', ?_, by simpa using h2⟩
      simp only [Instr.findAsking, Sem.run_bind, eqr false hq, Result.andThen_ok]
      simpa using h1

theorem find_sound {t : TypeId} {kt : KeyT} (ht : keyT P t = some kt) {k : Value} (hk : KeyV k) {es : List Ent} {ms : List MapEntry} (he : EntsR ρ es ms) {x : Option (Nat × Ent)} (h : findK kt k es 0 = some x) :
    ∃ x', (Instr.findKey t k ms).run P w = .ok x' w ∧ Found ρ es ms x x' := by
  rcases keyT_some ht with ⟨kk, hu, rfl⟩ | ⟨ks, hks, rfl⟩
  · obtain ⟨x', h1, h2⟩ := find_now (kk := kk) es ms [] [] x rfl he hk h
    exact ⟨x', Go.MapKept.run_findKey hu (by simpa using h1), by simpa using h2⟩
  · obtain ⟨x', h1, h2⟩ := find_ask (w := w) hks es ms [] [] x rfl he hk h
    refine ⟨x', ?_, by simpa using h2⟩
    rw [run_findKey_eq w (by rw [(kindsOf_some hks).1]) k ms]
    simpa using h1

end
end Go.Abs
