/-
  MAPS: the operations.
-/
import Derived.Test.YtdobnaldfmpimaaAbsMaps
set_option linter.unusedSimpArgs false
set_option linter.unusedVariables false
namespace Go.Abs

section
variable {P : Program} {ρ : Ren} {H H' : Heap} {w : World}

theorem mapTy_some {t : TypeId} {p : TypeId × TypeId} (h : mapTy P t = some p) : P.underlying t = some (.map p.1 p.2) := by
  unfold mapTy at h
  split at h
  · rename_i k e hu
    cases h
    exact hu
  · cases h

theorem findK_key {kt : KeyT} {k : Value} : ∀ (es : List Ent) (j : Nat) (i : Nat) (e : Ent), findK kt k es j = some (some (i, e)) → keyEq kt k e.key = some true
  | [], j, i, e, h => by simp [findK] at h
  | x :: es, j, i, e, h => by
    simp only [findK] at h
    split at h
    · cases h
    · rename_i hq
      cases h
      exact hq
    · exact findK_key es (j + 1) i e h

theorem map_blk (hr : Rel P ρ (getH H) w) {b : Nat} {pl : Pl} {es : List Ent} {c : Nat} (hpl : ρ b = some pl) (hb : H[b]? = some (.map es c)) : ∃ ms : List MapEntry, w.heap[pl.c]? = some (.map ⟨ms⟩ c) ∧ pl.base = 0 ∧ EntsR ρ es ms := by
  obtain ⟨ces, h1, h2, h3⟩ := hr.blk b pl _ hpl hb
  exact ⟨ces.toList, by simpa using h1, h2, h3⟩

theorem map_inv {b : Nat} {v' : Value} (h : Vr ρ (.map (some b)) v') : ∃ pl, ρ b = some pl ∧ v' = .map (some pl.c) := by
  cases h with
  | same hl => simp [litCell] at hl
  | map h => exact ⟨_, h, rfl⟩

theorem EntsR.nil (ρ : Ren) : EntsR ρ [] [] := ⟨rfl, fun i e m h => by simp at h⟩

/-- a map's block is changed -/
theorem map_step (hr : Rel P ρ (getH H) w) {b : Nat} {pl : Pl} {es es' : List Ent} {ms ms' : List MapEntry} {c c' : Nat} (hpl : ρ b = some pl) (hb : H[b]? = some (.map es c)) (hw : w.heap[pl.c]? = some (.map ⟨ms⟩ c)) (h0 : pl.base = 0) (he : EntsR ρ es' ms') :
    Step P ρ H w ρ (H.set b (.map es' c')) (putBlk w pl.c (.map ⟨ms'⟩ c')) := by
  have hlt := (Array.getElem?_eq_some_iff.1 hw).1
  refine Step.change hr hpl (by rw [hb]; rfl) (by simp [putBlk]) (fun d hd _ => by rw [putBlk_get _ _ _ hlt, if_neg hd]) ?_ rfl rfl rfl
  rw [putBlk_get _ _ _ hlt, if_pos rfl]
  exact ⟨⟨ms'⟩, rfl, h0, he⟩

theorem vr_pair {x x' y y' : Value} (h1 : Vr ρ x x') (h2 : Vr ρ y y') : Vr ρ (.tuple #[x, y]) (.tuple #[x', y']) :=
  let h := Vrs.cons h1 (Vrs.cons h2 (Vrs.nil ρ))
  .tuple h.1 h.2

theorem mapGet_sound (hr : Rel P ρ (getH H) w) {ty kt' et : TypeId} {kt : KeyT} {z : Value} (hu : P.underlying ty = some (.map kt' et)) (hkt : keyT P kt' = some kt) (hz : zeroL P et = some z) {ok : Bool} {m m' k k' r : Value} (hm : Vr ρ m m') (hk : Vr ρ k k')
    (h : mapGet kt z ok m k H = some (r, H')) : H' = H ∧ ∃ r', (Instr.lookup ty m' k' ok).run P w = .ok r' w ∧ Vr ρ r r' := by
  obtain ⟨hz1, hz2⟩ := zeroL_some hz
  unfold mapGet at h
  split at h
  · rename_i hkk
    have e := (keyEq_key hkk).1.fix hk
    subst e
    have fin : ∀ (es : List Ent) (ms : List MapEntry), EntsR ρ es ms → ((∃ r, m' = .map (some r) ∧ ∃ c, w.heap[r]? = some (.map ⟨ms⟩ c)) ∨ (m' = .map none ∧ ms = [])) → ∀ x, findK kt k' es 0 = some x →
        ∃ r', (Instr.lookup ty m' k' ok).run P w = .ok r' w ∧ Vr ρ (match x with | none => (if ok then .tuple #[z, .bool false] else z) | some (_, e) => (if ok then .tuple #[e.val, .bool true] else e.val)) r' := by
      intro es ms he hms x hx
      obtain ⟨x', hx', hF⟩ := find_sound (w := w) hkt (keyEq_key hkk).1 he hx
      have hzz : Vr ρ z z := Vr.of_cells hz2
      cases x with
      | none =>
        have : x' = none := hF
        subst this
        refine ⟨if ok then .tuple #[z, .bool false] else z, ?_, ?_⟩
        · rcases hms with ⟨r, rfl, c, hc⟩ | ⟨rfl, rfl⟩
          · simp [Instr.lookup, run_underlying hu, Go.MapKept.run_getObj_map hc, run_check hkt hkk, hx', zeroT_some hz1, Result.andThen]
          · simp [Instr.lookup, run_underlying hu, run_check hkt hkk, hx', zeroT_some hz1, Result.andThen]
        · cases ok
          · exact hzz
          · exact vr_pair hzz (.same rfl)
      | some p =>
        obtain ⟨i, e⟩ := p
        obtain ⟨mm, h1, h2, h3, rfl⟩ := hF
        refine ⟨if ok then .tuple #[mm.val, .bool true] else mm.val, ?_, ?_⟩
        · rcases hms with ⟨r, rfl, c, hc⟩ | ⟨rfl, rfl⟩
          · simp [Instr.lookup, run_underlying hu, Go.MapKept.run_getObj_map hc, run_check hkt hkk, hx', Result.andThen]
          · simp at h2
        · cases ok
          · exact h3.2.1
          · exact vr_pair h3.2.1 (.same rfl)
    split at h
    · injection h with h; injection h with h1 h2; subst h1; subst h2
      have : m' = .map none := by cases hm with | same _ => rfl
      obtain ⟨r', g1, g2⟩ := fin [] [] (EntsR.nil ρ) (.inr ⟨this, rfl⟩) none rfl
      exact ⟨rfl, r', g1, g2⟩
    · rename_i b
      obtain ⟨pl, hpl, rfl⟩ := map_inv hm
      split at h
      · rename_i es c hb
        obtain ⟨ms, h1, h2, h3⟩ := map_blk hr hpl hb
        split at h
        · cases h
        · rename_i hf
          injection h with h; injection h with g1 g2; subst g1; subst g2
          obtain ⟨r', q1, q2⟩ := fin es ms h3 (.inl ⟨_, rfl, c, h1⟩) none hf
          exact ⟨rfl, r', q1, q2⟩
        · rename_i i e hf
          injection h with h; injection h with g1 g2; subst g1; subst g2
          obtain ⟨r', q1, q2⟩ := fin es ms h3 (.inl ⟨_, rfl, c, h1⟩) (some (i, e)) hf
          exact ⟨rfl, r', q1, q2⟩
      · cases h
    · cases h
  · cases h

theorem ents_push {es : List Ent} {ms : List MapEntry} (h : EntsR ρ es ms) {e : Ent} {m : MapEntry} (he : EntR ρ e m) : EntsR ρ (es ++ [e]) (ms ++ [m]) := by
  refine ⟨by simp [h.1], fun i a b ha hb => ?_⟩
  by_cases hi : i < es.length
  · rw [List.getElem?_append_left hi] at ha
    rw [List.getElem?_append_left (by rw [← h.1]; exact hi)] at hb
    exact h.2 i a b ha hb
  · have hlen : i = es.length := by
      have := (List.getElem?_eq_some_iff.1 ha).1
      simp at this
      omega
    subst hlen
    rw [List.getElem?_append_right (Nat.le_refl _)] at ha
    rw [h.1, List.getElem?_append_right (Nat.le_refl _)] at hb
    simp at ha hb
    subst ha hb
    exact he

theorem ents_set {es : List Ent} {ms : List MapEntry} (h : EntsR ρ es ms) {i : Nat} {e : Ent} {m0 : MapEntry} (hm0 : ms[i]? = some m0) {f : MapEntry → MapEntry} (he : EntR ρ e (f m0)) : EntsR ρ (es.set i e) (ms.modify i f) := by
  have hi : i < ms.length := (List.getElem?_eq_some_iff.1 hm0).1
  refine ⟨by simp [h.1], fun j a b ha hb => ?_⟩
  rw [List.getElem?_modify] at hb
  by_cases hij : i = j
  · subst hij
    rw [List.getElem?_set_self (by rw [h.1]; exact hi)] at ha
    rw [hm0] at hb
    simp at ha hb
    subst ha hb
    exact he
  · rw [List.getElem?_set_ne hij] at ha
    simp [hij] at hb
    exact h.2 j a b ha hb

theorem ents_erase {es : List Ent} {ms : List MapEntry} (h : EntsR ρ es ms) (i : Nat) : EntsR ρ (es.eraseIdx i) (ms.eraseIdx i) := by
  refine ⟨by rw [List.length_eraseIdx, List.length_eraseIdx, h.1], fun j a b ha hb => ?_⟩
  rw [List.getElem?_eraseIdx] at ha hb
  split at ha
  · rename_i hj
    rw [if_pos hj] at hb
    exact h.2 j a b ha hb
  · rename_i hj
    rw [if_neg hj] at hb
    exact h.2 (j + 1) a b ha hb

theorem mapSet_sound (hr : Rel P ρ (getH H) w) {ty kt' et : TypeId} {kt : KeyT} (hu : P.underlying ty = some (.map kt' et)) (hkt : keyT P kt' = some kt) {m m' k k' v v' r : Value} (hm : Vr ρ m m') (hk : Vr ρ k k') (hv : Vr ρ v v')
    (h : mapSet kt m k v H = some (r, H')) : ∃ w', (Instr.mapUpdate ty m' k' v').run P w = .ok () w' ∧ r = undef ∧ Step P ρ H w ρ H' w' := by
  unfold mapSet at h
  split at h
  · rename_i hkk
    have e := (keyEq_key hkk).1.fix hk
    subst e
    split at h
    · rename_i b
      obtain ⟨pl, hpl, rfl⟩ := map_inv hm
      split at h
      · rename_i es c hb
        obtain ⟨ms, h1, h2, h3⟩ := map_blk hr hpl hb
        split at h
        · cases h
        · rename_i hf
          injection h with h; injection h with g1 g2; subst g1; subst g2
          obtain ⟨x', hx', hF⟩ := find_sound (w := w) hkt (keyEq_key hkk).1 h3 hf
          have : x' = none := hF
          subst this
          refine ⟨_, ?_, rfl, map_step hr hpl hb h1 h2 (ents_push h3 (m := { key := k', val := v', born := c }) ⟨(keyEq_key hkk).1.elim_vr hk, hv, rfl⟩)⟩
          simp [Instr.mapUpdate, run_underlying hu, Go.MapKept.run_getObj_map h1, run_check hkt hkk, hx', Go.MapKept.run_setObj_map _ h1, Result.andThen, putBlk]
        · rename_i i e hf
          injection h with h; injection h with g1 g2; subst g1; subst g2
          obtain ⟨x', hx', mm, q1, q2, q3, rfl⟩ := find_sound (w := w) hkt (keyEq_key hkk).1 h3 hf
          have hke := keyEq_true (findK_key _ _ _ _ hf)
          have hmk : mm.key = k' := by rw [(keyEq_key (findK_key _ _ _ _ hf)).2.fix q3.1, hke]
          refine ⟨_, ?_, rfl, map_step hr hpl hb h1 h2 (ents_set h3 q2 (f := fun e => { e with key := k', val := v' }) ⟨(keyEq_key hkk).1.elim_vr hk, hv, q3.2.2⟩)⟩
          simp [Instr.mapUpdate, run_underlying hu, Go.MapKept.run_getObj_map h1, run_check hkt hkk, hx', Go.MapKept.run_setObj_map _ h1, Result.andThen, putBlk, q2, hmk, run_stays (keyEq_key hkk).1]
      · cases h
    · cases h
  · cases h


theorem mapEnt_sound (hr : Rel P ρ (getH H) w) {ty kt' et : TypeId} {kt : KeyT} {z : Value} (hu : P.underlying ty = some (.map kt' et)) (hkt : keyT P kt' = some kt) (hz : zeroL P et = some z) {m m' k k' r : Value} (hm : Vr ρ m m') (hk : Vr ρ k k')
    (h : mapEnt kt z m k H = some (r, H')) : ∃ r' w', (Instr.mapEntry ty m' k').run P w = .ok r' w' ∧ Vr ρ r r' ∧ Step P ρ H w ρ H' w' := by
  obtain ⟨hz1, hz2⟩ := zeroL_some hz
  unfold mapEnt at h
  split at h
  · rename_i hkk
    have e := (keyEq_key hkk).1.fix hk
    subst e
    split at h
    · rename_i b
      obtain ⟨pl, hpl, rfl⟩ := map_inv hm
      split at h
      · rename_i es c hb
        obtain ⟨ms, h1, h2, h3⟩ := map_blk hr hpl hb
        split at h
        · cases h
        · rename_i hf
          injection h with h; injection h with g1 g2; subst g1; subst g2
          obtain ⟨x', hx', hF⟩ := find_sound (w := w) hkt (keyEq_key hkk).1 h3 hf
          have : x' = none := hF
          subst this
          have hzz : Vr ρ z z := Vr.of_cells hz2
          refine ⟨.tuple #[z, .int .i64 c], _, ?_, vr_pair hzz (.same rfl), map_step hr hpl hb h1 h2 (ents_push h3 (m := { key := k', val := z, born := c }) ⟨(keyEq_key hkk).1.elim_vr hk, hzz, rfl⟩)⟩
          simp [Instr.mapEntry, run_underlying hu, Go.MapKept.run_getObj_map h1, run_check hkt hkk, hx', zeroT_some hz1, Go.MapKept.run_setObj_map _ h1, Result.andThen, putBlk, goInt]
        · rename_i i e hf
          injection h with h; injection h with g1 g2; subst g1; subst g2
          obtain ⟨x', hx', mm, q1, q2, q3, rfl⟩ := find_sound (w := w) hkt (keyEq_key hkk).1 h3 hf
          have hke := keyEq_true (findK_key _ _ _ _ hf)
          have hmk : mm.key = k' := by rw [(keyEq_key (findK_key _ _ _ _ hf)).2.fix q3.1, hke]
          refine ⟨.tuple #[mm.val, .int .i64 e.born], _, ?_, vr_pair q3.2.1 (.same rfl), map_step hr hpl hb h1 h2 (ents_set h3 q2 (f := fun e => { e with key := k' }) ⟨(keyEq_key hkk).1.elim_vr hk, q3.2.1, q3.2.2⟩)⟩
          simp [Instr.mapEntry, run_underlying hu, Go.MapKept.run_getObj_map h1, run_check hkt hkk, hx', Go.MapKept.run_setObj_map _ h1, Result.andThen, putBlk, q2, hmk, run_stays (keyEq_key hkk).1, goInt, q3.2.2]
      · cases h
    · cases h
  · cases h

theorem find_born {es : List Ent} {ms : List MapEntry} (h : EntsR ρ es ms) (s : Int) : ms.findIdx? (fun e => (e.born : Int) == s) = es.findIdx? (fun e => (e.born : Int) == s) := by
  have hb : ms.map (·.born) = es.map (·.born) := by
    apply List.ext_getElem?
    intro i
    rw [List.getElem?_map, List.getElem?_map]
    cases he : es[i]? with
    | none =>
      have : ms[i]? = none := by
        rw [List.getElem?_eq_none_iff] at he ⊢
        rw [← h.1]
        exact he
      rw [this]
      rfl
    | some e =>
      have hi : i < ms.length := by rw [← h.1]; exact (List.getElem?_eq_some_iff.1 he).1
      have hm : ms[i]? = some ms[i] := List.getElem?_eq_getElem hi
      rw [hm]
      simp [(h.2 i e _ he hm).2.2]
  have e1 := List.findIdx?_map (f := fun e : MapEntry => e.born) (l := ms) (p := fun n : Nat => (n : Int) == s)
  have e2 := List.findIdx?_map (f := fun e : Ent => e.born) (l := es) (p := fun n : Nat => (n : Int) == s)
  rw [hb] at e1
  rw [e1] at e2
  exact e2

theorem entSet_sound (hr : Rel P ρ (getH H) w) {ty : TypeId} {m m' s s' v v' r : Value} (hm : Vr ρ m m') (hs : Vr ρ s s') (hv : Vr ρ v v')
    (h : entSet m s v H = some (r, H')) : ∃ w', (Instr.entryStore ty m' s' v').run P w = .ok () w' ∧ r = undef ∧ Step P ρ H w ρ H' w' := by
  unfold entSet at h
  split at h
  · rename_i b kk s
    obtain ⟨pl, hpl, rfl⟩ := map_inv hm
    have : s' = .int kk s := hs.eq_of_flat rfl
    subst this
    split at h
    · rename_i es c hb
      obtain ⟨ms, h1, h2, h3⟩ := map_blk hr hpl hb
      split at h
      · rename_i i hf
        split at h
        · rename_i e he
          injection h with h; injection h with g1 g2; subst g1; subst g2
          have hi : i < ms.length := by rw [← h3.1]; exact (List.getElem?_eq_some_iff.1 he).1
          have hm : ms[i]? = some ms[i] := List.getElem?_eq_getElem hi
          have hem := h3.2 i e _ he hm
          rw [← find_born h3] at hf
          refine ⟨_, ?_, rfl, map_step hr hpl hb h1 h2 (ents_set h3 hm (f := fun e => { e with val := v' }) ⟨hem.1, hv, hem.2.2⟩)⟩
          simp [Instr.entryStore, Go.MapKept.run_getObj_map h1, Go.MapKept.run_setObj_map _ h1, Result.andThen, putBlk, asInt, asIntOf, hf]
        · cases h
      · cases h
    · cases h
  · cases h

theorem mapDel_sound (hr : Rel P ρ (getH H) w) {ts : Array TypeId} {ty ty0 kt' et : TypeId} {kt : KeyT} (hts : ts[0]? = some ty) (hu : P.underlying ty = some (.map kt' et)) (hkt : keyT P kt' = some kt) {m m' k k' r : Value} (hm : Vr ρ m m') (hk : Vr ρ k k')
    (h : mapDel kt m k H = some (r, H')) : Runs P (Builtin.delete_ ts ty0 #[m', k']) w (Post P ρ H w r H') := by
  unfold mapDel at h
  split at h
  · rename_i hkk
    have e := (keyEq_key hkk).1.fix hk
    subst e
    split at h
    · rename_i b
      obtain ⟨pl, hpl, rfl⟩ := map_inv hm
      split at h
      · rename_i es c hb
        obtain ⟨ms, h1, h2, h3⟩ := map_blk hr hpl hb
        split at h
        · cases h
        · rename_i hf
          injection h with h; injection h with g1 g2; subst g1; subst g2
          obtain ⟨x', hx', hF⟩ := find_sound (w := w) hkt (keyEq_key hkk).1 h3 hf
          have : x' = none := hF
          subst this
          have hst := map_step (c' := c) hr hpl hb h1 h2 h3
          rw [setSame hb] at hst
          refine ⟨.tuple #[], _, ?_, ρ, .of_lit rfl, hst⟩
          simp [Builtin.delete_, hts, run_underlying hu, Go.MapKept.run_getObj_map h1, run_check hkt hkk, hx', Go.MapKept.run_setObj_map _ h1, Result.andThen, putBlk]
        · rename_i i e hf
          injection h with h; injection h with g1 g2; subst g1; subst g2
          obtain ⟨x', hx', mm, q1, q2, q3, rfl⟩ := find_sound (w := w) hkt (keyEq_key hkk).1 h3 hf
          have hi := (List.getElem?_eq_some_iff.1 q2).1
          refine ⟨.tuple #[], _, ?_, ρ, .of_lit rfl, map_step (ms' := ms.eraseIdx i) (c' := c) hr hpl hb h1 h2 (ents_erase h3 i)⟩
          simp [Builtin.delete_, hts, run_underlying hu, Go.MapKept.run_getObj_map h1, run_check hkt hkk, hx', Go.MapKept.run_setObj_map _ h1, Result.andThen, putBlk, Array.eraseIdxIfInBounds, hi]
      · cases h
    · cases h
  · cases h

theorem lenMp_sound (hr : Rel P ρ (getH H) w) {ts : Array TypeId} {ty ty0 kt' et : TypeId} (hts : ts[0]? = some ty) (hu : P.underlying ty = some (.map kt' et)) {m m' r : Value} (hm : Vr ρ m m')
    (h : lenMp m H = some (r, H')) : H' = H ∧ (Builtin.len_ ts ty0 #[m']).run P w = .ok r w ∧ flat r = true := by
  unfold lenMp at h
  split at h
  · injection h with h; injection h with g1 g2; subst g1; subst g2
    have : m' = .map none := by cases hm with | same _ => rfl
    subst this
    exact ⟨rfl, by simp [Builtin.len_, hts, run_underlying hu, goInt], rfl⟩
  · rename_i b
    obtain ⟨pl, hpl, rfl⟩ := map_inv hm
    split at h
    · rename_i es c hb
      injection h with h; injection h with g1 g2; subst g1; subst g2
      obtain ⟨ms, h1, h2, h3⟩ := map_blk hr hpl hb
      refine ⟨rfl, ?_, rfl⟩
      simp [Builtin.len_, hts, run_underlying hu, Go.MapKept.run_getObj_map h1, Result.andThen, goInt, h3.1]
    · cases h
  · cases h

theorem newM_sound (hr : Rel P ρ (getH H) w) (hf : ∀ b, H.length ≤ b → b < H'.length → ρ b = none) {ty : TypeId} {r : Value} (h : newM H = some (r, H')) : Runs P (Instr.makeMap ty none) w (Post P ρ H w r H') := by
  simp only [newM] at h; injection h with h; injection h with h1 h2; subst h1; subst h2
  have hfr : ρ H.length = none := hf _ (Nat.le_refl _) (by simp)
  refine ⟨.map (some w.heap.size), w.alloc (.map #[] 0), by simp [Instr.makeMap, Result.andThen], ρ.upd H.length ⟨w.heap.size, 0, none⟩, .map (Ren.upd_same _ _ ⟨w.heap.size, 0, none⟩), ?_⟩
  have hheap : (w.alloc (.map #[] 0)).heap = w.heap.push (.map #[] 0) := rfl
  refine Step.newB hr hfr (pl := ⟨w.heap.size, 0, none⟩) (x := .map [] 0) (Nat.le_refl _) (by rw [hheap]; simp) (by rw [hheap]; simp) (fun c hc => by rw [hheap, alloc_get, if_neg (by omega)]) ?_ (by simp) rfl rfl rfl
  exact ⟨#[], by rw [hheap, alloc_get]; simp, rfl, EntsR.nil _⟩
end
end Go.Abs
