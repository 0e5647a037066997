/-
  A REGION THAT DRAWS ITS ORDER: its text order stands for all of its orders.
-/
import Derived.Test.YtdobnaldfmpimaaAbsDraw1
set_option linter.unusedSimpArgs false
set_option linter.unusedVariables false
namespace Go.Abs

theorem Step.liftNew {P : Program} {W : Nat → Prop} {ρ ρ' : Ren} {G : Nat → Option Blk} {m : Nat} {x : Blk} {w w' : World} (hr : Rel P ρ G w)
    (h : Step P ρ (List.replicate m .dead) w ρ' (List.replicate m .dead ++ [x]) w') (hG : G m = some x) (hW : W m) : StepN P W (fun b => b = m) ρ G w ρ' G w' := by
  have nowr : ∀ b : Nat, wr (List.replicate m Blk.dead)[b]? = false := by
    intro b
    rw [List.getElem?_replicate]
    split <;> rfl
  have old : ∀ b p, b ≠ m → ρ' b = some p → ρ b = some p := by
    intro b p hne hp
    cases hρ : ρ b with
    | some p0 => have := h.le b p0 hρ; rw [hp] at this; exact this.symm ▸ rfl
    | none =>
      rcases h.new b (by rw [hp]; simp) with h1 | ⟨h1, h2⟩
      · exact absurd hρ h1
      · simp at h1 h2; omega
  have same : ∀ c, c < w.heap.size → w'.heap[c]? = w.heap[c]? := fun c hc => h.frame c hc fun b p _ hw => by rw [nowr] at hw; cases hw
  have hfree : ρ m = none := h.free m (by simp) (by simp)
  have new : ∀ p, ρ' m = some p → w.heap.size ≤ p.c := by
    intro p hp
    rcases h.fresh m p hfree hp with h1 | ⟨b0, p0, _, h4, _⟩
    · exact h1
    · rw [nowr] at h4; cases h4
  refine ⟨⟨h.rel.lt, ?_, ?_⟩, h.le, ?_, ?_, h.size, fun c hc _ => same c hc, fun _ _ _ => rfl, fun _ _ h => h, fun _ _ h => h, ?_, h.os, h.tape, h.output⟩
  · intro b p y hp hy
    by_cases hb : b = m
    · subst hb
      rw [hG] at hy; injection hy with hy; subst hy
      exact h.rel.blk b p x hp (by simp [getH])
    · have hρ := old b p hb hp
      rw [same _ (hr.lt b p hρ)]
      exact (hr.blk b p y hρ hy).mono h.le
  · intro b1 b2 p1 p2 hne h1 h2 hw hd
    by_cases e1 : b1 = m
    · have e2 : b2 ≠ m := fun e => hne (e1.trans e.symm)
      subst e1
      have := new p1 h1
      have := hr.lt b2 p2 (old b2 p2 e2 h2)
      omega
    · by_cases e2 : b2 = m
      · subst e2
        have := new p2 h2
        have := hr.lt b1 p1 (old b1 p1 e1 h1)
        omega
      · exact hr.sep b1 b2 p1 p2 hne (old b1 p1 e1 h1) (old b2 p2 e2 h2) hw hd
  · rintro b rfl; exact hW
  · intro b hb
    rcases h.new b hb with h1 | ⟨h1, h2⟩
    · exact .inl h1
    · right; simp at h1 h2; omega
  · intro b p hn hp
    by_cases hb : b = m
    · subst hb; exact .inl (new p hp)
    · rw [old b p hb hp] at hn; cases hn

theorem rel_dead {P : Program} {ρ : Ren} {G : Nat → Option Blk} {w : World} (h : Rel P ρ G w) (m : Nat) : Rel P ρ (getH (List.replicate m .dead)) w := by
  have nowr : ∀ b : Nat, (List.replicate m Blk.dead)[b]? = none ∨ (List.replicate m Blk.dead)[b]? = some .dead := by
    intro b
    rw [List.getElem?_replicate]
    split <;> simp
  refine ⟨h.lt, fun b p x hp hx => ?_, fun b1 b2 p1 p2 _ _ _ hw _ => ?_⟩
  · rcases nowr b with e | e <;> simp only [getH] at hx <;> rw [e] at hx <;> cases hx
    trivial
  · rcases nowr b1 with e | e <;> simp only [getH] at hw <;> rw [e] at hw <;> simp [wr] at hw

theorem exists_last (p : Nat → Prop) : ∀ n, (∃ j, j < n ∧ p j) → ∃ j, j < n ∧ p j ∧ ∀ j', j < j' → j' < n → ¬ p j'
  | 0, ⟨j, h, _⟩ => by omega
  | n + 1, ⟨j, h, hp⟩ => by
    by_cases hn : p n
    · exact ⟨n, by omega, hn, fun j' h1 h2 => by omega⟩
    · have : j < n := by
        rcases Nat.lt_or_ge j n with h1 | h1
        · exact h1
        · have : j = n := by omega
          subst this; exact absurd hp hn
      obtain ⟨j0, h1, h2, h3⟩ := exists_last p n ⟨j, this, hp⟩
      refine ⟨j0, by omega, h2, fun j' h4 h5 => ?_⟩
      rcases Nat.lt_or_ge j' n with h6 | h6
      · exact h3 j' h4 h6
      · have : j' = n := by omega
        subst this; exact hn

theorem exists_first (p : Nat → Prop) : ∀ (d i n : Nat), n - i = d → i ≤ n → ∃ q, i ≤ q ∧ q ≤ n ∧ (q = n ∨ p q) ∧ ∀ j, i ≤ j → j < q → ¬ p j
  | 0, i, n, hd, hi => ⟨n, by omega, Nat.le_refl _, .inl rfl, fun j h1 h2 => by omega⟩
  | d + 1, i, n, hd, hi => by
    by_cases h : p i
    · exact ⟨i, Nat.le_refl _, hi, .inr h, fun j h1 h2 => by omega⟩
    · obtain ⟨q, h1, h2, h3, h4⟩ := exists_first p d (i + 1) n (by omega) (by omega)
      refine ⟨q, by omega, h2, h3, fun j h5 h6 => ?_⟩
      rcases Nat.lt_or_ge i j with h7 | h7
      · exact h4 j (by omega) h6
      · have : j = i := by omega
        subst this; exact h

section
variable {P : Program} {ρ : Ren} {H : Heap} {w : World}

set_option maxHeartbeats 8000000 in
theorem draw_sound {O : Oracle} (hO : OSound P O) (hM : MonoO O) (ops : Array Oper) {r : Value × Heap} {k : K (Value × Heap)} (hk : MonoK k r) {Q : Exit → Act → World → Prop} {t : List Value} {a : Act}
    (hok : drawOk ops.toList t.length = true) (h : runDraw P O ops.toList (masks ops.toList) ops.toList 0 [] [] k t H = some r) (hr : Rel P ρ (getH H) w) (ht : Vrs ρ t a.tmps.toList) (hd : a.defers = [])
    (hf : Free ρ H r) (hq : KGood P ρ H w r k (Q .normal)) : wpAny P .any ops Q ops.size (Array.replicate ops.size false) a w := by
  obtain ⟨T, HH, V, tr, hkn⟩ := trace_of ops.toList 0 [] [] t H h
  clear h
  generalize hL : ops.toList = L at *
  have hn : ops.size = L.length := by rw [← hL]; simp
  have hget : ∀ i : Nat, ops[i]? = L[i]? := by intro i; rw [arr_get, hL]
  -- what the check says
  have okAll : ∀ (i : Nat) (o : Oper), L[i]? = some o → (∀ e ∈ o.after.toList, Region.binds .any e = true → e.on < i) ∧ (∀ d, o.dst = some d → d < t.length) ∧
      ∀ (j : Nat) (o' : Oper), L[j]? = some o' → i ≠ j → (isEff o.op = true → isEff o'.op = true → ordered (masks L) i j = true) ∧ (∀ d, o'.dst = some d → (d ∈ looks L o ∨ o.dst = some d) → ordered (masks L) i j = true) := by
    intro i o hi
    simp only [drawOk, List.all_eq_true] at hok
    have h1 := hok (o, i) (List.mk_mem_zipIdx_iff_getElem?.2 hi)
    simp only [Bool.and_eq_true, List.all_eq_true] at h1
    obtain ⟨⟨h1, h2⟩, h3⟩ := h1
    refine ⟨fun e he hb => ?_, fun d hd => ?_, fun j o' hj hne => ?_⟩
    · have := h1 e he
      simpa [hb] using this
    · rw [hd] at h2; simpa using h2
    · have := h3 (o', j) (List.mk_mem_zipIdx_iff_getElem?.2 hj)
      simp only [Bool.or_eq_true, beq_iff_eq, Bool.and_eq_true] at this
      rcases this with this | ⟨h4, h5⟩
      · exact absurd this hne
      · refine ⟨fun e1 e2 => ?_, fun d hd hdl => ?_⟩
        · simpa [e1, e2] using h4
        · rw [hd] at h5
          simp only [Bool.or_eq_true, Bool.and_eq_true, Bool.not_eq_true', bne_iff_ne, ne_eq] at h5
          rcases h5 with ⟨h6, h7⟩ | h6
          · rcases hdl with h8 | h8
            · exfalso; simp at h6; exact h6 h8
            · exact absurd h8 h7
          · exact h6
  have lenT : ∀ i, i ≤ L.length → (T i).length = t.length := by
    intro i
    induction i with
    | zero => intro _; rw [tr.t0]
    | succ i ih =>
      intro hi
      have hi' : L[i]? = some L[i] := by simp [show i < L.length by omega]
      rw [(tr.st i _ hi').2]
      cases (L[i]).dst <;> simp [putT, ih (by omega)]
  have lenStep : ∀ (i : Nat) (o : Oper), L[i]? = some o → (HH i).length ≤ (HH (i + 1)).length := fun i o hi => mono_step P hM _ _ _ _ _ _ (tr.st i o hi).1
  have lenMono : ∀ d i, i + d ≤ L.length → (HH i).length ≤ (HH (i + d)).length := by
    intro d
    induction d with
    | zero => intro i _; exact Nat.le_refl _
    | succ d ih =>
      intro i hi
      exact Nat.le_trans (ih i (by omega)) (lenStep (i + d) _ (show L[i + d]? = some L[i + d] by simp [show i + d < L.length by omega]))
  have lenLe : ∀ i j, i ≤ j → j ≤ L.length → (HH i).length ≤ (HH j).length := fun i j h1 h2 => by
    have := lenMono (j - i) i (by omega); rwa [show i + (j - i) = j by omega] at this
  -- whose is a block?
  have inter : ∀ i j b, i < L.length → j < L.length → (HH i).length ≤ b → b < (HH (i + 1)).length → (HH j).length ≤ b → b < (HH (j + 1)).length → i = j := by
    intro i j b hi hj h1 h2 h3 h4
    rcases Nat.lt_trichotomy i j with hlt | heq | hgt
    · have := lenLe (i + 1) j (by omega) (by omega); omega
    · exact heq
    · have := lenLe (j + 1) i (by omega) (by omega); omega
  let Own : Nat → Nat → Prop := fun b i => ∃ o, L[i]? = some o ∧ isNew o.op = true ∧ (HH i).length = b ∧ (HH (i + 1)).length = b + 1
  have ownU : ∀ b i j, Own b i → Own b j → i = j := by
    rintro b i j ⟨o, h1, _, h2, h3⟩ ⟨o', h4, _, h5, h6⟩
    exact inter i j b (List.getElem?_eq_some_iff.1 h1).1 (List.getElem?_eq_some_iff.1 h4).1 (by omega) (by omega) (by omega) (by omega)
  classical
  let ini : Nat → Option Blk := fun b => if hb : ∃ i, Own b i then (HH (Classical.choose hb + 1))[b]? else none
  have iniOwn : ∀ b i, Own b i → ini b = (HH (i + 1))[b]? := by
    intro b i hi
    have hb : ∃ i, Own b i := ⟨i, hi⟩
    show (if hb : ∃ i, Own b i then (HH (Classical.choose hb + 1))[b]? else none) = _
    rw [dif_pos hb, ownU b _ i (Classical.choose_spec hb) hi]
  have iniSome : ∀ b x, ini b = some x → ∃ i, Own b i ∧ (HH (i + 1))[b]? = some x := by
    intro b x hx
    by_cases hb : ∃ i, Own b i
    · obtain ⟨i, hi⟩ := hb
      exact ⟨i, hi, by rw [← iniOwn b i hi]; exact hx⟩
    · have : ini b = none := dif_neg hb
      rw [this] at hx; cases hx
  -- what is no effect: nothing turns, or a block is made
  have noEff : ∀ (i : Nat) (o : Oper), L[i]? = some o → isEff o.op = false → HH (i + 1) = HH i ∨ ∃ x : Blk, wr (some x) = true ∧ HH (i + 1) = HH i ++ [x] ∧ isNew o.op = true := by
    intro i o hi he
    have hst := (tr.st i o hi).1
    cases hn' : isNew o.op with
    | false => exact .inl (ps_step P O L (T i) o he hn' _ _ _ hst).1
    | true =>
      rcases pn_step P O L (T i) o hn' _ _ _ hst with ⟨xb, h1, h2, _⟩ | ⟨h1, _⟩
      · exact .inr ⟨xb, h1, h2, rfl⟩
      · exact .inl h1
  have iniOk : IniOk ini := by
    intro b x hx
    obtain ⟨i, ⟨o, h1, h2, h3, h4⟩, h5⟩ := iniSome b x hx
    rcases noEff i o h1 (new_not_eff h2) with h6 | ⟨xb, h6, h7, _⟩
    · rw [h6] at h4; omega
    · rw [h7, ← h3] at h5
      have : xb = x := by simpa using h5
      rw [← this]
      exact h6
  have ext1 : ∀ (i : Nat) (o : Oper), L[i]? = some o → isEff o.op = false → onTop ini (HH (i + 1)) = onTop ini (HH i) := by
    intro i o hi he
    rcases noEff i o hi he with h1 | ⟨xb, h1, h2, h3⟩
    · rw [h1]
    · have hown : Own (HH i).length i := ⟨o, hi, h3, rfl, by rw [h2]; simp⟩
      funext b
      by_cases hb : b < (HH i).length
      · rw [onTop_lt hb, onTop_lt (by rw [h2]; simp; omega), h2, List.getElem?_append_left hb]
      · by_cases hb2 : b = (HH i).length
        · rw [onTop_ge hb, onTop_lt (by rw [h2, hb2]; simp), hb2, iniOwn _ i hown]
        · rw [onTop_ge hb, onTop_ge (by rw [h2]; simp; omega)]
  have extR : ∀ d i, i + d ≤ L.length → (∀ j o, i ≤ j → j < i + d → L[j]? = some o → isEff o.op = false) → onTop ini (HH (i + d)) = onTop ini (HH i) := by
    intro d
    induction d with
    | zero => intro i _ _; rfl
    | succ d ih =>
      intro i hi hno
      have hg : L[i + d]? = some L[i + d] := by simp [show i + d < L.length by omega]
      rw [← ih i (by omega) (fun j o h1 h2 h3 => hno j o h1 (by omega) h3)]
      exact ext1 (i + d) _ hg (hno (i + d) _ (by omega) (by omega) hg)
  have ext : ∀ i j, i ≤ j → j ≤ L.length → (∀ m o, i ≤ m → m < j → L[m]? = some o → isEff o.op = false) → onTop ini (HH j) = onTop ini (HH i) := by
    intro i j h1 h2 h3
    have := extR (j - i) i (by omega) (fun m o h4 h5 h6 => h3 m o h4 (by omega) h6)
    rwa [show i + (j - i) = j by omega] at this
  have extGet : ∀ i j, i ≤ j → j ≤ L.length → (∀ m o, i ≤ m → m < j → L[m]? = some o → isEff o.op = false) → ∀ (b : Nat) (x : Blk), (HH i)[b]? = some x → (HH j)[b]? = some x := by
    intro i j h1 h2 h3 b x hx
    have hlt := lt_of_ne_none hx
    have := congrFun (ext i j h1 h2 h3) b
    rw [onTop_lt hlt, onTop_lt (Nat.lt_of_lt_of_le hlt (lenLe i j h1 h2))] at this
    rw [this]; exact hx
  have hnL : (HH L.length).length ≤ r.2.length := hk _ _ hkn
  let W : Nat → Prop := fun b => H.length ≤ b ∧ b < (HH L.length).length
  have hW : ∀ b, W b → ρ b = none := fun b hb => hf b hb.1 (Nat.lt_of_lt_of_le hb.2 hnL)
  have hWi : ∀ i, i < L.length → ∀ b, (HH i).length ≤ b → b < (HH (i + 1)).length → W b := by
    intro i hi b h1 h2
    have h3 := lenLe 0 i (by omega) (by omega)
    rw [tr.h0] at h3
    exact ⟨by omega, Nat.lt_of_lt_of_le h2 (lenLe (i + 1) L.length (by omega) (Nat.le_refl _))⟩
  -- what the slots hold
  have TC : ∀ i, i ≤ L.length → ∀ s, ((∀ j o, j < i → L[j]? = some o → o.dst ≠ some s) → (T i).getD s undef = t.getD s undef) ∧
      (∀ j o, j < i → L[j]? = some o → o.dst = some s → (∀ j' o', j < j' → j' < i → L[j']? = some o' → o'.dst ≠ some s) → (T i).getD s undef = V j) := by
    intro i
    induction i with
    | zero => intro _ s; exact ⟨fun _ => by rw [tr.t0], fun j o hj => by omega⟩
    | succ i ih =>
      intro hi s
      have hg : L[i]? = some L[i] := by simp [show i < L.length by omega]
      have hput := (tr.st i _ hg).2
      obtain ⟨ih1, ih2⟩ := ih (by omega) s
      have hlen := lenT i (by omega)
      have putNe : (L[i]).dst ≠ some s → (T (i + 1)).getD s undef = (T i).getD s undef := by
        intro hne
        rw [hput]
        cases hdst : (L[i]).dst with
        | none => rfl
        | some d =>
          have : d ≠ s := fun e => hne (by rw [hdst, e])
          simp [putT, List.getD_eq_getElem?_getD, List.getElem?_set_ne this]
      have putEq : (L[i]).dst = some s → (T (i + 1)).getD s undef = V i := by
        intro he
        rw [hput, he]
        have := (okAll i _ hg).2.1 s he
        simp [putT, List.getD_eq_getElem?_getD, hlen, this]
      refine ⟨fun hno => ?_, fun j o hj hjo hjd hno => ?_⟩
      · rw [putNe (hno i _ (by omega) hg)]
        exact ih1 fun j o h1 h2 => hno j o (by omega) h2
      · rcases Nat.lt_or_ge j i with h1 | h1
        · rw [putNe (hno i _ h1 (by omega) hg)]
          exact ih2 j o h1 hjo hjd fun j' o' h2 h3 h4 => hno j' o' h2 (by omega) h4
        · have : j = i := by omega
          subst this
          rw [hg] at hjo; injection hjo with e
          exact putEq (by rw [e]; exact hjd)
  -- the invariant
  let S : Array Bool → Nat → Prop := fun listed i => listed.getD i false = true
  have main : ∀ (fuel : Nat) (l : List Nat) (listed : Array Bool) (a : Act) (w' : World) (ρ' : Ren) (p : Nat) (N : Nat → Prop),
      listed.size = L.length → (∀ i, i < L.length → S listed i ∨ i ∈ l) → l.length ≤ fuel →
      (∀ i, S listed i → ∀ j, ((masks L).getD i 0).testBit j = true → S listed j) →
      p ≤ L.length → (p = L.length ∨ ∃ o, L[p]? = some o ∧ isEff o.op = true) → (∀ i o, L[i]? = some o → isEff o.op = true → (S listed i ↔ i < p)) →
      StepN P W N ρ (getH H) w ρ' (onTop ini (HH p)) w' → (∀ b, N b → ∃ i, i < L.length ∧ S listed i ∧ (HH i).length ≤ b ∧ b < (HH (i + 1)).length) →
      (∀ b x, ini b = some x → ρ' b = none → onTop ini (HH p) b = some x) →
      a.defers = [] → a.tmps.size = t.length →
      (∀ s, (∀ j o, L[j]? = some o → o.dst = some s → ¬ S listed j) → Vr ρ' (t.getD s undef) (a.tmps.getD s undef)) →
      (∀ s j o, L[j]? = some o → o.dst = some s → S listed j → (∀ j' o', j < j' → L[j']? = some o' → o'.dst = some s → ¬ S listed j') → Vr ρ' (V j) (a.tmps.getD s undef)) →
      wpAny P .any ops Q fuel listed a w' := by
    intro fuel
    have readyI : ∀ (listed : Array Bool) (i : Nat), i ∈ Region.ready .any ops listed ↔ (i < L.length ∧ listed.getD i true = false ∧ ∃ o, L[i]? = some o ∧ ∀ e ∈ o.after.toList, Region.binds .any e = true → listed.getD e.on false = true) := by
      intro listed i
      simp only [Region.ready, List.mem_filter, List.mem_range, hn, Bool.and_eq_true, Bool.not_eq_true', hget]
      constructor
      · rintro ⟨h1, h2, h3⟩
        cases hi : L[i]? with
        | none => rw [hi] at h3; simp at h3
        | some o =>
          rw [hi] at h3
          simp only [Option.map_some, Option.getD_some] at h3
          refine ⟨h1, h2, o, rfl, fun e he hb => ?_⟩
          have := Array.all_eq_true'.1 h3 e (by simpa using he)
          simpa [hb] using this
      · rintro ⟨h1, h2, o, hi, h3⟩
        refine ⟨h1, h2, ?_⟩
        rw [hi]
        simp only [Option.map_some, Option.getD_some]
        refine Array.all_eq_true'.2 fun e he => ?_
        cases hb : Region.binds .any e with
        | false => simp
        | true => simpa using h3 e (by simpa using he) hb
    -- nothing is ready: all have run
    have allDone : ∀ (listed : Array Bool), listed.size = L.length → Region.ready .any ops listed = [] → ∀ i, i < L.length → S listed i := by
      intro listed hsz hrd i
      induction i using Nat.strongRecOn with
      | _ i ih =>
        intro hi
        by_cases hs : S listed i
        · exact hs
        · exfalso
          have hg : L[i]? = some L[i] := by simp [hi]
          have : i ∈ Region.ready .any ops listed := by
            rw [readyI]
            refine ⟨hi, ?_, _, hg, fun e he hb => ?_⟩
            · simp only [S] at hs
              have hi' : i < listed.size := by omega
              simp only [Array.getD_eq_getD_getElem?, Array.getElem?_eq_getElem hi', Option.getD_some] at hs ⊢
              simpa using hs
            · exact ih e.on ((okAll i _ hg).1 e he hb) (by have := (okAll i _ hg).1 e he hb; omega)
          rw [hrd] at this; cases this
    have fin : ∀ (listed : Array Bool) (a : Act) (w' : World) (ρ' : Ren) (p : Nat) (N : Nat → Prop), (∀ i, i < L.length → S listed i) → p ≤ L.length → (p = L.length ∨ ∃ o, L[p]? = some o ∧ isEff o.op = true) → (∀ i o, L[i]? = some o → isEff o.op = true → (S listed i ↔ i < p)) →
        StepN P W N ρ (getH H) w ρ' (onTop ini (HH p)) w' → a.defers = [] → a.tmps.size = t.length →
        (∀ s, (∀ j o, L[j]? = some o → o.dst = some s → ¬ S listed j) → Vr ρ' (t.getD s undef) (a.tmps.getD s undef)) →
        (∀ s j o, L[j]? = some o → o.dst = some s → S listed j → (∀ j' o', j < j' → L[j']? = some o' → o'.dst = some s → ¬ S listed j') → Vr ρ' (V j) (a.tmps.getD s undef)) → Q .normal a w' := by
      intro listed a w' ρ' p N hall hp hpe heff hst hdf hasz ht1 ht2
      have hpn : p = L.length := by
        rcases hpe with h1 | ⟨o, h1, h2⟩
        · exact h1
        · exfalso
          have := (heff p o h1 h2).1 (hall p (List.getElem?_eq_some_iff.1 h1).1)
          omega
      subst hpn
      have hG : onTop ini (HH L.length) = getH (HH L.length) := by
        funext b
        by_cases hb : b < (HH L.length).length
        · rw [onTop_lt hb]
        · rw [onTop_ge hb]
          simp only [getH]
          rw [List.getElem?_eq_none (by omega)]
          cases hi : ini b with
          | none => rfl
          | some x =>
            obtain ⟨i, ⟨o, h1, h2, h3, h4⟩, _⟩ := iniSome b x hi
            have := lenLe (i + 1) L.length (by have := (List.getElem?_eq_some_iff.1 h1).1; omega) (Nat.le_refl _)
            omega
      rw [hG] at hst
      have h0n := lenLe 0 L.length (by omega) (Nat.le_refl _)
      rw [tr.h0] at h0n
      refine hq ρ' (T L.length) (HH L.length) w' a hkn ⟨hst.rel, hst.le, fun b hb => ?_, h0n, fun b h1 h2 => hW b ⟨h1, h2⟩, hst.size, hst.frame, fun b hb hn => hst.un b (fun h1 => by have := h1.1; omega) hn,
        fun b hb => hst.dead b (fun h1 => by have := h1.1; have := lt_of_ne_none hb; omega) hb, fun b hb hw => hst.kd b (fun h1 => by have := h1.1; omega) hw, hst.fresh, hst.os, hst.tape, hst.output⟩ ?_ hdf
      · rcases hst.new b hb with h1 | h1
        · exact .inl h1
        · exact .inr (hst.sub b h1)
      · refine ⟨by rw [lenT _ (Nat.le_refl _)]; simpa using hasz.symm, fun s u v hu hv => ?_⟩
        have hu' : (T L.length).getD s undef = u := by rw [List.getD_eq_getElem?_getD, hu]; rfl
        have hv' : a.tmps.getD s undef = v := by
          rw [Array.getElem?_toList] at hv
          rw [Array.getD_eq_getD_getElem?, hv]; rfl
        rw [← hu', ← hv']
        obtain ⟨c1, c2⟩ := TC L.length (Nat.le_refl _) s
        by_cases hex : ∃ j, j < L.length ∧ ∃ o, L[j]? = some o ∧ o.dst = some s
        · obtain ⟨j, h1, ⟨o, h2, h3⟩, h4⟩ := exists_last _ _ hex
          rw [c2 j o h1 h2 h3 fun j' o' h5 h6 h7 h8 => h4 j' h5 h6 ⟨o', h7, h8⟩]
          exact ht2 s j o h2 h3 (hall j h1) fun j' o' h5 h6 h7 _ => h4 j' h5 (List.getElem?_eq_some_iff.1 h6).1 ⟨o', h6, h7⟩
        · rw [c1 fun j o h1 h2 h3 => hex ⟨j, h1, o, h2, h3⟩]
          exact ht1 s fun j o h1 h2 _ => hex ⟨j, (List.getElem?_eq_some_iff.1 h1).1, o, h1, h2⟩
    induction fuel with
    | zero =>
      intro l listed a w' ρ' p N hsz hcov hl hdc hp hpe heff hst hN hpd hdf hasz ht1 ht2
      have hl0 : l = [] := by cases l <;> simp_all
      subst hl0
      have hall : ∀ i, i < L.length → S listed i := fun i hi => (hcov i hi).resolve_right (by simp)
      refine ⟨?_, fin listed a w' ρ' p N hall hp hpe heff hst hdf hasz ht1 ht2⟩
      cases hrd : Region.ready .any ops listed with
      | nil => rfl
      | cons i rest =>
        exfalso
        have : i ∈ Region.ready .any ops listed := by rw [hrd]; simp
        rw [readyI] at this
        obtain ⟨h1, h2, _⟩ := this
        have h3 := hall i h1
        simp only [S] at h3
        have hi' : i < listed.size := by omega
        simp only [Array.getD_eq_getD_getElem?, Array.getElem?_eq_getElem hi', Option.getD_some] at h2 h3
        rw [h2] at h3; cases h3
    | succ fuel ih =>
      intro l listed a w' ρ' p N hsz hcov hl hdc hp hpe heff hst hN hpd hdf hasz ht1 ht2
      refine ⟨fun hrd => fin listed a w' ρ' p N (allDone listed hsz hrd) hp hpe heff hst hdf hasz ht1 ht2, fun i hi => ?_⟩
      rw [readyI] at hi
      obtain ⟨hiL, hil, o, hio, hie⟩ := hi
      have hiS : ¬ S listed i := by
        intro h3
        simp only [S] at h3
        have hi' : i < listed.size := by omega
        simp only [Array.getD_eq_getD_getElem?, Array.getElem?_eq_getElem hi', Option.getD_some] at hil h3
        rw [hil] at h3; cases h3
      obtain ⟨ok1, ok2, ok3⟩ := okAll i o hio
      -- all that comes ahead of it has run
      have hpre : ∀ j, ((masks L).getD i 0).testBit j = true → S listed j := by
        intro j hj
        obtain ⟨e, he, hb, hj'⟩ := masks_testBit hio ok1 j hj
        have hS := hie e he hb
        rcases hj' with rfl | hj'
        · exact hS
        · exact hdc e.on hS j hj'
      have hnot : ∀ j, S listed j → ((masks L).getD j 0).testBit i = true → False := fun j hj hb => hiS (hdc j hj i hb)
      -- the slots that it looks at
      have hlook : Looked ρ' (T i) a (looks L o) := by
        intro s hs
        obtain ⟨c1, c2⟩ := TC i (by omega) s
        have ordW : ∀ j o', L[j]? = some o' → o'.dst = some s → j ≠ i → ordered (masks L) i j = true := fun j o' h1 h2 h3 => (ok3 j o' h1 (Ne.symm h3)).2 s h2 (.inl hs)
        have later : ∀ j o', L[j]? = some o' → o'.dst = some s → i < j → ¬ S listed j := by
          intro j o' h1 h2 h3 h4
          have := ordW j o' h1 h2 (by omega)
          rw [ordered, if_neg (by omega)] at this
          exact hnot j h4 this
        have earlier : ∀ j o', L[j]? = some o' → o'.dst = some s → j < i → S listed j := by
          intro j o' h1 h2 h3
          have := ordW j o' h1 h2 (by omega)
          rw [ordered, if_pos h3] at this
          exact hpre j this
        by_cases hex : ∃ j, j < i ∧ ∃ o', L[j]? = some o' ∧ o'.dst = some s
        · obtain ⟨j, h1, ⟨o', h2, h3⟩, h4⟩ := exists_last _ _ hex
          rw [c2 j o' h1 h2 h3 fun j' o'' h5 h6 h7 h8 => h4 j' h5 h6 ⟨o'', h7, h8⟩]
          refine ht2 s j o' h2 h3 (earlier j o' h2 h3 h1) fun j' o'' h5 h6 h7 h8 => ?_
          rcases Nat.lt_trichotomy j' i with h9 | h9 | h9
          · exact h4 j' h5 h9 ⟨o'', h6, h7⟩
          · subst h9; exact hiS h8
          · exact later j' o'' h6 h7 h9 h8
        · rw [c1 fun j o' h1 h2 h3 => hex ⟨j, h1, o', h2, h3⟩]
          refine ht1 s fun j o' h1 h2 h3 => ?_
          rcases Nat.lt_trichotomy j i with h9 | h9 | h9
          · exact hex ⟨j, h9, o', h1, h2⟩
          · subst h9; exact hiS h3
          · exact later j o' h1 h2 h9 h3
      have hFR : ∀ b, (HH i).length ≤ b → b < (HH (i + 1)).length → ρ' b = none := by
        intro b h1 h2
        cases hb : ρ' b with
        | none => rfl
        | some pl =>
          exfalso
          rcases hst.new b (by rw [hb]; simp) with h3 | h3
          · exact h3 (hW b (hWi i hiL b h1 h2))
          · obtain ⟨i', h4, h5, h6, h7⟩ := hN b h3
            have := inter i i' b hiL h4 h1 h2 h6 h7
            subst this; exact hiS h5
      -- what is left to do, for each way
      have S' : ∀ j, S (listed.setIfInBounds i true) j ↔ (S listed j ∨ j = i) := by
        intro j
        simp only [S, Array.getD_eq_getD_getElem?, Array.getElem?_setIfInBounds]
        by_cases hj : i = j
        · subst hj; simp [show i < listed.size by omega]
        · simp [hj, Ne.symm hj]
      have next : ∀ (v' : Value) (w'' : World) (ρ'' : Ren) (p' : Nat) (N2 : Nat → Prop), Vr ρ'' (V i) v' → p' ≤ L.length → (p' = L.length ∨ ∃ o, L[p']? = some o ∧ isEff o.op = true) →
          (∀ j o', L[j]? = some o' → isEff o'.op = true → ((S listed j ∨ j = i) ↔ j < p')) → StepN P W N2 ρ' (onTop ini (HH p)) w' ρ'' (onTop ini (HH p')) w'' → (∀ b, N2 b → (HH i).length ≤ b ∧ b < (HH (i + 1)).length) →
          (∀ b x, ini b = some x → ρ'' b = none → onTop ini (HH p) b = some x → onTop ini (HH p') b = some x) →
          wpAny P .any ops Q fuel (listed.setIfInBounds i true) (a.put o.dst v') w'' := by
        intro v' w'' ρ'' p' N2 hv hp' hpe' heff' hst2 hN2 hpd2
        have kd2 : ∀ b pl, ρ b = some pl → wr (onTop ini (HH p) b) = true → wr (getH H b) = true := fun b pl hb hw => hst.kd b (fun hWb => by rw [hW b hWb] at hb; cases hb) hw
        refine ih (l.erase i) _ _ w'' ρ'' p' _ (by simpa using hsz) ?_ ?_ ?_ hp' hpe' ?_ (hst.trans hW hst2 kd2) ?_ ?_ (by rw [put_defers]; exact hdf) ?_ ?_ ?_
        · intro j hj
          rw [S']
          by_cases hji : j = i
          · exact .inl (.inr hji)
          · rcases hcov j hj with h1 | h1
            · exact .inl (.inl h1)
            · exact .inr ((List.mem_erase_of_ne hji).2 h1)
        · have : i ∈ l := (hcov i hiL).resolve_left hiS
          rw [List.length_erase_of_mem this]; omega
        · intro j hj m hm
          rw [S'] at hj ⊢
          rcases hj with hj | rfl
          · exact .inl (hdc j hj m hm)
          · exact .inl (hpre m hm)
        · intro j o' h1 h2
          rw [S']; exact heff' j o' h1 h2
        · intro b hb
          rcases hb with hb | hb
          · obtain ⟨j, h1, h2, h3⟩ := hN b hb
            exact ⟨j, h1, (S' j).2 (.inl h2), h3⟩
          · obtain ⟨h1, h2⟩ := hN2 b hb
            exact ⟨i, hiL, (S' i).2 (.inr rfl), h1, h2⟩
        · intro b x hx hb
          refine hpd2 b x hx hb (hpd b x hx ?_)
          cases hρ : ρ' b with
          | none => rfl
          | some pl => rw [hst2.le b pl hρ] at hb; cases hb
        · cases o.dst <;> simp [Act.put, hasz]
        · intro s hno
          have hne : o.dst ≠ some s := fun e => hno i o hio e ((S' i).2 (.inr rfl))
          have : (a.put o.dst v').tmps.getD s undef = a.tmps.getD s undef := by
            cases hdst : o.dst with
            | none => rfl
            | some d =>
              have : d ≠ s := fun e => hne (by rw [hdst, e])
              simp [Act.put, Array.getD_eq_getD_getElem?, Array.getElem?_setIfInBounds_ne this]
          rw [this]
          exact (ht1 s fun j o' h1 h2 h3 => hno j o' h1 h2 ((S' j).2 (.inl h3))).mono hst2.le
        · intro s j o' hj hjd hjS hno
          rw [S'] at hjS
          by_cases hd : o.dst = some s
          · -- it is itself the last one
            have hji : j = i := by
              rcases hjS with hjS | hjS
              · exfalso
                have hne : j ≠ i := fun e => hiS (e ▸ hjS)
                have hord := (ok3 j o' hj (Ne.symm hne)).2 s hjd (.inr hd)
                rcases Nat.lt_or_ge j i with h1 | h1
                · exact hno i o h1 hio hd ((S' i).2 (.inr rfl))
                · rw [ordered, if_neg (by omega)] at hord
                  exact hnot j hjS hord
              · exact hjS
            subst hji
            have : (a.put o.dst v').tmps.getD s undef = v' := by
              have hs := ok2 s hd
              rw [hd]
              simp [Act.put, Array.getD_eq_getD_getElem?, hasz, hs]
            rw [this]; exact hv
          · have : (a.put o.dst v').tmps.getD s undef = a.tmps.getD s undef := by
              cases hdst : o.dst with
              | none => rfl
              | some d =>
                have : d ≠ s := fun e => hd (by rw [hdst, e])
                simp [Act.put, Array.getD_eq_getD_getElem?, Array.getElem?_setIfInBounds_ne this]
            rw [this]
            have hjS' : S listed j := by
              rcases hjS with h1 | rfl
              · exact h1
              · rw [hio] at hj; injection hj with e; subst e; exact absurd hjd hd
            exact (ht2 s j o' hj hjd hjS' fun j' o'' h1 h2 h3 h4 => hno j' o'' h1 h2 h3 ((S' j').2 (.inl h4))).mono hst2.le
      have hrelC : Rel P ρ' (getH (HH p)) w' := hst.rel.down iniOk
      have hio' : ops[i]? = some o := by rw [hget]; exact hio
      have hop : ∀ {H1 H2 : Heap} {v : Value}, Rel P ρ' (getH H1) w' → (∀ b, H1.length ≤ b → b < H2.length → ρ' b = none) → step P O L (T i) o H1 = some (v, H2) →
          (∀ v' w'', Post P ρ' H1 w' v H2 v' w'' → wpAny P .any ops Q fuel (listed.setIfInBounds i true) (a.put o.dst v') w'') → wpOp P ops Q i (wpAny P .any ops Q fuel (listed.setIfInBounds i true)) a w' := by
        intro H1 H2 v hrel hfr hstp hK
        unfold wpOp
        rw [hio']
        rw [← hL] at hlook hstp
        exact step_op hO hrel hlook hfr hstp hK
      have hsti := (tr.st i o hio).1
      -- no effect, on the heap as it stands
      have quiet : isEff o.op = false → step P O L (T i) o (HH p) = some (V i, HH p) → wpOp P ops Q i (wpAny P .any ops Q fuel (listed.setIfInBounds i true)) a w' := by
        intro he hs
        refine hop hrelC (fun b h1 h2 => by omega) hs fun v' w'' ⟨ρ'', hv, hstep⟩ => ?_
        have hl := hstep.lift (W := W) iniOk hst.rel (fun b h1 h2 => by omega)
        refine next v' w'' ρ'' p _ hv hp hpe (fun j o' h1 h2 => ?_) hl (fun b hb => by omega) (fun b x _ _ h3 => h3)
        rw [← heff j o' h1 h2]
        constructor
        · rintro (h3 | rfl)
          · exact h3
          · rw [hio] at h1; injection h1 with e; subst e; rw [he] at h2; cases h2
        · exact .inl
      by_cases he : isEff o.op = true
      · -- an effect: it is the next one
        have hip : i = p := by
          have h1 : ¬ i < p := fun h1 => hiS ((heff i o hio he).2 h1)
          rcases Nat.lt_or_ge p i with h2 | h2
          · exfalso
            rcases hpe with h3 | ⟨o', h3, h4⟩
            · omega
            · have := (ok3 p o' h3 (by omega)).1 he h4
              rw [ordered, if_pos h2] at this
              have := (heff p o' h3 h4).1 (hpre p this)
              omega
          · omega
        subst hip
        refine hop hrelC hFR hsti fun v' w'' ⟨ρ'', hv, hstep⟩ => ?_
        have hl := hstep.lift (W := W) iniOk hst.rel (hWi i hiL)
        obtain ⟨q, hq1, hq2, hq3, hq4⟩ := exists_first (fun j => ∃ o, L[j]? = some o ∧ isEff o.op = true) _ (i + 1) L.length rfl (by omega)
        have hGq : onTop ini (HH q) = onTop ini (HH (i + 1)) := ext (i + 1) q hq1 hq2 fun m o' h1 h2 h3 => by
          cases hm : isEff o'.op with
          | false => rfl
          | true => exact absurd ⟨o', h3, hm⟩ (hq4 m h1 h2)
        rw [← hGq] at hl
        refine next v' w'' ρ'' q _ hv hq2 hq3 (fun j o' h1 h2 => ?_) hl (fun b hb => hb) (fun b x hx hb h3 => ?_)
        · constructor
          · rintro (h3 | rfl)
            · have := (heff j o' h1 h2).1 h3; omega
            · omega
          · intro h3
            rcases Nat.lt_trichotomy j i with h4 | h4 | h4
            · exact .inl ((heff j o' h1 h2).2 h4)
            · exact .inr h4
            · exact absurd ⟨o', h1, h2⟩ (hq4 j h4 h3)
        · rw [hGq]
          have hb' : ρ' b = none := by
            cases hρ : ρ' b with
            | none => rfl
            | some pl => rw [hstep.le b pl hρ] at hb; cases hb
          by_cases hbl : b < (HH i).length
          · rw [onTop_lt hbl] at h3
            rw [onTop_lt (Nat.lt_of_lt_of_le hbl hstep.len), hstep.un b hbl hb']; exact h3
          · rw [onTop_ge hbl] at h3
            by_cases hbl2 : b < (HH (i + 1)).length
            · exfalso
              obtain ⟨i', ⟨o', h4, h5, h6, h7⟩, _⟩ := iniSome b x hx
              have := inter i i' b hiL (List.getElem?_eq_some_iff.1 h4).1 (by omega) hbl2 (by omega) (by omega)
              subst this
              rw [hio] at h4; injection h4 with e; subst e
              rw [new_not_eff h5] at he; cases he
            · rw [onTop_ge hbl2]; exact h3
      · have he' : isEff o.op = false := by simpa using he
        by_cases hnw : isNew o.op = true
        · rcases pn_step P O L (T i) o hnw _ _ _ hsti with ⟨xb, hkk, hH1, hmk⟩ | ⟨h1, h2⟩
          · -- a new block
            have hlen1 : (HH (i + 1)).length = (HH i).length + 1 := by rw [hH1]; simp
            have hown : Own (HH i).length i := ⟨o, hio, hnw, rfl, hlen1⟩
            have hini : ini (HH i).length = some xb := by rw [iniOwn _ i hown, hH1]; simp
            have hfree := hFR (HH i).length (Nat.le_refl _) (by omega)
            have hG := hpd _ _ hini hfree
            have hs := hmk (List.replicate (HH i).length .dead) (by simp)
            refine hop (rel_dead hst.rel (HH i).length) (fun b h1 h2 => ?_) hs fun v' w'' ⟨ρ'', hv, hstep⟩ => ?_
            · simp at h1 h2
              exact hFR b h1 (by omega)
            · have hl := Step.liftNew (W := W) hst.rel hstep hG (hWi i hiL _ (Nat.le_refl _) (by omega))
              refine next v' w'' ρ'' p _ hv hp hpe (fun j o' h1 h2 => ?_) hl (fun b hb => by omega) (fun b x _ _ h3 => h3)
              rw [← heff j o' h1 h2]
              constructor
              · rintro (h3 | rfl)
                · exact h3
                · rw [hio] at h1; injection h1 with e; subst e; rw [he'] at h2; cases h2
              · exact .inl
          · exact quiet he' (h2 (HH p))
        · have hnw' : isNew o.op = false := by simpa using hnw
          have hps := ps_step P O L (T i) o he' hnw'
          obtain ⟨h1, h2, h3⟩ := hps _ _ _ hsti
          refine quiet he' ?_
          cases hlk : isLook P o.op with
          | false => exact h3 hlk (HH p)
          | true =>
            -- it reads: the checks, or what stays
            by_cases hex : ∃ j, j < p ∧ (i < j ∧ ∃ o', L[j]? = some o' ∧ isEff o'.op = true)
            · obtain ⟨j, hj1, ⟨hj2, o', hj3, hj4⟩, hj5⟩ := exists_last _ _ hex
              have hc := tr.le j o' hj3 hj4 i o hj2 hio he' hlk
              simp only [Nat.zero_add] at hc
              rcases hc with hc | hc
              · exact (hnot j ((heff j o' hj3 hj4).2 hj1) hc).elim
              · obtain ⟨G, hG⟩ := chk_some hc
                obtain ⟨g1, g2, _⟩ := hps _ _ _ hG
                subst g1
                exact g2 (HH p) (extGet (j + 1) p (by omega) hp fun m o'' m1 m2 m3 => by
                  cases hm : isEff o''.op with
                  | false => rfl
                  | true => exact absurd ⟨by omega, o'', m3, hm⟩ (hj5 m (by omega) m2))
            · rcases Nat.lt_or_ge i p with hip | hip
              · exact h2 (HH p) (extGet i p (by omega) hp fun m o'' m1 m2 m3 => by
                  cases hm : isEff o''.op with
                  | false => rfl
                  | true =>
                    exfalso
                    rcases Nat.lt_or_ge i m with m4 | m4
                    · exact hex ⟨m, m2, m4, o'', m3, hm⟩
                    · have : m = i := by omega
                      subst this
                      rw [hio] at m3; injection m3 with e; subst e; rw [he'] at hm; cases hm)
              · rcases hpe with hpe | ⟨o', hp1, hp2⟩
                · omega
                · have hne : p ≠ i := by
                    rintro rfl
                    rw [hio] at hp1; injection hp1 with e; subst e; rw [he'] at hp2; cases hp2
                  have hc := tr.el i o hio he' hlk p o' (by omega) hp1 hp2
                  simp only [Nat.zero_add] at hc
                  rcases hc with hc | hc
                  · have := (heff p o' hp1 hp2).1 (hpre p hc); omega
                  · obtain ⟨G, hG⟩ := chk_some hc
                    obtain ⟨g1, _⟩ := hps _ _ _ hG
                    subst g1; exact hG
  -- the start
  obtain ⟨p, hp1, hp2, hp3, hp4⟩ := exists_first (fun j => ∃ o, L[j]? = some o ∧ isEff o.op = true) _ 0 L.length rfl (by omega)
  have hGp : onTop ini (HH p) = onTop ini (HH 0) := ext 0 p (by omega) hp2 fun m o' h1 h2 h3 => by
    cases hm : isEff o'.op with
    | false => rfl
    | true => exact absurd ⟨o', h3, hm⟩ (hp4 m h1 h2)
  have hS0 : ∀ i, ¬ S (Array.replicate ops.size false) i := by
    intro i
    simp only [S, Array.getD_eq_getD_getElem?, Array.getElem?_replicate]
    split <;> simp
  have hini0 : ∀ b x, ini b = some x → ¬ b < H.length := by
    intro b x hx hb
    obtain ⟨i, ⟨o, h1, h2, h3, h4⟩, _⟩ := iniSome b x hx
    have := lenLe 0 i (by omega) (by have := (List.getElem?_eq_some_iff.1 h1).1; omega)
    rw [tr.h0] at this
    omega
  have iniW : ∀ b x, ini b = some x → W b := by
    intro b x hx
    obtain ⟨i, ⟨o, h1, h2, h3, h4⟩, _⟩ := iniSome b x hx
    exact hWi i (List.getElem?_eq_some_iff.1 h1).1 b (by omega) (by omega)
  have hstart : StepN P W (fun _ => False) ρ (getH H) w ρ (onTop ini (HH p)) w := by
    rw [hGp, tr.h0]
    have mapped : ∀ b pl, ρ b = some pl → onTop ini H b = getH H b := by
      intro b pl hb
      by_cases hbl : b < H.length
      · rw [onTop_lt hbl]
      · rw [onTop_ge hbl]
        simp only [getH]
        rw [List.getElem?_eq_none (by omega)]
        cases hi : ini b with
        | none => rfl
        | some x => rw [hW b (iniW b x hi)] at hb; cases hb
    have same : ∀ b, ¬ W b → onTop ini H b = getH H b := by
      intro b hb
      by_cases hbl : b < H.length
      · rw [onTop_lt hbl]
      · rw [onTop_ge hbl]
        simp only [getH]
        rw [List.getElem?_eq_none (by omega)]
        cases hi : ini b with
        | none => rfl
        | some x => exact absurd (iniW b x hi) hb
    refine ⟨⟨hr.lt, fun b pl x hb hx => hr.blk b pl x hb (by rw [← mapped b pl hb]; exact hx), fun b1 b2 p1 p2 hne h1 h2 hw hd => hr.sep b1 b2 p1 p2 hne h1 h2 (by rw [← mapped b1 p1 h1]; exact hw) (by rw [← mapped b2 p2 h2]; exact hd)⟩,
      Ren.le_refl _, fun _ h => h.elim, fun b hb => .inl hb, Nat.le_refl _, fun _ _ _ => rfl, fun b hb _ => same b hb, fun b hb hdd => by rw [same b hb]; exact hdd, fun b hb hw => by rw [← same b hb]; exact hw, fun b pl h h' => (by rw [h] at h'; cases h'), rfl, rfl, rfl⟩
  have hlt : ∀ s, Vr ρ (t.getD s undef) (a.tmps.getD s undef) := fun s => Looked.of ht [s] s (by simp)
  refine main ops.size (List.range L.length) _ a w ρ p (fun _ => False) (by simp [hn]) (fun i hi => .inr (by simpa using hi)) (by simp [hn]) (fun i hi => absurd hi (hS0 i)) hp2 hp3 (fun i o h1 h2 => ⟨fun h3 => absurd h3 (hS0 i), fun h3 => absurd ⟨o, h1, h2⟩ (hp4 i (by omega) h3)⟩)
    hstart (fun b hb => hb.elim) ?_ hd (by have := ht.1; simpa using this.symm) (fun s _ => hlt s) (fun s j o _ _ hj => absurd hj (hS0 j))
  intro b x hx hb
  rw [hGp, tr.h0, onTop_ge (hini0 b x hx)]; exact hx

end
end Go.Abs
