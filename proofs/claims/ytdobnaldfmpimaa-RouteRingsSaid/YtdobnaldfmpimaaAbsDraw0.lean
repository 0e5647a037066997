/-
  A REGION THAT DRAWS ITS ORDER, the parts: masks, kinds of operations, the trace of the text's order.
-/
import Derived.Test.YtdobnaldfmpimaaAbsCode
import Derived.Test.YtdobnaldfmpimaaAbsMaps2
set_option linter.unusedSimpArgs false
set_option linter.unusedVariables false
namespace Go.Abs

/-! ### what is held against each other is the same -/

theorem veqL_eq {f : Value → Value → Bool} : ∀ {xs ys : List Value}, (∀ x y, f x y = true → x = y) → veqL f xs ys = true → xs = ys
  | [], [], _, _ => rfl
  | [], _ :: _, _, h => by simp [veqL] at h
  | _ :: _, [], _, h => by simp [veqL] at h
  | x :: xs, y :: ys, hf, h => by
    simp only [veqL, Bool.and_eq_true] at h
    rw [hf x y h.1, veqL_eq hf h.2]

theorem veq_eq : ∀ (n : Nat) (v w : Value), veq n v w = true → v = w
  | 0, _, _, h => by simp [veq] at h
  | n + 1, v, w, h => by
    unfold veq at h
    split at h <;> (try (cases h; done))
    · simp at h; rw [h]
    · simp at h; rw [h.1, h.2]
    · rename_i a b
      simp only [beq_iff_eq] at h
      obtain ⟨⟨x⟩⟩ := a; obtain ⟨⟨y⟩⟩ := b
      simp at h; rw [h]
    · simp at h; rw [h]
    · simp at h; rw [h.1.1, h.1.2, h.2]
    · simp at h; rw [h]
    · rfl
    · rfl
    · have := veqL_eq (fun x y => veq_eq n x y) h
      rw [Array.ext' this]
    · have := veqL_eq (fun x y => veq_eq n x y) h
      rw [Array.ext' this]

theorem chk_some {x : Option (Value × Heap)} {v : Value} (h : chk x v = true) : ∃ G, x = some (v, G) := by
  unfold chk at h
  split at h
  · rename_i r
    have := veq_eq 4 _ _ h
    exact ⟨r.2, by rw [this]⟩
  · cases h

/-! ### masks -/

theorem masks_aux : ∀ (l : List Oper) (acc : List Nat), (l.foldl (fun acc o => acc ++ [preMask acc o]) acc).length = acc.length + l.length ∧ (l.foldl (fun acc o => acc ++ [preMask acc o]) acc).take acc.length = acc ∧
    ∀ (j : Nat) (o : Oper), l[j]? = some o → (l.foldl (fun acc o => acc ++ [preMask acc o]) acc)[acc.length + j]? = some (preMask ((l.foldl (fun acc o => acc ++ [preMask acc o]) acc).take (acc.length + j)) o)
  | [], acc => ⟨by simp, by simp, fun j o h => by simp at h⟩
  | x :: l, acc => by
    obtain ⟨h1, h2, h3⟩ := masks_aux l (acc ++ [preMask acc x])
    simp only [List.foldl_cons]
    generalize l.foldl (fun acc o => acc ++ [preMask acc o]) (acc ++ [preMask acc x]) = R at h1 h2 h3
    simp only [List.length_append, List.length_cons, List.length_nil] at h1 h2 h3
    have h4 : R.take acc.length = acc := by
      have := congrArg (List.take acc.length) h2
      rw [List.take_take] at this
      simpa using this
    refine ⟨by simp; omega, h4, fun j o hj => ?_⟩
    cases j with
    | zero =>
      simp at hj; subst hj
      simp only [Nat.add_zero]
      rw [h4]
      have := congrArg (fun l : List Nat => l[acc.length]?) h2
      simp only [List.getElem?_take, List.getElem?_append] at this
      simpa using this
    | succ j =>
      have := h3 j o (by simpa using hj)
      rw [show acc.length + (0 + 1) + j = acc.length + (j + 1) by omega] at this
      exact this

theorem masks_length (l : List Oper) : (masks l).length = l.length := by have := (masks_aux l []).1; simpa [masks] using this

theorem masks_get {l : List Oper} {i : Nat} {o : Oper} (h : l[i]? = some o) : (masks l).getD i 0 = preMask ((masks l).take i) o := by
  have := (masks_aux l []).2.2 i o h
  simp only [List.length_nil, Nat.zero_add] at this
  rw [List.getD_eq_getElem?_getD]
  show ((masks l)[i]?).getD 0 = _
  rw [show (masks l)[i]? = some (preMask ((masks l).take i) o) from this]
  rfl

theorem preMask_fold (acc : List Nat) (j : Nat) : ∀ (es : List Edge) (s : Nat), (es.foldl (fun s e => if Region.binds .any e then s ||| (1 <<< e.on) ||| acc.getD e.on 0 else s) s).testBit j = true ↔
    s.testBit j = true ∨ ∃ e ∈ es, Region.binds .any e = true ∧ (e.on = j ∨ (acc.getD e.on 0).testBit j = true)
  | [], s => by simp
  | e :: es, s => by
    simp only [List.foldl_cons]
    rw [preMask_fold acc j es]
    by_cases hb : Region.binds .any e = true
    · rw [if_pos hb]
      simp only [Nat.testBit_or, Bool.or_eq_true, Nat.one_shiftLeft, Nat.testBit_two_pow, decide_eq_true_eq, List.mem_cons, exists_eq_or_imp, hb, true_and]
      constructor
      · rintro (((h | h) | h) | h)
        · exact .inl h
        · exact .inr (.inl (.inl h))
        · exact .inr (.inl (.inr h))
        · exact .inr (.inr h)
      · rintro (h | (h | h) | h)
        · exact .inl (.inl (.inl h))
        · exact .inl (.inl (.inr h))
        · exact .inl (.inr h)
        · exact .inr h
    · rw [if_neg hb]
      simp [hb]

theorem masks_testBit {l : List Oper} {i : Nat} {o : Oper} (h : l[i]? = some o) (hlt : ∀ e ∈ o.after.toList, Region.binds .any e = true → e.on < i) (j : Nat) (hj : ((masks l).getD i 0).testBit j = true) :
    ∃ e ∈ o.after.toList, Region.binds .any e = true ∧ (e.on = j ∨ ((masks l).getD e.on 0).testBit j = true) := by
  rw [masks_get h] at hj
  unfold preMask at hj
  rw [preMask_fold] at hj
  rcases hj with hj | ⟨e, he, hb, hj⟩
  · simp at hj
  · refine ⟨e, he, hb, ?_⟩
    rcases hj with hj | hj
    · exact .inl hj
    · right
      rw [List.getD_eq_getElem?_getD, List.getElem?_take, if_pos (hlt e he hb), ← List.getD_eq_getElem?_getD] at hj
      exact hj

/-! ### kinds of operations -/

/-- the answer doesn't hang on the heap -/
def Fixed (m : M Value) (H : Heap) (v : Value) : Prop := ∀ G : Heap, m G = some (v, G)
/-- it stays where blocks are added -/
def Stays (m : M Value) (H : Heap) (v : Value) : Prop := ∀ G : Heap, (∀ (b : Nat) (x : Blk), H[b]? = some x → G[b]? = some x) → m G = some (v, G)
/-- it makes a block -/
def Makes (m : M Value) (H : Heap) (v : Value) (H' : Heap) : Prop := ∃ x : Blk, wr (some x) = true ∧ H' = H ++ [x] ∧ ∀ G : Heap, G.length = H.length → m G = some (v, G ++ [x])

theorem fixed_ofOpt {x : Option Value} {H H' : Heap} {v : Value} (h : M.ofOpt x H = some (v, H')) : H' = H ∧ Fixed (M.ofOpt x) H v := by
  obtain ⟨rfl, rfl⟩ := ofOpt_some h
  exact ⟨rfl, fun G => rfl⟩

theorem stays_load {sz : Nat} {g : Bool} {a v : Value} {H H' : Heap} (h : (if g = true then ldN sz a else ld1 a) H = some (v, H')) : H' = H ∧ Stays (if g = true then ldN sz a else ld1 a) H v := by
  cases g with
  | true =>
    simp only [if_true] at h ⊢
    obtain ⟨rfl, b, o, cs, e, k, rfl, hb, hn, rfl⟩ := ldN_inv h
    exact ⟨rfl, fun G hG => by simp [ldN, hG b _ hb, hn]⟩
  | false =>
    simp only [Bool.false_eq_true, if_false] at h ⊢
    obtain ⟨rfl, b, o, cs, e, k, rfl, hb, hx⟩ := ld1_inv h
    exact ⟨rfl, fun G hG => by simp [ld1, hG b _ hb, hx]⟩

theorem stays_toStr {a v : Value} {H H' : Heap} (h : toStr a H = some (v, H')) : H' = H ∧ Stays (toStr a) H v := by
  unfold toStr at h
  split at h
  · injection h with h; injection h with h1 h2; subst h1; subst h2
    exact ⟨rfl, fun G hG => rfl⟩
  · rename_i b o n c
    split at h
    · rename_i h0
      injection h with h; injection h with h1 h2; subst h1; subst h2; subst h0
      exact ⟨rfl, fun G hG => by simp [toStr]⟩
    rename_i h0
    split at h
    · rename_i cs e k hb
      split at h
      · rename_i hl
        split at h
        · rename_i bs hbs
          injection h with h; injection h with h1 h2; subst h1; subst h2
          exact ⟨rfl, fun G hG => by simp [toStr, hG b _ hb, hl, hbs, h0]⟩
        · cases h
      · cases h
    · cases h
  · cases h

theorem stays_slc {P : Program} {sz : Nat} {a v : Value} {lo hi mx : Option Value} {H H' : Heap} (h : slc P sz a lo hi mx H = some (v, H')) : H' = H ∧ Stays (slc P sz a lo hi mx) H v := by
  unfold slc at h
  split at h
  · split at h
    · rename_i e1 e2 e3
      injection h with h; injection h with h1 h2; subst h1; subst h2
      exact ⟨rfl, fun G hG => by simp [slc, e1, e2, e3]⟩
    · cases h
  · rename_i b o n c
    split at h
    · rename_i cs e k hb
      split at h
      · rename_i l h' m e1 e2 e3
        split at h
        · rename_i hc
          injection h with h; injection h with h1 h2; subst h1; subst h2
          refine ⟨rfl, fun G hG => ?_⟩
          simp only [slc, hG b _ hb, e1, e2, e3]
          rw [if_pos hc]
        · cases h
      · cases h
    · cases h
  · cases h

theorem stays_slcA {n sz : Nat} {a v : Value} {lo hi : Option Value} {H H' : Heap} (h : slcA n sz a lo hi H = some (v, H')) : H' = H ∧ Stays (slcA n sz a lo hi) H v := by
  unfold slcA at h
  split at h
  · rename_i b o
    split at h
    · rename_i cs e k hb
      split at h
      · rename_i l h' e1 e2
        split at h
        · rename_i hc
          injection h with h; injection h with h1 h2; subst h1; subst h2
          refine ⟨rfl, fun G hG => ?_⟩
          simp only [slcA, hG b _ hb, e1, e2]
          rw [if_pos hc]
        · cases h
      · cases h
    · cases h
  · cases h

theorem Fixed.stays {m : M Value} {H : Heap} {v : Value} (h : Fixed m H v) : Stays m H v := fun G _ => h G

/-- what is no effect and makes nothing: it leaves the heap alone, and stays where blocks are added; where it doesn't look, it hangs on no heap -/
def PropS (look : Bool) (m : M Value) : Prop := ∀ H v H', m H = some (v, H') → H' = H ∧ Stays m H v ∧ (look = false → Fixed m H v)

theorem ps_fail (l : Bool) : PropS l M.fail := fun H v H' h => by cases h
theorem ps_ofOpt (l : Bool) (x : Option Value) : PropS l (M.ofOpt x) := fun H v H' h => by
  obtain ⟨h1, h2⟩ := fixed_ofOpt h; exact ⟨h1, h2.stays, fun _ => h2⟩
theorem ps_ret (l : Bool) (x : Value) : PropS l (M.ret x) := fun H v H' h => by
  injection h with h; injection h with h1 h2; subst h1; subst h2; exact ⟨rfl, fun G _ => rfl, fun _ G => rfl⟩
theorem ps_ld1 (a : Value) : PropS true (ld1 a) := fun H v H' h => by
  obtain ⟨h1, h2⟩ := stays_load (g := false) (sz := 0) h; exact ⟨h1, h2, fun h => by cases h⟩
theorem ps_ldN (n : Nat) (a : Value) : PropS true (ldN n a) := fun H v H' h => by
  obtain ⟨h1, h2⟩ := stays_load (g := true) (sz := n) h; exact ⟨h1, h2, fun h => by cases h⟩
theorem ps_toStr (a : Value) : PropS true (toStr a) := fun H v H' h => by
  obtain ⟨h1, h2⟩ := stays_toStr h; exact ⟨h1, h2, fun h => by cases h⟩
theorem ps_slc (P : Program) (sz : Nat) (a : Value) (lo hi mx : Option Value) : PropS true (slc P sz a lo hi mx) := fun H v H' h => by
  obtain ⟨h1, h2⟩ := stays_slc h; exact ⟨h1, h2, fun h => by cases h⟩
theorem ps_slcA (n sz : Nat) (a : Value) (lo hi : Option Value) : PropS true (slcA n sz a lo hi) := fun H v H' h => by
  obtain ⟨h1, h2⟩ := stays_slcA h; exact ⟨h1, h2, fun h => by cases h⟩
theorem ps_mapGet (kt : KeyT) (z : Value) (ok : Bool) (m k : Value) : PropS true (mapGet kt z ok m k) := fun H v H' h => by
  unfold mapGet at h
  split at h
  · rename_i hk
    split at h
    · injection h with h; injection h with h1 h2; subst h1; subst h2
      exact ⟨rfl, fun G _ => by simp [mapGet, hk], fun h => by cases h⟩
    · rename_i b
      split at h
      · rename_i es c hb
        split at h
        · cases h
        · rename_i hf
          injection h with h; injection h with h1 h2; subst h1; subst h2
          exact ⟨rfl, fun G hG => by simp [mapGet, hk, hG b _ hb, hf], fun h => by cases h⟩
        · rename_i hf
          injection h with h; injection h with h1 h2; subst h1; subst h2
          exact ⟨rfl, fun G hG => by simp [mapGet, hk, hG b _ hb, hf], fun h => by cases h⟩
      · cases h
    · cases h
  · cases h
theorem ps_lenMp (m : Value) : PropS true (lenMp m) := fun H v H' h => by
  unfold lenMp at h
  split at h
  · injection h with h; injection h with h1 h2; subst h1; subst h2
    exact ⟨rfl, fun G _ => rfl, fun h => by cases h⟩
  · rename_i b
    split at h
    · rename_i es c hb
      injection h with h; injection h with h1 h2; subst h1; subst h2
      exact ⟨rfl, fun G hG => by simp [lenMp, hG b _ hb], fun h => by cases h⟩
    · cases h
  · cases h
theorem ps_sliceM (P : Program) (t : TypeId) (x : Value) (lo hi mx : Option Value) : PropS true (sliceM P t x lo hi mx) := by
  unfold sliceM
  repeat' split
  all_goals first | exact ps_fail _ | (apply ps_ofOpt; done) | (apply ps_slc; done) | (apply ps_slcA; done)
theorem ps_conv (P : Program) (s d : TypeId) (v : Value) : PropS (isSl P s) (conv P s d v) := by
  unfold conv
  split
  · split
    · exact ps_ret _ _
    · exact ps_fail _
  · split
    · exact ps_ret _ _
    · exact ps_fail _
  · rename_i e hs _
    have : isSl P s = true := by simp [isSl, hs]
    rw [this]
    split
    · exact ps_toStr _
    · exact ps_fail _
  · exact ps_fail _

/-- an operation that is no effect and makes nothing -/
theorem ps_aOp (P : Program) (O : Oracle) (t : List Value) (o : Oper) (he : isEff o.op = false) (hn : isNew o.op = false) : PropS (isLook P o.op) (aOp P O t o) := by
  obtain ⟨dst, op, ty0, pos, after, guard⟩ := o
  cases op
  case call c =>
    obtain ⟨callee, args, ts⟩ := c
    cases callee with
    | value f => simp [isEff] at he
    | invoke r m =>
      simp only [aOp]
      split <;> exact ps_fail _
    | builtin b =>
      simp only [aOp]
      split
      · exact ps_fail _
      · rename_i vs _
        cases b <;> simp [isEff] at he
        · cases vs with
          | nil => exact ps_fail _
          | cons x vs =>
            cases vs with
            | nil =>
              simp only [aBuiltin]
              split
              · apply ps_ofOpt
              · apply ps_ofOpt
              · unfold lenM
                split
                · rename_i p hu
                  have : isLook P (.call { callee := .builtin .len, args := args, argTypes := ts }) = true := by
                    simp only [isLook, isMp]
                    cases h0 : ts.toList[0]? with
                    | none => simp [h0] at hu
                    | some t0 =>
                      simp [h0] at hu
                      simp [mapTy_some hu]
                  rw [this]
                  apply ps_lenMp
                · exact ps_fail _
            | cons y vs => exact ps_fail _
        · exact ps_ofOpt _ _
        · exact ps_ofOpt _ _
  all_goals simp only [isEff, isNew, Bool.true_eq_false, Bool.false_eq_true, reduceCtorEq] at he hn
  all_goals simp only [aOp, isLook]
  all_goals (repeat' split)
  all_goals first
    | exact ps_fail _ | (apply ps_ofOpt; done) | (apply ps_ret; done) | (apply ps_ldN; done) | (apply ps_ld1; done) | (apply ps_conv; done) | (apply ps_sliceM; done) | (apply ps_mapGet; done) | skip

end Go.Abs
