/-
  HEAPS GROW ALONE.
-/
import Derived.Test.YtdobnaldfmpimaaAbsOps6
set_option linter.unusedSimpArgs false
set_option linter.unusedVariables false
namespace Go.Abs

def MonoM (m : M Value) : Prop := ∀ H v H', m H = some (v, H') → H.length ≤ H'.length
def MonoO (O : Oracle) : Prop := ∀ fn args H v H', O fn args H = some (v, H') → H.length ≤ H'.length

theorem mono_fail : MonoM M.fail := fun H v H' h => by cases h
theorem mono_ret (v : Value) : MonoM (M.ret v) := fun H v H' h => by injection h with h; injection h with h1 h2; subst h2; exact Nat.le_refl _
theorem mono_ofOpt (x : Option Value) : MonoM (M.ofOpt x) := fun H v H' h => by
  obtain ⟨_, rfl⟩ := ofOpt_some h; exact Nat.le_refl _
theorem mono_ld1 (v : Value) : MonoM (ld1 v) := fun H r H' h => by rw [(ld1_inv h).1]; exact Nat.le_refl _
theorem mono_ldN (n : Nat) (v : Value) : MonoM (ldN n v) := fun H r H' h => by rw [(ldN_inv h).1]; exact Nat.le_refl _
theorem mono_newB (e : TypeId) (cs : List Value) (k : Kind) : MonoM (newB e cs k) := fun H r H' h => by
  simp only [newB] at h; injection h with h; injection h with h1 h2; subst h2; simp
theorem mono_stN (n : Nat) (a v : Value) : MonoM (stN n a v) := fun H r H' h => by
  unfold stN at h
  repeat' split at h
  all_goals first | (cases h; done) | (injection h with h; injection h with h1 h2; subst h2; simp)
theorem mono_slc (P : Program) (sz : Nat) (v : Value) (lo hi mx : Option Value) : MonoM (slc P sz v lo hi mx) := fun H r H' h => by
  unfold slc at h
  repeat' split at h
  all_goals first | (cases h; done) | (injection h with h; injection h with h1 h2; subst h2; simp)
theorem mono_slcA (n sz : Nat) (v : Value) (lo hi : Option Value) : MonoM (slcA n sz v lo hi) := fun H r H' h => by
  unfold slcA at h
  repeat' split at h
  all_goals first | (cases h; done) | (injection h with h; injection h with h1 h2; subst h2; simp)
theorem mono_app (e : TypeId) (sz by' : Nat) (v w : Value) : MonoM (app e sz by' v w) := fun H r H' h => by
  unfold app at h
  repeat' split at h
  all_goals first | (cases h; done) | (injection h with h; injection h with h1 h2; subst h2; simp)
theorem mono_cpy (sz : Nat) (d s : Value) : MonoM (cpy sz d s) := fun H r H' h => by
  unfold cpy at h
  repeat' split at h
  all_goals first | (cases h; done) | (injection h with h; injection h with h1 h2; subst h2; simp)
theorem mono_clr (sz : Nat) (z : List Value) (v : Value) : MonoM (clr sz z v) := fun H r H' h => by
  unfold clr at h
  repeat' split at h
  all_goals first | (cases h; done) | (injection h with h; injection h with h1 h2; subst h2; simp)
theorem mono_mkSlice (e : TypeId) (sz by' : Nat) (z : List Value) (n c : Value) : MonoM (mkSlice e sz by' z n c) := fun H r H' h => by
  unfold mkSlice at h
  repeat' split at h
  all_goals first | (cases h; done) | (injection h with h; injection h with h1 h2; subst h2; simp)
theorem mono_bldSlice (e : TypeId) (sz n : Nat) (z : List Value) (ps : List (Nat × Value)) : MonoM (bldSlice e sz n z ps) := fun H r H' h => by
  unfold bldSlice at h
  repeat' split at h
  all_goals first | (cases h; done) | (injection h with h; injection h with h1 h2; subst h2; simp)
theorem mono_toStr (v : Value) : MonoM (toStr v) := fun H r H' h => by
  unfold toStr at h
  repeat' split at h
  all_goals first | (cases h; done) | (injection h with h; injection h with h1 h2; subst h2; simp)
theorem mono_mapGet (kt : KeyT) (z : Value) (ok : Bool) (m k : Value) : MonoM (mapGet kt z ok m k) := fun H r H' h => by
  unfold mapGet at h
  repeat' split at h
  all_goals first | (cases h; done) | (injection h with h; injection h with h1 h2; subst h2; simp)
theorem mono_mapSet (kt : KeyT) (m k v : Value) : MonoM (mapSet kt m k v) := fun H r H' h => by
  unfold mapSet at h
  repeat' split at h
  all_goals first | (cases h; done) | (injection h with h; injection h with h1 h2; subst h2; simp)
theorem mono_mapEnt (kt : KeyT) (z : Value) (m k : Value) : MonoM (mapEnt kt z m k) := fun H r H' h => by
  unfold mapEnt at h
  repeat' split at h
  all_goals first | (cases h; done) | (injection h with h; injection h with h1 h2; subst h2; simp)
theorem mono_entSet (m s v : Value) : MonoM (entSet m s v) := fun H r H' h => by
  unfold entSet at h
  repeat' split at h
  all_goals first | (cases h; done) | (injection h with h; injection h with h1 h2; subst h2; simp)
theorem mono_mapDel (kt : KeyT) (m k : Value) : MonoM (mapDel kt m k) := fun H r H' h => by
  unfold mapDel at h
  repeat' split at h
  all_goals first | (cases h; done) | (injection h with h; injection h with h1 h2; subst h2; simp)
theorem mono_lenMp (v : Value) : MonoM (lenMp v) := fun H r H' h => by
  unfold lenMp at h
  repeat' split at h
  all_goals first | (cases h; done) | (injection h with h; injection h with h1 h2; subst h2; simp)
theorem mono_lenM (P : Program) (ts : Array TypeId) (v : Value) : MonoM (lenM P ts v) := by
  unfold lenM
  split
  · exact mono_lenMp _
  · exact mono_fail
theorem mono_delM (P : Program) (ts : Array TypeId) (m k : Value) : MonoM (delM P ts m k) := by
  unfold delM
  split
  · split
    · exact mono_mapDel _ _ _
    · exact mono_fail
  · exact mono_fail
theorem mono_moreB (P : Program) (b : Builtin) (ts : Array TypeId) (vs : List Value) : MonoM (moreB P b ts vs) := by
  unfold moreB
  split
  · unfold del2
    split
    · exact mono_delM _ _ _ _
    · exact mono_fail
  · exact mono_fail
theorem mono_newM : MonoM newM := fun H r H' h => by
  simp only [newM] at h; injection h with h; injection h with h1 h2; subst h2; simp
theorem mono_callV {O : Oracle} (hO : MonoO O) (f : Value) (vs : List Value) : MonoM (callV O f vs) := by
  cases f with
  | func fn x y => exact fun H v H' h => hO _ _ H v H' h
  | _ => exact mono_fail
theorem mono_builtin (P : Program) (b : Builtin) (ts : Array TypeId) (vs : List Value) : MonoM (aBuiltin P b ts vs) := by
  unfold aBuiltin
  repeat' split
  all_goals first | exact mono_fail | exact mono_ofOpt _ | (apply mono_app; done) | (apply mono_cpy; done) | (apply mono_clr; done) | (apply mono_lenM; done) | (apply mono_moreB; done)
theorem mono_conv (P : Program) (s d : TypeId) (v : Value) : MonoM (conv P s d v) := by
  unfold conv
  repeat' split
  all_goals first | exact mono_fail | exact mono_ret _ | exact mono_toStr _
theorem mono_sliceM (P : Program) (t : TypeId) (x : Value) (lo hi mx : Option Value) : MonoM (sliceM P t x lo hi mx) := by
  unfold sliceM
  repeat' split
  all_goals first | exact mono_fail | exact mono_ofOpt _ | (apply mono_slc; done) | (apply mono_slcA; done)

theorem mono_aOp (P : Program) {O : Oracle} (hO : MonoO O) (t : List Value) (o : Oper) : MonoM (aOp P O t o) := by
  obtain ⟨dst, op, ty0, pos, after, guard⟩ := o
  cases op <;> simp only [aOp] <;> repeat' split
  all_goals first
    | exact mono_fail | exact mono_ofOpt _ | exact mono_ret _ | (apply mono_newB; done) | (apply mono_ldN; done) | (apply mono_ld1; done) | (apply mono_stN; done) | (apply mono_conv; done)
    | (apply mono_mkSlice; done) | (apply mono_bldSlice; done) | (apply mono_sliceM; done) | (apply mono_callV hO; done) | (apply mono_builtin; done) | (apply mono_mapGet; done) | (apply mono_mapSet; done) | (apply mono_mapEnt; done) | (apply mono_entSet; done) | exact mono_newM

theorem mono_step (P : Program) {O : Oracle} (hO : MonoO O) (ops : List Oper) (t : List Value) (o : Oper) : MonoM (step P O ops t o) := by
  unfold step
  split
  · exact mono_aOp P hO t o
  · split
    · unfold gd
      split
      · split
        · exact mono_aOp P hO t o
        · exact mono_ret _
      · exact mono_ret _
    · exact mono_ret _

/-! ### code -/

def MonoK (k : K (Value × Heap)) (r : Value × Heap) : Prop := ∀ t H, k t H = some r → H.length ≤ r.2.length

theorem mono_runOps (P : Program) {O : Oracle} (hO : MonoO O) (ops : List Oper) {r : Value × Heap} : ∀ (l : List Oper) (k : K (Value × Heap)), MonoK k r → MonoK (runOps P O ops l k) r
  | [], k, hk => hk
  | o :: l, k, hk => fun t H h => by
    simp only [runOps] at h
    split at h
    · cases h
    · rename_i x hx
      exact Nat.le_trans (mono_step P hO ops t o H x.1 x.2 hx) (mono_runOps P hO ops l k hk _ _ h)

theorem mono_runDraw (P : Program) {O : Oracle} (hO : MonoO O) (ops : List Oper) (ms : List Nat) {r : Value × Heap} : ∀ (l : List Oper) (i : Nat) (rs : List Rd) (es : List Ef) (k : K (Value × Heap)), MonoK k r → MonoK (runDraw P O ops ms l i rs es k) r
  | [], _, _, _, k, hk => hk
  | o :: l, i, rs, es, k, hk => fun t H h => by
    simp only [runDraw] at h
    split at h
    · cases h
    · rename_i x hx
      have h1 := mono_step P hO ops t o H x.1 x.2 hx
      split at h
      · split at h
        · exact Nat.le_trans h1 (mono_runDraw P hO ops ms l _ _ _ k hk _ _ h)
        · cases h
      · split at h
        · split at h
          · exact Nat.le_trans h1 (mono_runDraw P hO ops ms l _ _ _ k hk _ _ h)
          · cases h
        · exact Nat.le_trans h1 (mono_runDraw P hO ops ms l _ _ _ k hk _ _ h)

def MonoE (k : Ex → K (Value × Heap)) (r : Value × Heap) : Prop := ∀ e, MonoK (k e) r

theorem mono_loopN {B : (Ex → K (Value × Heap)) → K (Value × Heap)} {r : Value × Heap} (hB : ∀ k, MonoE k r → MonoK (B k) r) : ∀ (n : Nat) (k : Ex → K (Value × Heap)), MonoE k r → MonoK (loopN n B k) r
  | 0, _, _ => fun t H h => by cases h
  | n + 1, k, hk => hB _ fun e => by
    cases e with
    | normal => exact mono_loopN hB n k hk
    | exit id => exact hk _
    | ret => exact hk _

theorem mono_runCode (P : Program) {O : Oracle} (hO : MonoO O) (n : Nat) {r : Value × Heap} : ∀ (c : Code) (k : Ex → K (Value × Heap)), MonoE k r → MonoK (runCode P O (loopN n) c k) r := by
  intro c
  induction c with
  | skip => exact fun k hk => hk _
  | ret => exact fun k hk => hk _
  | exit id => exact fun k hk => hk _
  | region id ops draw =>
    intro k hk
    simp only [runCode]
    split
    · intro t H h
      simp only at h
      split at h
      · exact mono_runDraw P hO _ _ _ _ _ _ _ (hk _) _ _ h
      · cases h
    · exact mono_runOps P hO _ _ _ (hk _)
  | seq a b iha ihb =>
    intro k hk
    simp only [runCode]
    refine iha _ fun e => ?_
    cases e with
    | normal => exact ihb k hk
    | exit id => exact hk _
    | ret => exact hk _
  | cond c a b iha ihb =>
    intro k hk t H h
    simp only [runCode] at h
    split at h
    · split at h
      · exact iha k hk t H h
      · exact ihb k hk t H h
    · cases h
  | block id c ih =>
    intro k hk
    simp only [runCode]
    refine ih _ fun e => ?_
    cases e with
    | normal => exact hk _
    | exit j => simp only; split <;> exact hk _
    | ret => exact hk _
  | loop c ih =>
    intro k hk
    simp only [runCode]
    exact mono_loopN (fun k hk => ih k hk) n k hk
  | scope c ih =>
    intro k hk
    simp only [runCode]
    exact ih k hk
  | label l => exact fun k hk => hk _
  | _ => intro k hk t H h; simp only [runCode] at h; cases h

end Go.Abs
