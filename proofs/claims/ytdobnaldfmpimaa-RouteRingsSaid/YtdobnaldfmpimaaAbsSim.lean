/-
  WORDS FOR THE SHALLOW FORMS of Go functions, and the rules by which they are reckoned.
-/
import Derived.Test.YtdobnaldfmpimaaAbsSound
set_option linter.unusedSimpArgs false
set_option linter.unusedVariables false
namespace Go.Abs

def ob {α : Type} (x : Option (Value × Heap)) (f : Value → Heap → Option α) : Option α :=
  match x with
  | none => none
  | some r => f r.1 r.2

def iteV {α : Type} (v : Value) (a b : Option α) : Option α :=
  match v with
  | .bool x => if x = true then a else b
  | _ => none

def ifB {α : Type} (b : Bool) (x : Option α) : Option α := if b = true then x else none

def sub : List Nat → Code → Code
  | [], c => c
  | 0 :: l, .seq a _ => sub l a
  | 1 :: l, .seq _ b => sub l b
  | 0 :: l, .cond _ a _ => sub l a
  | 1 :: l, .cond _ _ b => sub l b
  | 0 :: l, .block _ c => sub l c
  | 0 :: l, .loop c => sub l c
  | 0 :: l, .scope c => sub l c
  | _, c => c

def fbody (P : Program) (n : Nat) : Code :=
  match P.funcs.toList[n]? with
  | some f => f.body.getD .skip
  | none => .skip

def seqK {α : Type} (P : Program) (O : Oracle) (L : Loops α) (b : Code) (k : Ex → K α) : Ex → K α := fun e => match e with
  | .normal => runCode P O L b k
  | .exit id => k (.exit id)
  | .ret => k .ret
def blockK {α : Type} (id : Nat) (k : Ex → K α) : Ex → K α := fun e => match e with
  | .normal => k .normal
  | .exit j => if j = id then k .normal else k (.exit j)
  | .ret => k .ret

/-! ### rules -/

section
variable {α : Type} {P : Program} {H : Heap}

theorem ob_some (v : Value) (H : Heap) (f : Value → Heap → Option α) : ob (some (v, H)) f = f v H := rfl
theorem ob_of {x : Option (Value × Heap)} {v : Value} (h : x = some (v, H)) (f : Value → Heap → Option α) : ob x f = f v H := by rw [h]; rfl
theorem iteV_bool (b : Bool) (x y : Option α) : iteV (.bool b) x y = if b = true then x else y := rfl
theorem iteV_true (x y : Option α) : iteV (.bool true) x y = x := rfl
theorem iteV_false (x y : Option α) : iteV (.bool false) x y = y := rfl
theorem ifB_true (x : Option α) : ifB true x = x := rfl

theorem r_ret (v : Value) : M.ret v H = some (v, H) := rfl
theorem r_opt (v : Value) : M.ofOpt (some v) H = some (v, H) := rfl
theorem r_gd (b want : Bool) (m : M Value) : gd (.bool b) want m H = if b = want then m H else some (undef, H) := by
  unfold gd; cases b <;> cases want <;> rfl
theorem r_gdt (m : M Value) : gd (.bool true) true m H = m H := rfl
theorem r_gdf (m : M Value) : gd (.bool false) false m H = m H := rfl
theorem r_gdtf (m : M Value) : gd (.bool true) false m H = some (undef, H) := rfl
theorem r_gdft (m : M Value) : gd (.bool false) true m H = some (undef, H) := rfl

theorem r_nil (a : Addr) : nilChk (.pointer (some a)) = some (.pointer (some a)) := rfl
theorem r_fAddr (off b o : Nat) : fAddr off (.pointer (some ⟨b, o, none⟩)) = some (.pointer (some ⟨b, o + off, none⟩)) := rfl
theorem r_iAddr (sz b o n c : Nat) (k : IntKind) (i : Int) (h0 : 0 ≤ i) (h1 : i < (n : Int)) : iAddr sz (.slice (some ⟨b, o, none⟩) n c) (.int k i) = some (.pointer (some ⟨b, o + i.toNat * sz, none⟩)) := by
  simp [iAddr, h0, h1, adr]
theorem r_lenSl (a : Addr) (n c : Nat) : lenSl (.slice (some a) n c) = some (.int .i64 n) := rfl
theorem r_lenSl0 : lenSl (.slice none 0 0) = some (.int .i64 0) := rfl
theorem r_pick (c : Bool) (a b : Value) : pick (.bool c) a b = some (if c = true then a else b) := by cases c <;> rfl

theorem r_ld1 {b o : Nat} {cs : List Value} {e : TypeId} {k : Kind} {x : Value} (hb : H[b]? = some (.cells cs e k)) (hx : cs[o]? = some x) : ld1 (.pointer (some ⟨b, o, none⟩)) H = some (x, H) := by
  simp [ld1, hb, hx]
theorem r_ldN {n b o : Nat} {cs : List Value} {e : TypeId} {k : Kind} (hb : H[b]? = some (.cells cs e k)) (hx : o + n ≤ cs.length) : ldN n (.pointer (some ⟨b, o, none⟩)) H = some (.agg ((cs.drop o).take n).toArray, H) := by
  simp [ldN, hb, hx]
theorem r_st1 {b o : Nat} {cs : List Value} {e : TypeId} {k : Kind} {v : Value} (hb : H[b]? = some (.cells cs e k)) (hk : k ≠ .ro) (ho : o < cs.length) (hv : v.oneCell' = true) (hc : v.cells = #[v]) :
    stN 1 (.pointer (some ⟨b, o, none⟩)) v H = some (undef, H.set b (.cells (cs.set o v) e k)) := by
  have h1 : v.cells.toList = [v] := by rw [hc]
  unfold stN
  simp only [hb, h1, List.length_cons, List.length_nil, Nat.zero_add, allCells, List.all_cons, hv, List.all_nil, Bool.and_true, setCells]
  rw [if_pos ⟨hk, by trivial, by omega, by trivial⟩]
theorem r_newB (e : TypeId) (cs : List Value) (k : Kind) : newB e cs k H = some (.pointer (some ⟨H.length, 0, none⟩), H ++ [.cells cs e k]) := rfl

/-! numbers -/

theorem b_add (t : TypeId) (k : IntKind) (a b : Int) : bin P .add t (.int k a) (.int k b) = some (.int k (k.wrap (a + b))) := by simp [bin, flat, purF, pur, binOp, Op.intArith, pure]
theorem b_sub (t : TypeId) (k : IntKind) (a b : Int) : bin P .sub t (.int k a) (.int k b) = some (.int k (k.wrap (a - b))) := by simp [bin, flat, purF, pur, binOp, Op.intArith, pure]
theorem b_mul (t : TypeId) (k : IntKind) (a b : Int) : bin P .mul t (.int k a) (.int k b) = some (.int k (k.wrap (a * b))) := by simp [bin, flat, purF, pur, binOp, Op.intArith, pure]
theorem b_lss (t : TypeId) (k : IntKind) (a b : Int) : bin P .lss t (.int k a) (.int k b) = some (.bool (decide (a < b))) := by simp [bin, flat, purF, pur, binOp, Op.intCmp, pure]
theorem b_leq (t : TypeId) (k : IntKind) (a b : Int) : bin P .leq t (.int k a) (.int k b) = some (.bool (decide (a ≤ b))) := by simp [bin, flat, purF, pur, binOp, Op.intCmp, pure]
theorem b_gtr (t : TypeId) (k : IntKind) (a b : Int) : bin P .gtr t (.int k a) (.int k b) = some (.bool (decide (b < a))) := by simp [bin, flat, purF, pur, binOp, Op.intCmp, pure]
theorem b_geq (t : TypeId) (k : IntKind) (a b : Int) : bin P .geq t (.int k a) (.int k b) = some (.bool (decide (b ≤ a))) := by simp [bin, flat, purF, pur, binOp, Op.intCmp, pure]
theorem b_eql (t : TypeId) (k : IntKind) (a b : Int) : bin P .eql t (.int k a) (.int k b) = some (.bool (a == b)) := by simp [bin, flat, purF, pur, binOp, Op.intCmp, pure]
theorem b_neq (t : TypeId) (k : IntKind) (a b : Int) : bin P .neq t (.int k a) (.int k b) = some (.bool (a != b)) := by simp [bin, flat, purF, pur, binOp, Op.intCmp, pure]
theorem b_rem (t : TypeId) (k : IntKind) (a b : Int) (hb : b ≠ 0) : bin P .rem t (.int k a) (.int k b) = some (.int k (a.tmod b)) := by simp [bin, flat, purF, pur, binOp, Op.intDiv, pure, hb]
theorem b_quo (t : TypeId) (k : IntKind) (a b : Int) (hb : b ≠ 0) : bin P .quo t (.int k a) (.int k b) = some (.int k (k.wrap (a.tdiv b))) := by simp [bin, flat, purF, pur, binOp, Op.intDiv, pure, hb]
theorem u_not (b : Bool) : un P .not (.bool b) = some (.bool !b) := rfl

theorem b_ptr (t e : TypeId) (h : P.underlying t = some (.pointer e)) (a : Addr) : bin P .eql t (.pointer (some a)) (.pointer none) = some (.bool false) ∧ bin P .neq t (.pointer (some a)) (.pointer none) = some (.bool true) := by
  constructor <;> simp [bin, flat, eqAny, nilKind, h, eqV]
theorem b_nil (t e : TypeId) (h : P.underlying t = some (.pointer e)) : bin P .eql t (.pointer none) (.pointer none) = some (.bool true) ∧ bin P .neq t (.pointer none) (.pointer none) = some (.bool false) := by
  constructor <;> simp [bin, flat, eqAny, nilKind, h, eqV]

theorem c_int (s d : TypeId) {k1 k2 : IntKind} (hs : P.underlying s = some (.int k1)) (hd : P.underlying d = some (.int k2)) (k : IntKind) (n : Int) : conv P s d (.int k n) H = some (.int k2 (k2.wrap n), H) := by
  simp [conv, hs, hd, M.ret]

theorem wrap_i64 {n : Int} (h0 : -9223372036854775808 ≤ n) (h1 : n < 9223372036854775808) : IntKind.i64.wrap n = n := by
  simp only [IntKind.wrap, IntKind.bits, IntKind.signed]
  simp; split <;> omega
theorem wrap_u8 {n : Int} (h0 : 0 ≤ n) (h1 : n < 256) : IntKind.u8.wrap n = n := by
  simp only [IntKind.wrap, IntKind.bits, IntKind.signed]
  simp; omega
theorem wrap_u32 {n : Int} (h0 : 0 ≤ n) (h1 : n < 4294967296) : IntKind.u32.wrap n = n := by
  simp only [IntKind.wrap, IntKind.bits, IntKind.signed]
  simp; omega

/-! calls, loops -/

theorem lvl_body {pr : Prims} {f : FuncId} (h : pr (.func f) = none) (n : Nat) (args : List Value) (H : Heap) : lvl P pr (n + 1) (.func f) args H = body P (lvl P pr n) (loopN n) f args H := by
  simp [lvl, h]
theorem lvl_prim {pr : Prims} {f : Fn} {p : List Value → Heap → Option (Value × Heap)} (h : pr f = some p) (n : Nat) (args : List Value) (H : Heap) : lvl P pr (n + 1) f args H = p args H := by
  simp [lvl, h]

/-- one round of a loop -/
def again {α : Type} (n : Nat) (B : (Ex → K α) → K α) (k : Ex → K α) : Ex → K α := fun e => match e with
  | .normal => loopN n B k
  | .exit id => k (.exit id)
  | .ret => k .ret
theorem loop_succ {α : Type} (n : Nat) (B : (Ex → K α) → K α) (k : Ex → K α) : loopN (n + 1) B k = B (again n B k) := rfl
theorem again_normal {α : Type} (n : Nat) (B : (Ex → K α) → K α) (k : Ex → K α) : again n B k .normal = loopN n B k := rfl
theorem again_exit {α : Type} (n : Nat) (B : (Ex → K α) → K α) (k : Ex → K α) (id : Nat) : again n B k (.exit id) = k (.exit id) := rfl
theorem again_ret {α : Type} (n : Nat) (B : (Ex → K α) → K α) (k : Ex → K α) : again n B k .ret = k .ret := rfl

end
end Go.Abs
