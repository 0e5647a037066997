/-
  THE ABSTRACT INTERPRETER's CODE: regions (also those that draw their order), tests, loops, calls, in continuation style; levels of calls, and their limit.
-/
import Derived.Test.YtdobnaldfmpimaaAbsCore
namespace Go.Abs

abbrev K (α : Type) := List Value → Heap → Option α

def putT (t : List Value) (dst : Option Tmp) (v : Value) : List Value :=
  match dst with
  | some d => t.set d v
  | none => t

/-- guarded: run where the guard's value is the wanted one -/
def gd (b : Value) (want : Bool) (m : M Value) : M Value :=
  match b with
  | .bool b => if b = want then m else M.ret undef
  | _ => M.ret undef

def dstOf (ops : List Oper) (j : Nat) : Option Tmp := (ops[j]?).bind (·.dst)

def step (P : Program) (O : Oracle) (ops : List Oper) (t : List Value) (o : Oper) : M Value :=
  match o.guard with
  | none => aOp P O t o
  | some (j, want) =>
    match dstOf ops j with
    | some d => gd (t.getD d undef) want (aOp P O t o)
    | none => M.ret undef

def runOps {α : Type} (P : Program) (O : Oracle) (ops : List Oper) : List Oper → K α → K α
  | [], k => k
  | o :: l, k => fun t H =>
    match step P O ops t o H with
    | none => none
    | some r => runOps P O ops l k (putT t o.dst r.1) r.2

/-! ### a region that draws its order -/

def veqL (f : Value → Value → Bool) : List Value → List Value → Bool
  | [], [] => true
  | x :: xs, y :: ys => f x y && veqL f xs ys
  | _, _ => false

def veq : Nat → Value → Value → Bool
  | 0, _, _ => false
  | n + 1, v, w =>
    match v, w with
    | .bool a, .bool b => a == b
    | .int k a, .int k' b => k == k' && a == b
    | .string a, .string b => a.data.toList == b.data.toList
    | .pointer a, .pointer b => a == b
    | .slice a n c, .slice a' n' c' => a == a' && n == n' && c == c'
    | .map a, .map b => a == b
    | .nilFunc, .nilFunc => true
    | .nilIface, .nilIface => true
    | .agg xs, .agg ys => veqL (veq n) xs.toList ys.toList
    | .tuple xs, .tuple ys => veqL (veq n) xs.toList ys.toList
    | _, _ => false

def chk (x : Option (Value × Heap)) (v : Value) : Bool :=
  match x with
  | some r => veq 4 v r.1
  | none => false

def isEff : Op → Bool
  | .store .. | .mapUpdate .. | .mapEntry .. | .entryStore .. => true
  | .call { callee := .builtin b, .. } => match b with
    | .len | .min | .max => false
    | _ => true
  | .call _ => true
  | _ => false

def isNew : Op → Bool
  | .alloc _ | .box .. | .makeSlice .. | .buildSlice .. | .makeMap .. => true
  | _ => false

def isSl (P : Program) (t : TypeId) : Bool :=
  match P.underlying t with
  | some (.slice _) => true
  | _ => false
def isMp (P : Program) (ts : Array TypeId) : Bool :=
  match (ts.toList[0]?).bind P.underlying with
  | some (.map _ _) => true
  | _ => false

def isLook (P : Program) : Op → Bool
  | .load .. | .slice .. | .lookup .. => true
  | .convert s _ _ => isSl P s
  | .call { callee := .builtin .len, argTypes := ts, .. } => isMp P ts
  | _ => false

def preMask (acc : List Nat) (o : Oper) : Nat :=
  o.after.toList.foldl (fun s e => if Region.binds .any e then s ||| (1 <<< e.on) ||| acc.getD e.on 0 else s) 0

def masks (ops : List Oper) : List Nat := ops.foldl (fun acc o => acc ++ [preMask acc o]) []

def looks (ops : List Oper) (o : Oper) : List Tmp :=
  (o.op.operands.toList.filterMap fun | .tmp t => some t | _ => none) ++
  (match o.guard with
   | some (g, _) => (dstOf ops g).toList
   | none => [])

def ordered (ms : List Nat) (i j : Nat) : Bool := if j < i then (ms.getD i 0).testBit j else (ms.getD j 0).testBit i

/-- may the region's text order stand for all its orders? -/
def drawOk (ops : List Oper) (n : Nat) : Bool :=
  let ms := masks ops
  ops.zipIdx.all fun (o, i) =>
    o.after.toList.all (fun e => !Region.binds .any e || decide (e.on < i)) &&
    (match o.dst with | some d => decide (d < n) | none => true) &&
    ops.zipIdx.all fun (o', j) =>
      i == j ||
      ((!(isEff o.op && isEff o'.op) || ordered ms i j) &&
       (match o'.dst with
        | some d => (!(looks ops o).contains d && o.dst != some d) || ordered ms i j
        | none => true))

structure Rd where
  i : Nat
  o : Oper
  t : List Value
  v : Value
structure Ef where
  i : Nat
  h : Heap

def runDraw {α : Type} (P : Program) (O : Oracle) (ops : List Oper) (ms : List Nat) : List Oper → Nat → List Rd → List Ef → K α → K α
  | [], _, _, _, k => k
  | o :: l, i, rs, es, k => fun t H =>
    match step P O ops t o H with
    | none => none
    | some r =>
      if isEff o.op = true then
        if rs.all (fun q => (ms.getD i 0).testBit q.i || chk (step P O ops q.t q.o r.2) q.v) = true then
          runDraw P O ops ms l (i + 1) rs (⟨i, H⟩ :: es) k (putT t o.dst r.1) r.2
        else none
      else if isLook P o.op = true then
        if es.all (fun e => (ms.getD i 0).testBit e.i || chk (step P O ops t o e.h) r.1) = true then
          runDraw P O ops ms l (i + 1) (⟨i, o, t, r.1⟩ :: rs) es k (putT t o.dst r.1) r.2
        else none
      else runDraw P O ops ms l (i + 1) rs es k (putT t o.dst r.1) r.2

/-! ### code -/

inductive Ex where
  | normal
  | exit (id : Nat)
  | ret

abbrev Loops (α : Type) := ((Ex → K α) → K α) → (Ex → K α) → K α

def runCode {α : Type} (P : Program) (O : Oracle) (L : Loops α) : Code → (Ex → K α) → K α
  | .skip, k => k .normal
  | .region _ ops draw, k =>
    if draw = true then fun t H =>
      if drawOk ops.toList t.length = true then runDraw P O ops.toList (masks ops.toList) ops.toList 0 [] [] (k .normal) t H else none
    else runOps P O ops.toList ops.toList (k .normal)
  | .seq a b, k => runCode P O L a fun e => match e with
    | .normal => runCode P O L b k
    | .exit id => k (.exit id)
    | .ret => k .ret
  | .cond c a b, k => fun t H =>
    match opv t c with
    | some (.bool x) => if x = true then runCode P O L a k t H else runCode P O L b k t H
    | _ => none
  | .block id c, k => runCode P O L c fun e => match e with
    | .normal => k .normal
    | .exit j => if j = id then k .normal else k (.exit j)
    | .ret => k .ret
  | .loop c, k => L (runCode P O L c) k
  | .scope c, k => runCode P O L c k
  | .label _, k => k .normal
  | .exit id, k => k (.exit id)
  | .ret, k => k .ret
  | _, _ => fun _ _ => none

def loopN {α : Type} : Nat → Loops α
  | 0, _, _ => fun _ _ => none
  | n + 1, B, k => B fun e => match e with
    | .normal => loopN n B k
    | .exit id => k (.exit id)
    | .ret => k .ret

end Go.Abs
