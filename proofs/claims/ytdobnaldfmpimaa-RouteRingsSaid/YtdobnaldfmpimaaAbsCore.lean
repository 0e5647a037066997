/-
  AN ABSTRACT INTERPRETER for the code that the loader makes: heaps are lists of blocks; append beyond what is known makes a new block; no tape, no orders. What it computes is what the model computes (AbsCode). Definitions alone.
-/
import Derived.Calls
import Derived.LoopN
import Derived.Orders
import Derived.Laws.Sem
import Derived.Laws.Tables
namespace Go.Abs

/-- Read alone; a variable; a row that append may let grow. -/
inductive Kind where
  | ro | fix | row
  deriving DecidableEq

structure Ent where
  key : Value
  val : Value
  born : Nat

inductive Blk where
  | cells (cs : List Value) (elem : TypeId) (k : Kind)
  | map (es : List Ent) (clock : Nat)
  | dead

abbrev Heap := List Blk

def M (α : Type) : Type := Heap → Option (α × Heap)

namespace M
variable {α β : Type}
def ret (a : α) : M α := fun H => some (a, H)
def fail : M α := fun _ => none
def run (m : M α) (H : Heap) : Option (α × Heap) := m H
def bind (m : M α) (k : α → M β) : M β := fun H =>
  match m H with
  | none => none
  | some r => k r.1 r.2
def ofOpt : Option α → M α
  | none => fail
  | some a => ret a
end M

abbrev adr (b o : Nat) : Value := .pointer (some ⟨b, o, none⟩)

def pur {α : Type} (P : Program) : Sem α → Option α
  | .pure a => some a
  | .program k => pur P (k P)
  | _ => none

/-! ### reading and writing -/

def ld1 (v : Value) : M Value := fun H =>
  match v with
  | .pointer (some ⟨b, o, none⟩) =>
    match H[b]? with
    | some (.cells cs _ _) =>
      match cs[o]? with
      | some x => some (x, H)
      | none => none
    | _ => none
  | _ => none

def ldN (n : Nat) (v : Value) : M Value := fun H =>
  match v with
  | .pointer (some ⟨b, o, none⟩) =>
    match H[b]? with
    | some (.cells cs _ _) => if o + n ≤ cs.length then some (.agg ((cs.drop o).take n).toArray, H) else none
    | _ => none
  | _ => none

def setCells (cs : List Value) (o : Nat) : List Value → List Value
  | [] => cs
  | x :: xs => setCells (cs.set o x) (o + 1) xs

def allCells (vs : List Value) : Bool := vs.all (·.oneCell')

def stN (n : Nat) (a v : Value) : M Value := fun H =>
  match a with
  | .pointer (some ⟨b, o, none⟩) =>
    match H[b]? with
    | some (.cells cs e k) =>
      if k ≠ .ro ∧ v.cells.toList.length = n ∧ o + n ≤ cs.length ∧ allCells v.cells.toList = true then
        some (undef, H.set b (.cells (setCells cs o v.cells.toList) e k))
      else none
    | _ => none
  | _ => none

def newB (e : TypeId) (cs : List Value) (k : Kind) : M Value := fun H => some (adr H.length 0, H ++ [.cells cs e k])

/-! ### places -/

def nilChk (v : Value) : Option Value :=
  match v with
  | .pointer (some a) => some (.pointer (some a))
  | .func (.func f) x y => some (.func (.func f) x y)
  | .func (.yield f) x y => some (.func (.yield f) x y)
  | _ => none

def fAddr (off : Nat) (v : Value) : Option Value :=
  match v with
  | .pointer (some ⟨b, o, none⟩) => some (adr b (o + off))
  | _ => none

def iAddr (sz : Nat) (v i : Value) : Option Value :=
  match v, i with
  | .slice (some ⟨b, o, none⟩) n _, .int _ i => if 0 ≤ i ∧ i < (n : Int) then some (adr b (o + i.toNat * sz)) else none
  | _, _ => none

def aAddr (len sz : Nat) (v i : Value) : Option Value :=
  match v, i with
  | .pointer (some ⟨b, o, none⟩), .int _ i => if 0 ≤ i ∧ i < (len : Int) then some (adr b (o + i.toNat * sz)) else none
  | _, _ => none

/-- a part of a struct or an array that is a value -/
def part1 (off : Nat) (v : Value) : Option Value :=
  match v with
  | .agg cs => cs.toList[off]?
  | _ => none
def partN (off n : Nat) (v : Value) : Option Value :=
  match v with
  | .agg cs => some (.agg ((cs.toList.drop off).take n).toArray)
  | _ => none

def ext (i : Nat) (v : Value) : Option Value :=
  match v with
  | .tuple vs => vs.toList[i]?
  | _ => none

def bnd (d : Nat) : Option Value → Option Nat
  | none => some d
  | some (.int _ i) => if 0 ≤ i then some i.toNat else none
  | _ => none

/-- a slice of a slice -/
def slc (P : Program) (sz : Nat) (v : Value) (lo hi mx : Option Value) : M Value := fun H =>
  match v with
  | .slice none 0 0 =>
    match bnd 0 lo, bnd 0 hi, bnd 0 mx with
    | some 0, some 0, some 0 => some (.slice none 0 0, H)
    | _, _, _ => none
  | .slice (some ⟨b, o, none⟩) len cap =>
    match H[b]? with
    | some (.cells _ e k) =>
      match bnd 0 lo, bnd len hi, bnd cap mx with
      | some l, some h, some m =>
        if l ≤ h ∧ h ≤ m ∧ m ≤ cap ∧ (k = .row → P.cellsOf e = sz) then some (.slice (some ⟨b, o + l * sz, none⟩) (h - l) (m - l), H) else none
      | _, _, _ => none
    | _ => none
  | _ => none

/-- a slice of an array that is a variable -/
def slcA (n sz : Nat) (v : Value) (lo hi : Option Value) : M Value := fun H =>
  match v with
  | .pointer (some ⟨b, o, none⟩) =>
    match H[b]? with
    | some (.cells _ _ k) =>
      match bnd 0 lo, bnd n hi with
      | some l, some h => if l ≤ h ∧ h ≤ n ∧ k = .fix then some (.slice (some ⟨b, o + l * sz, none⟩) (h - l) (n - l), H) else none
      | _, _ => none
    | _ => none
  | _ => none

def strBytes (s : ByteArray) : List Value := s.data.toList.map fun b => .int .u8 b.toNat

/-- the cells of the first n elements -/
def srcCells (sz : Nat) (v : Value) (n : Nat) (H : Heap) : Option (List Value) :=
  match v with
  | .slice none 0 0 => if n = 0 then some [] else none
  | .slice (some ⟨b, o, none⟩) len _ =>
    if n = 0 then some [] else
    match H[b]? with
    | some (.cells cs _ _) => if n ≤ len ∧ o + n * sz ≤ cs.length then some ((cs.drop o).take (n * sz)) else none
    | _ => none
  | .string s => if n ≤ s.size ∧ sz = 1 then some ((strBytes s).take n) else none
  | _ => none

def srcLen (v : Value) : Option Nat :=
  match v with
  | .slice none 0 0 => some 0
  | .slice (some _) n _ => some n
  | .string s => some s.size
  | _ => none

def roomy (n bytes : Nat) : Bool := decide ((2 * n + 256) * bytes ≤ 2 ^ 48) && decide (n ≤ 2 ^ 60)

def app (e : TypeId) (sz bytes : Nat) (v w : Value) : M Value := fun H =>
  match srcLen w with
  | none => none
  | some n =>
    match srcCells sz w n H with
    | none => none
    | some new =>
      match v with
      | .slice none 0 0 =>
        if n = 0 then some (.slice none 0 0, H)
        else if roomy n bytes = true then some (.slice (some ⟨H.length, 0, none⟩) n n, H ++ [.cells new e .row]) else none
      | .slice (some ⟨b, o, none⟩) len cap =>
        match H[b]? with
        | some (.cells cs e' k) =>
          if len + n ≤ cap then
            if new = [] then some (.slice (some ⟨b, o, none⟩) (len + n) cap, H)
            else if k ≠ .ro ∧ o + len * sz + n * sz ≤ cs.length ∧ allCells new = true then
              some (.slice (some ⟨b, o, none⟩) (len + n) cap, H.set b (.cells (setCells cs (o + len * sz) new) e' k))
            else none
          else if k = .row ∧ e' = e ∧ o + len * sz ≤ cs.length ∧ roomy (len + n) bytes = true ∧ allCells new = true then
            some (.slice (some ⟨H.length, 0, none⟩) (len + n) (len + n), H.set b .dead ++ [.cells ((cs.drop o).take (len * sz) ++ new) e .row])
          else none
        | _ => none
      | _ => none

def cpy (sz : Nat) (d s : Value) : M Value := fun H =>
  match srcLen s with
  | none => none
  | some sn =>
    match d with
    | .slice none 0 0 => some (.int .i64 0, H)
    | .slice (some ⟨b, o, none⟩) dn _ =>
      match srcCells sz s (min sn dn) H with
      | none => none
      | some new =>
        match H[b]? with
        | some (.cells cs e k) =>
          if k ≠ .ro ∧ o + min sn dn * sz ≤ cs.length ∧ allCells new = true then
            some (.int .i64 (min sn dn : Nat), H.set b (.cells (setCells cs o new) e k))
          else none
        | _ => none
    | _ => none

def clr (sz : Nat) (zero : List Value) (v : Value) : M Value := fun H =>
  match v with
  | .slice none 0 0 => some (.tuple #[], H)
  | .slice (some ⟨b, o, none⟩) n _ =>
    if n = 0 then some (.tuple #[], H) else
    match H[b]? with
    | some (.cells cs e k) =>
      if k ≠ .ro ∧ o + n * sz ≤ cs.length ∧ zero.length = sz ∧ allCells zero = true then
        some (.tuple #[], H.set b (.cells (setCells cs o (List.replicate n zero).flatten) e k))
      else none
    | _ => none
  | _ => none

def mkSlice (e : TypeId) (sz bytes : Nat) (zero : List Value) (n c : Value) : M Value := fun H =>
  match n, c with
  | .int _ n, .int _ c =>
    if 0 ≤ n ∧ n ≤ c ∧ (bytes : Int) * c ≤ 2 ^ 48 ∧ c < 2 ^ 62 ∧ (zero.length = sz) then
      some (.slice (some ⟨H.length, 0, none⟩) n.toNat c.toNat, H ++ [.cells (List.replicate c.toNat zero).flatten e .row])
    else none
  | _, _ => none

def bytesOf : List Value → Option (List UInt8)
  | [] => some []
  | .int .u8 n :: r => (bytesOf r).map (UInt8.ofNat n.toNat :: ·)
  | _ => none

def toStr (v : Value) : M Value := fun H =>
  match v with
  | .slice none 0 0 => some (.string .empty, H)
  | .slice (some ⟨b, o, none⟩) n _ =>
    if n = 0 then some (.string .empty, H) else
    match H[b]? with
    | some (.cells cs _ _) =>
      if o + n ≤ cs.length then
        match bytesOf ((cs.drop o).take n) with
        | some bs => some (.string ⟨bs.toArray⟩, H)
        | none => none
      else none
    | _ => none
  | _ => none

/-! ### numbers, comparisons -/

def flat : Value → Bool
  | .bool _ | .int _ _ | .string _ => true
  | _ => false

/-- what touches no memory, and answers a number, a bool or a text -/
def purF (P : Program) (s : Sem Value) : Option Value :=
  match pur P s with
  | some r => if flat r = true then some r else none
  | none => none

/-- structs of numbers, field by field (true: a number; false: a bool) -/
def eqT : List Bool → List Value → List Value → Option Bool
  | [], [], [] => some true
  | true :: ks, .int k a :: xs, .int k' b :: ys => if k = k' then (eqT ks xs ys).map fun r => (a == b) && r else none
  | false :: ks, .bool a :: xs, .bool b :: ys => (eqT ks xs ys).map fun r => (a == b) && r
  | _, _, _ => none

/-- '==' of values that hold places: with nil alone -/
def eqV (v w : Value) : Option Bool :=
  match v, w with
  | .pointer none, .pointer none => some true
  | .pointer none, .pointer (some _) => some false
  | .pointer (some _), .pointer none => some false
  | .slice none 0 0, .slice none 0 0 => some true
  | .slice (some _) _ _, .slice none 0 0 => some false
  | .slice none 0 0, .slice (some _) _ _ => some false
  | .map none, .map none => some true
  | .map (some _), .map none => some false
  | .nilFunc, .nilFunc => some true
  | .func _ _ _, .nilFunc => some false
  | _, _ => none

def kindsL (P : Program) : Nat → List Field → Option (List Bool)
  | _, [] => some []
  | i, f :: fs =>
    if f.offset = i ∧ f.name ≠ "_" then
      match P.underlying f.type with
      | some (.int _) => (kindsL P (i + 1) fs).map (true :: ·)
      | some .bool => (kindsL P (i + 1) fs).map (false :: ·)
      | _ => none
    else none

/-- a struct of numbers: its fields' kinds -/
def kindsOf (P : Program) (t : TypeId) : Option (List Bool) :=
  match P.underlying t with
  | some (.struct fs) => if P.stoodInHeld t = false ∧ P.eqGuardType P.depth t = false then kindsL P 0 fs.toList else none
  | _ => none

/-- may values of a type be held against nil? -/
def nilKind (P : Program) (t : TypeId) (v : Value) : Bool :=
  match P.underlying t, v with
  | some (.pointer _), .pointer _ => true
  | some (.slice _), .slice _ _ _ => true
  | some (.map _ _), .map _ => true
  | some (.func _ _ _), .nilFunc => true
  | some (.func _ _ _), .func _ _ _ => true
  | _, _ => false

def eqAny (P : Program) (t : TypeId) (x y : Value) : Option Bool :=
  match x, y with
  | .agg xs, .agg ys =>
    match kindsOf P t with
    | some ks => eqT ks xs.toList ys.toList
    | none => none
  | x, y => if nilKind P t x && nilKind P t y then eqV x y else none

def bin (P : Program) (op : BinOp) (t : TypeId) (x y : Value) : Option Value :=
  if flat x && flat y then purF P (binOp op t x y) else
  match op with
  | .eql => (eqAny P t x y).map .bool
  | .neq => (eqAny P t x y).map fun b => .bool !b
  | _ => none

def un (P : Program) (op : UnOp) (x : Value) : Option Value := if flat x = true then purF P (Op.unary op x) else none

def pick (c a b : Value) : Option Value :=
  match c with
  | .bool c => some (if c then a else b)
  | _ => none

/-! ### maps -/

/-- a key: a number, or a struct of numbers -/
inductive KeyT where
  | num
  | str (ks : List Bool)

def keyT (P : Program) (t : TypeId) : Option KeyT :=
  match P.underlying t with
  | some (.int _) => some .num
  | some (.struct _) => (kindsOf P t).map .str
  | _ => none

def keyEq (kt : KeyT) (v w : Value) : Option Bool :=
  match kt, v, w with
  | .num, .int k a, .int k' b => if k = k' then some (a == b) else none
  | .str ks, .agg xs, .agg ys => eqT ks xs.toList ys.toList
  | _, _, _ => none

def findK (kt : KeyT) (k : Value) : List Ent → Nat → Option (Option (Nat × Ent))
  | [], _ => some none
  | e :: es, i =>
    match keyEq kt k e.key with
    | none => none
    | some true => some (some (i, e))
    | some false => findK kt k es (i + 1)

def mapGet (kt : KeyT) (zero : Value) (ok : Bool) (m k : Value) : M Value := fun H =>
  if keyEq kt k k = some true then
    match m with
    | .map none => some (if ok then .tuple #[zero, .bool false] else zero, H)
    | .map (some b) =>
      match H[b]? with
      | some (.map es _) =>
        match findK kt k es 0 with
        | none => none
        | some none => some (if ok then .tuple #[zero, .bool false] else zero, H)
        | some (some (_, e)) => some (if ok then .tuple #[e.val, .bool true] else e.val, H)
      | _ => none
    | _ => none
  else none

def mapSet (kt : KeyT) (m k v : Value) : M Value := fun H =>
  if keyEq kt k k = some true then
    match m with
    | .map (some b) =>
      match H[b]? with
      | some (.map es c) =>
        match findK kt k es 0 with
        | none => none
        | some none => some (undef, H.set b (.map (es ++ [⟨k, v, c⟩]) (c + 1)))
        | some (some (i, e)) => some (undef, H.set b (.map (es.set i ⟨k, v, e.born⟩) c))
      | _ => none
    | _ => none
  else none

def mapEnt (kt : KeyT) (zero : Value) (m k : Value) : M Value := fun H =>
  if keyEq kt k k = some true then
    match m with
    | .map (some b) =>
      match H[b]? with
      | some (.map es c) =>
        match findK kt k es 0 with
        | none => none
        | some none => some (.tuple #[zero, .int .i64 c], H.set b (.map (es ++ [⟨k, zero, c⟩]) (c + 1)))
        | some (some (i, e)) => some (.tuple #[e.val, .int .i64 e.born], H.set b (.map (es.set i ⟨k, e.val, e.born⟩) c))
      | _ => none
    | _ => none
  else none

def entSet (m s v : Value) : M Value := fun H =>
  match m, s with
  | .map (some b), .int _ s =>
    match H[b]? with
    | some (.map es c) =>
      match es.findIdx? (fun e => (e.born : Int) == s) with
      | some i =>
        match es[i]? with
        | some e => some (undef, H.set b (.map (es.set i ⟨e.key, v, e.born⟩) c))
        | none => none
      | none => none
    | _ => none
  | _, _ => none

def mapDel (kt : KeyT) (m k : Value) : M Value := fun H =>
  if keyEq kt k k = some true then
    match m with
    | .map (some b) =>
      match H[b]? with
      | some (.map es c) =>
        match findK kt k es 0 with
        | none => none
        | some none => some (.tuple #[], H)
        | some (some (i, _)) => some (.tuple #[], H.set b (.map (es.eraseIdx i) c))
      | _ => none
    | _ => none
  else none

def lenSl (v : Value) : Option Value :=
  match v with
  | .slice none 0 0 => some (.int .i64 0)
  | .slice (some _) n _ => some (.int .i64 n)
  | _ => none
def lenMp (v : Value) : M Value := fun H =>
  match v with
  | .map none => some (.int .i64 0, H)
  | .map (some b) =>
    match H[b]? with
    | some (.map es _) => some (.int .i64 (es.length : Nat), H)
    | _ => none
  | _ => none
def newM : M Value := fun H => some (.map (some H.length), H ++ [.map [] 0])
def lenStr (v : Value) : Option Value :=
  match v with
  | .string s => some (.int .i64 s.size)
  | _ => none

/-! ### operations -/

/-- constants without a place -/
def litCell : Value → Bool
  | .bool _ | .int _ _ | .string _ | .pointer none | .slice none 0 0 | .map none | .nilFunc | .nilIface => true
  | _ => false
def lit : Value → Bool
  | .agg cs => cs.toList.all litCell
  | .tuple cs => cs.toList.all litCell
  | v => litCell v

def opv (t : List Value) : Operand → Option Value
  | .tmp i => some (t.getD i undef)
  | .const v => if lit v then some v else none
  | .func f => some (.func (.func f) #[] #[])
  | .global _ => none

def opvs (t : List Value) : List Operand → Option (List Value)
  | [] => some []
  | x :: xs => match opv t x, opvs t xs with
    | some v, some vs => some (v :: vs)
    | _, _ => none

def opvO (t : List Value) : Option Operand → Option (Option Value)
  | none => some none
  | some x => (opv t x).map some

/-- who is called, with what, on which heap: what it answers, and the heap behind it -/
abbrev Oracle := Fn → List Value → Heap → Option (Value × Heap)

/-- is a value of the type made of parts? -/
def aggOf (P : Program) (t : TypeId) : Option Bool :=
  match P.underlying t with
  | some (.struct _) | some (.array _ _) => some true
  | some _ => some false
  | none => none
def zeroT (P : Program) (t : TypeId) : Option Value := (P.info? t).bind (·.zero)
/-- a zero value without a place -/
def zeroL (P : Program) (t : TypeId) : Option Value :=
  match zeroT P t with
  | some z => if z.cells.toList.all litCell = true then some z else none
  | none => none
def infoB (P : Program) (t : TypeId) : Option (Nat × Nat) := (P.info? t).map fun i => (i.size, i.bytes)

def callV (O : Oracle) (f : Value) (args : List Value) : M Value :=
  match f with
  | .func fn first cap => O fn (first.toList ++ args ++ cap.toList)
  | _ => M.fail

def minmax (P : Program) (mx : Bool) (vs : List Value) : Option Value :=
  if vs.all flat = true then (if mx = true then purF P (Builtin.max_ #[] 0 vs.toArray) else purF P (Builtin.min_ #[] 0 vs.toArray)) else none

def mapTy (P : Program) (t : TypeId) : Option (TypeId × TypeId) :=
  match P.underlying t with
  | some (.map k e) => some (k, e)
  | _ => none

def lenM (P : Program) (ts : Array TypeId) (v : Value) : M Value :=
  match (ts.toList[0]?).bind (mapTy P) with
  | some _ => lenMp v
  | none => M.fail
def delM (P : Program) (ts : Array TypeId) (m k : Value) : M Value :=
  match (ts.toList[0]?).bind (mapTy P) with
  | some p =>
    match keyT P p.1 with
    | some kt => mapDel kt m k
    | none => M.fail
  | none => M.fail

def del2 (P : Program) (ts : Array TypeId) (vs : List Value) : M Value :=
  match vs with
  | [m, k] => delM P ts m k
  | _ => M.fail
def moreB (P : Program) (b : Builtin) (ts : Array TypeId) (vs : List Value) : M Value :=
  match b with
  | .delete => del2 P ts vs
  | _ => M.fail

def aBuiltin (P : Program) (b : Builtin) (ts : Array TypeId) (vs : List Value) : M Value :=
  match b, vs with
  | .len, [v] =>
    match (ts.toList[0]?).bind P.underlying with
    | some .string => M.ofOpt (lenStr v)
    | some (.slice _) => M.ofOpt (lenSl v)
    | _ => lenM P ts v
  | .append, [v, w] =>
    match (ts.toList[0]?).bind P.underlying with
    | some (.slice e) =>
      match infoB P e, zeroT P e, (ts.toList[1]?).bind P.underlying with
      | some (sz, bytes), some z, some (.slice _) => if z.cells.size = sz then app e sz bytes v w else M.fail
      | some (sz, bytes), some z, some .string => if z.cells.size = sz then app e sz bytes v w else M.fail
      | _, _, _ => M.fail
    | _ => M.fail
  | .copy, [d, s] =>
    match (ts.toList[0]?).bind P.underlying with
    | some (.slice e) =>
      match infoB P e with
      | some (sz, _) => cpy sz d s
      | none => M.fail
    | _ => M.fail
  | .clear, [v] =>
    match (ts.toList[0]?).bind P.underlying with
    | some (.slice e) =>
      match infoB P e, zeroL P e with
      | some (sz, _), some z => clr sz z.cells.toList v
      | _, _ => M.fail
    | _ => M.fail
  | .min, vs => M.ofOpt (minmax P false vs)
  | .max, vs => M.ofOpt (minmax P true vs)
  | b, vs => moreB P b ts vs

def bld (P : Program) (t : TypeId) (ps : List (Nat × Value)) : Option Value :=
  match zeroL P t with
  | some _ => (P.built t ps).map .agg
  | none => none

def bldSlice (e : TypeId) (sz n : Nat) (zero : List Value) (ps : List (Nat × Value)) : M Value := fun H =>
  match Instr.fill (fun i => some (i * sz, sz)) (List.replicate n zero).flatten.toArray ps with
  | some cs => some (.slice (some ⟨H.length, 0, none⟩) n n, H ++ [.cells cs.toList e .row])
  | none => none

def pairs (t : List Value) : List (Nat × Operand) → Option (List (Nat × Value))
  | [] => some []
  | (i, x) :: xs => match opv t x, pairs t xs with
    | some v, some vs => some ((i, v) :: vs)
    | _, _ => none

def conv (P : Program) (s d : TypeId) (v : Value) : M Value :=
  match P.underlying s, P.underlying d with
  | some (.int _), some (.int k) => match v with
    | .int _ n => M.ret (.int k (k.wrap n))
    | _ => M.fail
  | some .string, some .string => match v with
    | .string s => M.ret (.string s)
    | _ => M.fail
  | some (.slice e), some .string => match P.underlying e with
    | some (.int .u8) => toStr v
    | _ => M.fail
  | _, _ => M.fail

def sliceM (P : Program) (ty : TypeId) (x : Value) (lo hi mx : Option Value) : M Value :=
  match P.underlying ty with
  | some (.slice e) =>
    match infoB P e with
    | some (sz, _) => if mx.isNone = true ∨ hi.isSome = true then slc P sz x lo hi mx else M.fail
    | none => M.fail
  | some (.array n e) =>
    match infoB P e, mx with
    | some (sz, _), none => slcA n sz x lo hi
    | _, _ => M.fail
  | some .string =>
    if flat x = true ∧ lo.all flat = true ∧ hi.all flat = true ∧ mx.isNone = true then M.ofOpt (purF P (Instr.slice ty x lo hi none)) else M.fail
  | _ => M.fail

def aOp (P : Program) (O : Oracle) (t : List Value) (o : Oper) : M Value :=
  match o.op with
  | .move x | .assign x => M.ofOpt (opv t x)
  | .pick c a b =>
    match opv t c, opv t a, opv t b with
    | some c, some a, some b => M.ofOpt (pick c a b)
    | _, _, _ => M.fail
  | .alloc e =>
    match zeroL P e with
    | some z => newB e z.cells.toList .fix
    | none => M.fail
  | .box e x =>
    match opv t x with
    | some v => newB e v.cells.toList .fix
    | none => M.fail
  | .build ty ps =>
    match pairs t ps.toList with
    | some ps => M.ofOpt (bld P ty ps)
    | none => M.fail
  | .buildSlice ty n ps =>
    match P.underlying ty with
    | some (.slice e) =>
      match infoB P e, zeroL P e, pairs t ps.toList with
      | some (sz, _), some z, some ps => if n * sz ≤ 2 ^ 24 ∧ z.cells.toList.length = sz then bldSlice e sz n z.cells.toList ps else M.fail
      | _, _, _ => M.fail
    | _ => M.fail
  | .load ty a =>
    match opv t a, infoB P ty, aggOf P ty with
    | some a, some (sz, _), some g => if g = true then ldN sz a else ld1 a
    | _, _, _ => M.fail
  | .store ty a x =>
    match opv t a, opv t x, infoB P ty with
    | some a, some v, some (sz, _) => stN sz a v
    | _, _, _ => M.fail
  | .nilCheck x =>
    match opv t x with
    | some v => M.ofOpt (nilChk v)
    | none => M.fail
  | .binOp op ty x y _ =>
    match opv t x, opv t y with
    | some x, some y => M.ofOpt (bin P op ty x y)
    | _, _ => M.fail
  | .unOp op _ x =>
    match opv t x with
    | some x => M.ofOpt (un P op x)
    | none => M.fail
  | .convert s d x =>
    match opv t x with
    | some x => conv P s d x
    | none => M.fail
  | .makeFunc fn a c =>
    match fn, opvs t a.toList, opvs t c.toList with
    | .func f, some a, some c => M.ret (.func (.func f) a.toArray c.toArray)
    | _, _, _ => M.fail
  | .makeSlice ty n c =>
    match P.underlying ty with
    | some (.slice e) =>
      match infoB P e, zeroL P e, opv t n, opv t c with
      | some (sz, bytes), some z, some n, some c => mkSlice e sz bytes z.cells.toList n c
      | _, _, _, _ => M.fail
    | _ => M.fail
  | .slice ty x lo hi mx =>
    match opv t x, opvO t lo, opvO t hi, opvO t mx with
    | some x, some lo, some hi, some mx => sliceM P ty x lo hi mx
    | _, _, _, _ => M.fail
  | .fieldAddr ty x f =>
    match opv t x, P.underlying ty with
    | some x, some (.struct fs) =>
      match fs.toList[f]? with
      | some f => if P.cellsOf f.type = 0 then M.fail else M.ofOpt (fAddr f.offset x)
      | none => M.fail
    | _, _ => M.fail
  | .field ty x f =>
    match opv t x, P.underlying ty with
    | some x, some (.struct fs) =>
      match fs.toList[f]? with
      | some f =>
        match infoB P f.type, aggOf P f.type with
        | some (sz, _), some g => M.ofOpt (if g = true then partN f.offset sz x else part1 f.offset x)
        | _, _ => M.fail
      | none => M.fail
    | _, _ => M.fail
  | .indexAddr ty x i =>
    match opv t x, opv t i, P.underlying ty with
    | some x, some i, some (.slice e) =>
      match infoB P e with
      | some (sz, _) => M.ofOpt (iAddr sz x i)
      | none => M.fail
    | some x, some i, some (.array n e) =>
      match infoB P e with
      | some (sz, _) => M.ofOpt (aAddr n sz x i)
      | none => M.fail
    | _, _, _ => M.fail
  | .index ty x i =>
    match opv t x, opv t i, P.underlying ty with
    | some x, some i, some .string => if flat x = true ∧ flat i = true then M.ofOpt (purF P (Instr.index ty x i)) else M.fail
    | _, _, _ => M.fail
  | .extract x i =>
    match opv t x with
    | some v => M.ofOpt (ext i v)
    | none => M.fail
  | .call c =>
    match opvs t c.args.toList with
    | none => M.fail
    | some vs =>
      match c.callee with
      | .value f =>
        match opv t f with
        | some f => callV O f vs
        | none => M.fail
      | .builtin b => aBuiltin P b c.argTypes vs
      | .invoke _ _ => M.fail
  | .makeMap ty r =>
    match r, mapTy P ty with
    | none, some _ => newM
    | _, _ => M.fail
  | .lookup ty x i ok =>
    match opv t x, opv t i, mapTy P ty with
    | some m, some k, some p =>
      match keyT P p.1, zeroL P p.2 with
      | some kt, some z => mapGet kt z ok m k
      | _, _ => M.fail
    | _, _, _ => M.fail
  | .mapUpdate ty x i y =>
    match opv t x, opv t i, opv t y, mapTy P ty with
    | some m, some k, some v, some p =>
      match keyT P p.1 with
      | some kt => mapSet kt m k v
      | none => M.fail
    | _, _, _, _ => M.fail
  | .mapEntry ty x i =>
    match opv t x, opv t i, mapTy P ty with
    | some m, some k, some p =>
      match keyT P p.1, zeroL P p.2 with
      | some kt, some z => mapEnt kt z m k
      | _, _ => M.fail
    | _, _, _ => M.fail
  | .entryStore ty x s y =>
    match opv t x, opv t s, opv t y with
    | some m, some s, some v => entSet m s v
    | _, _, _ => M.fail
  | _ => M.fail

end Go.Abs
