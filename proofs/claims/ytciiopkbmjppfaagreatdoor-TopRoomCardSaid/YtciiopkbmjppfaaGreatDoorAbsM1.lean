/-
  PARTS OF THIS CLAIM'S PROOF, laid together by a program of mine.
-/
import Derived.Calls
import Derived.LoopN
import Derived.Orders
import Derived.Laws.Sem
import Derived.Laws.Tables
import Derived.Laws.Cells
import Derived.Laws.StructEq
import Derived.Laws.Append
import Derived.Laws.MakeOwn
import Derived.Laws.Slices
import Derived.Lib.UnsafeStr
import Derived.Laws.BytesString
import Derived.Laws.BytesArg
import Derived.Laws.Pointers
import Derived.Lib.SliceRun
import Derived.Laws.Cover3
import Derived.MapKept
import Derived.WideKeyRuns
set_option linter.unusedVariables false
set_option linter.unusedSimpArgs false
set_option linter.unusedSectionVars false
namespace Go
theorem aUd:type_of% @List.getElem?_eq_some_iff:=@List.getElem?_eq_some_iff
theorem aUe:type_of% @List.getElem?_set_ne:=@List.getElem?_set_ne
theorem aUf:type_of% @List.getElem?_eq_getElem:=@List.getElem?_eq_getElem
theorem aUg:type_of% @List.getElem?_append_left:=@List.getElem?_append_left
theorem aUh:type_of% @List.getD_eq_getElem?_getD:=@List.getD_eq_getElem?_getD
theorem aUi:type_of% @Nat.le_refl:=@Nat.le_refl
theorem aUj:type_of% @List.getElem?_set_self:=@List.getElem?_set_self
theorem aUk:type_of% @List.append_assoc:=@List.append_assoc
theorem aUl:type_of% @Bool.and_eq_true:=@Bool.and_eq_true
theorem aUm:type_of% @List.mem_cons_self:=@List.mem_cons_self
theorem aUn:type_of% @List.mem_of_getElem?:=@List.mem_of_getElem?
theorem aUo:type_of% @List.getElem?_eq_none:=@List.getElem?_eq_none
theorem aUp:type_of% @List.length_append:=@List.length_append
theorem aUq:type_of% @List.getElem?_map:=@List.getElem?_map
theorem aUr:type_of% @List.length_map:=@List.length_map
theorem aUs:type_of% @Nat.lt_of_lt_of_le:=@Nat.lt_of_lt_of_le
theorem aUt:type_of% @Nat.le_trans:=@Nat.le_trans
theorem aUu:type_of% @List.mem_cons_of_mem:=@List.mem_cons_of_mem
theorem aUv:type_of% @List.length_eq_zero_iff:=@List.length_eq_zero_iff
theorem aUw:type_of% @List.mem_cons:=@List.mem_cons
theorem aUx:type_of% @List.getElem?_append_right:=@List.getElem?_append_right
theorem aUy:type_of% @Nat.zero_add:=@Nat.zero_add
theorem aUz:type_of% @List.length_cons:=@List.length_cons
theorem aUA:type_of% @Bool.true_and:=@Bool.true_and
theorem aUB:type_of% @Result.andThen_ok:=@Result.andThen_ok
theorem aUC:type_of% @Array.getElem?_eq_some_iff:=@Array.getElem?_eq_some_iff
theorem aUD:type_of% @List.not_mem_nil:=@List.not_mem_nil
theorem aUE:type_of% @Option.some.injEq:=@Option.some.injEq
theorem aUF:type_of% @Int.toNat_natCast:=@Int.toNat_natCast
theorem aUG:type_of% @Option.getD_some:=@Option.getD_some
theorem aUH:type_of% @List.length_range:=@List.length_range
theorem aUI:type_of% @List.map_cons:=@List.map_cons
theorem aUJ:type_of% @Option.map_eq_some_iff:=@Option.map_eq_some_iff
theorem aUK:type_of% @Array.getD_eq_getD_getElem?:=@Array.getD_eq_getD_getElem?
theorem aUL:type_of% @Nat.mod_eq_of_lt:=@Nat.mod_eq_of_lt
theorem aUM:type_of% @List.range_succ:=@List.range_succ
theorem aUN:type_of% @List.flatten_cons:=@List.flatten_cons
theorem aUO:type_of% @List.ext_getElem?:=@List.ext_getElem?
theorem aUP:type_of% @Option.some.inj:=@Option.some.inj
theorem aUQ:type_of% @List.mem_map:=@List.mem_map
theorem aUR:type_of% @List.mem_range:=@List.mem_range
theorem aUS:type_of% @List.all_eq_true:=@List.all_eq_true
theorem aUT:type_of% @List.length_replicate:=@List.length_replicate
theorem aUU:type_of% @List.getElem?_replicate:=@List.getElem?_replicate
theorem aUV:type_of% @List.getElem?_range:=@List.getElem?_range
theorem aUW:type_of% @List.drop_drop:=@List.drop_drop
theorem aUX:type_of% @decide_eq_true:=@decide_eq_true
theorem aUY:type_of% @decide_eq_false:=@decide_eq_false
theorem aA{i:Nat}(h:i<4611686018427387904):IntKind.i64.wrap ((i:Int)+1)=((i+1:Nat):Int):=by
 simp[IntKind.wrap,IntKind.bits,IntKind.signed];omega
theorem aB(k:Nat)(h:0<k): ∃n,k=n+1:=⟨k-1,by omega⟩
theorem U{p:Prop}(h:p:=by omega):p:=h
theorem aC{p:Prop}(h:p:=by decide):p:=h
theorem aD{α:Sort _}(a:α): ∃b,b=a:=⟨a,rfl⟩
abbrev Value.I(n:Int):Value:=.int .i64 n
abbrev Value.N:Value:=.slice none 0 0
abbrev Value.Q(b o:Nat):Value:=.pointer (some ⟨b,o,none⟩)
end Go
namespace Go.Abs
inductive Kind where
 |ro|fix|row
 deriving DecidableEq
structure Ent where
 key:Value
 val:Value
 born:Nat
inductive Blk where
 |cells (cs:List Value)(elem:TypeId)(k:Kind)
 |map (es:List Ent)(clock:Nat)
 |dead
abbrev aF:=List Blk
def M (α:Type):Type:=aF->Option (α×aF)
namespace M
variable {α β : Type}
def aX (a:α):M α:=λH=>some (a,H)
def cH:M α:=λ_=>none
def qL (m:M α)(H:aF):Option (α×aF):=m H
def aP:Option α->M α
 |none=>cH
 |some a=>aX a
end M

open M
abbrev adr (b o:Nat):Value:= .pointer (some ⟨b,o,none⟩)
def pur {α:Type}(P:Program):Sem α->Option α
 | .pure a=>some a
 | .program k=>pur P (k P)
 |_=>none
def ld1 (v:Value):M Value:=λH=>
 match v with
 | .pointer (some ⟨b,o,none⟩)=>
  match H[b]? with
  |some (.cells cs _ _)=>
   match cs[o]? with
   |some x=>some (x,H)
   |none=>none
  |_=>none
 |_=>none
def ldN (n:Nat)(v:Value):M Value:=λH=>
 match v with
 | .pointer (some ⟨b,o,none⟩)=>
  match H[b]? with
  |some (.cells cs _ _)=>if o+n<=cs.length then some (.agg ((cs.drop o).take n).toArray,H) else none
  |_=>none
 |_=>none
def cU (cs:List Value)(o:Nat):List Value->List Value
 |[]=>cs
 |x::xs=>cU (cs.set o x) (o+1) xs
def cA (vs:List Value):Bool:=vs.all (·.oneCell')
def stN (n:Nat)(a v:Value):M Value:=λH=>
 match a with
 | .pointer (some ⟨b,o,none⟩)=>
  match H[b]? with
  |some (.cells cs e k)=>
   if k≠ .ro/\v.cells.toList.length=n/\o+n<=cs.length/\cA v.cells.toList=true then
    some (undef,H.set b (.cells (cU cs o v.cells.toList) e k))
   else none
  |_=>none
 |_=>none
def aZ (e:TypeId)(cs:List Value)(k:Kind):M Value:=λH=>some (adr H.length 0,H++[.cells cs e k])
def nC (v:Value):Option Value:=
 match v with
 | .pointer (some a)=>some (.pointer (some a))
 | .func (.func f) x y=>some (.func (.func f) x y)
 | .func (.yield f) x y=>some (.func (.yield f) x y)
 |_=>none
def mJ (off:Nat)(v:Value):Option Value:=
 match v with
 | .pointer (some ⟨b,o,none⟩)=>some (adr b (o+off))
 |_=>none
def cN (sz:Nat)(v i:Value):Option Value:=
 match v,i with
 | .slice (some ⟨b,o,none⟩) n _,.int _ i=>if 0<=i/\i<(n:Int) then some (adr b (o+i.toNat*sz)) else none
 |_,_=>none
def pD (len sz:Nat)(v i:Value):Option Value:=
 match v,i with
 | .pointer (some ⟨b,o,none⟩),.int _ i=>if 0<=i/\i<(len:Int) then some (adr b (o+i.toNat*sz)) else none
 |_,_=>none
def pF (off:Nat)(v:Value):Option Value:=
 match v with
 | .agg cs=>cs.toList[off]?
 |_=>none
def Jo (off n:Nat)(v:Value):Option Value:=
 match v with
 | .agg cs=>some (.agg ((cs.toList.drop off).take n).toArray)
 |_=>none
def ext (i:Nat)(v:Value):Option Value:=
 match v with
 | .tuple vs=>vs.toList[i]?
 |_=>none
def bnd (d:Nat):Option Value->Option Nat
 |none=>some d
 |some (.int _ i)=>if 0<=i then some i.toNat else none
 |_=>none
def slc (P:Program)(sz:Nat)(v:Value)(lo hi mx:Option Value):M Value:=λH=>
 match v with
 | .slice none 0 0=>
  match bnd 0 lo,bnd 0 hi,bnd 0 mx with
  |some 0,some 0,some 0=>some (.slice none 0 0,H)
  |_,_,_=>none
 | .slice (some ⟨b,o,none⟩) len cap=>
  match H[b]? with
  |some (.cells _ e k)=>
   match bnd 0 lo,bnd len hi,bnd cap mx with
   |some l,some h,some m=>
    if l<=h/\h<=m/\m<=cap/\(k= .row->P.cellsOf e=sz) then some (.slice (some ⟨b,o+l*sz,none⟩) (h-l) (m-l),H) else none
   |_,_,_=>none
  |_=>none
 |_=>none
def pG (n sz:Nat)(v:Value)(lo hi:Option Value):M Value:=λH=>
 match v with
 | .pointer (some ⟨b,o,none⟩)=>
  match H[b]? with
  |some (.cells _ _ k)=>
   match bnd 0 lo,bnd n hi with
   |some l,some h=>if l<=h/\h<=n/\k= .fix then some (.slice (some ⟨b,o+l*sz,none⟩) (h-l) (n-l),H) else none
   |_,_=>none
  |_=>none
 |_=>none
def rP (s:ByteArray):List Value:=s.data.toList.map λb=> .int .u8 b.toNat
def dY (sz:Nat)(v:Value)(n:Nat)(H:aF):Option (List Value):=
 match v with
 | .slice none 0 0=>if n=0 then some [] else none
 | .slice (some ⟨b,o,none⟩) len _=>
  if n=0 then some [] else
  match H[b]? with
  |some (.cells cs _ _)=>if n<=len/\o+n*sz<=cs.length then some ((cs.drop o).take (n*sz)) else none
  |_=>none
 | .string s=>if n<=s.size/\sz=1 then some ((rP s).take n) else none
 |_=>none
def iN (v:Value):Option Nat:=
 match v with
 | .slice none 0 0=>some 0
 | .slice (some _) n _=>some n
 | .string s=>some s.size
 |_=>none
def eH (n bytes:Nat):Bool:=decide ((2*n+256)*bytes<=2 ^ 48)&&decide (n<=2 ^ 60)
def app (e:TypeId)(sz bytes:Nat)(v w:Value):M Value:=λH=>
 match iN w with
 |none=>none
 |some n=>
  match dY sz w n H with
  |none=>none
  |some new=>
   match v with
   | .slice none 0 0=>
    if n=0 then some (.slice none 0 0,H)
    else if eH n bytes=true then some (.slice (some ⟨H.length,0,none⟩) n n,H++[.cells new e .row]) else none
   | .slice (some ⟨b,o,none⟩) len cap=>
    match H[b]? with
    |some (.cells cs e' k)=>
     if len+n<=cap then
      if new=[] then some (.slice (some ⟨b,o,none⟩) (len+n) cap,H)
      else if k≠ .ro/\o+len*sz+n*sz<=cs.length/\cA new=true then
       some (.slice (some ⟨b,o,none⟩) (len+n) cap,H.set b (.cells (cU cs (o+len*sz) new) e' k))
      else none
     else if k= .row/\e'=e/\o+len*sz<=cs.length/\eH (len+n) bytes=true/\cA new=true then
      some (.slice (some ⟨H.length,0,none⟩) (len+n) (len+n),H.set b .dead++[.cells ((cs.drop o).take (len*sz)++new) e .row])
     else none
    |_=>none
   |_=>none
def cpy (sz:Nat)(d s:Value):M Value:=λH=>
 match iN s with
 |none=>none
 |some sn=>
  match d with
  | .slice none 0 0=>some (.int .i64 0,H)
  | .slice (some ⟨b,o,none⟩) dn _=>
   match dY sz s (min sn dn) H with
   |none=>none
   |some new=>
    match H[b]? with
    |some (.cells cs e k)=>
     if k≠ .ro/\o+min sn dn*sz<=cs.length/\cA new=true then
      some (.int .i64 (min sn dn:Nat),H.set b (.cells (cU cs o new) e k))
     else none
    |_=>none
  |_=>none
def clr (sz:Nat)(zero:List Value)(v:Value):M Value:=λH=>
 match v with
 | .slice none 0 0=>some (.tuple #[],H)
 | .slice (some ⟨b,o,none⟩) n _=>
  if n=0 then some (.tuple #[],H) else
  match H[b]? with
  |some (.cells cs e k)=>
   if k≠ .ro/\o+n*sz<=cs.length/\zero.length=sz/\cA zero=true then
    some (.tuple #[],H.set b (.cells (cU cs o (List.replicate n zero).flatten) e k))
   else none
  |_=>none
 |_=>none
def gU (e:TypeId)(sz bytes:Nat)(zero:List Value)(n c:Value):M Value:=λH=>
 match n,c with
 | .int _ n,.int _ c=>
  if 0<=n/\n<=c/\(bytes:Int)*c<=2 ^ 48/\c<2 ^ 62/\(zero.length=sz) then
   some (.slice (some ⟨H.length,0,none⟩) n.toNat c.toNat,H++[.cells (List.replicate c.toNat zero).flatten e .row])
  else none
 |_,_=>none
def yP:List Value->Option (List UInt8)
 |[]=>some []
 | .int .u8 n::r=>(yP r).map (UInt8.ofNat n.toNat:: ·)
 |_=>none
def oN (v:Value):M Value:=λH=>
 match v with
 | .slice none 0 0=>some (.string .empty,H)
 | .slice (some ⟨b,o,none⟩) n _=>
  if n=0 then some (.string .empty,H) else
  match H[b]? with
  |some (.cells cs _ _)=>
   if o+n<=cs.length then
    match yP ((cs.drop o).take n) with
    |some bs=>some (.string ⟨bs.toArray⟩,H)
    |none=>none
   else none
  |_=>none
 |_=>none
def cL:Value->Bool
 | .bool _| .int _ _| .string _=>true
 |_=>false
def eN (P:Program)(s:Sem Value):Option Value:=
 match pur P s with
 |some r=>if cL r=true then some r else none
 |none=>none
def eqT:List Bool->List Value->List Value->Option Bool
 |[],[],[]=>some true
 |true::ks,.int k a::xs,.int k' b::ys=>if k=k' then(eqT ks xs ys).map λr=>(a==b)&&r else none
 |false::ks,.bool a::xs,.bool b::ys=>(eqT ks xs ys).map λr=>(a==b)&&r
 |_,_,_=>none
def eqV (v w:Value):Option Bool:=
 match v,w with
 | .pointer none,.pointer none=>some true
 | .pointer none,.pointer (some _)=>some false
 | .pointer (some _),.pointer none=>some false
 | .slice none 0 0,.slice none 0 0=>some true
 | .slice (some _) _ _,.slice none 0 0=>some false
 | .slice none 0 0,.slice (some _) _ _=>some false
 | .map none,.map none=>some true
 | .map (some _),.map none=>some false
 | .nilFunc,.nilFunc=>some true
 | .func _ _ _,.nilFunc=>some false
 |_,_=>none
def qN (P:Program):Nat->List Field->Option (List Bool)
 |_,[]=>some []
 |i,f::fs=>
  if f.offset=i/\f.name≠ "_" then
   match P.underlying f.type with
   |some (.int _)=>(qN P (i+1) fs).map (true:: ·)
   |some .bool=>(qN P (i+1) fs).map (false:: ·)
   |_=>none
  else none
def rM (P:Program)(t:TypeId):Option (List Bool):=
 match P.underlying t with
 |some (.struct fs)=>if P.stoodInHeld t=false/\P.eqGuardType P.depth t=false then qN P 0 fs.toList else none
 |_=>none
def gV (P:Program)(t:TypeId)(v:Value):Bool:=
 match P.underlying t,v with
 |some (.pointer _),.pointer _=>true
 |some (.slice _),.slice _ _ _=>true
 |some (.map _ _),.map _=>true
 |some (.func _ _ _),.nilFunc=>true
 |some (.func _ _ _),.func _ _ _=>true
 |_,_=>false
def jZ (P:Program)(t:TypeId)(x y:Value):Option Bool:=
 match x,y with
 | .agg xs,.agg ys=>
  match rM P t with
  |some ks=>eqT ks xs.toList ys.toList
  |none=>none
 |x,y=>if gV P t x&&gV P t y then eqV x y else none
def bin (P:Program)(op:BinOp)(t:TypeId)(x y:Value):Option Value:=
 if cL x&&cL y then eN P (binOp op t x y) else
 match op with
 | .eql=>(jZ P t x y).map .bool
 | .neq=>(jZ P t x y).map λb=> .bool !b
 |_=>none
def un (P:Program)(op:UnOp)(x:Value):Option Value:=if cL x=true then eN P (Op.unary op x) else none
def yS (c a b:Value):Option Value:=
 match c with
 | .bool c=>some (if c then a else b)
 |_=>none
inductive KeyT where
 |num
 |str (ks:List Bool)
def pE (P:Program)(t:TypeId):Option KeyT:=
 match P.underlying t with
 |some (.int _)=>some .num
 |some (.struct _)=>(rM P t).map .str
 |_=>none
def fT (kt:KeyT)(v w:Value):Option Bool:=
 match kt,v,w with
 | .num,.int k a,.int k' b=>if k=k' then some (a==b) else none
 | .str ks,.agg xs,.agg ys=>eqT ks xs.toList ys.toList
 |_,_,_=>none
def jD (kt:KeyT)(k:Value):List Ent->Nat->Option (Option (Nat×Ent))
 |[],_=>some none
 |e::es,i=>
  match fT kt k e.key with
  |none=>none
  |some true=>some (some (i,e))
  |some false=>jD kt k es (i+1)
def jE (kt:KeyT)(zero:Value)(ok:Bool)(m k:Value):M Value:=λH=>
 if fT kt k k=some true then
  match m with
  | .map none=>some (if ok then .tuple #[zero,.bool false] else zero,H)
  | .map (some b)=>
   match H[b]? with
   |some (.map es _)=>
    match jD kt k es 0 with
    |none=>none
    |some none=>some (if ok then .tuple #[zero,.bool false] else zero,H)
    |some (some (_,e))=>some (if ok then .tuple #[e.val,.bool true] else e.val,H)
   |_=>none
  |_=>none
 else none
def kS (kt:KeyT)(m k v:Value):M Value:=λH=>
 if fT kt k k=some true then
  match m with
  | .map (some b)=>
   match H[b]? with
   |some (.map es c)=>
    match jD kt k es 0 with
    |none=>none
    |some none=>some (undef,H.set b (.map (es++[⟨k,v,c⟩]) (c+1)))
    |some (some (i,e))=>some (undef,H.set b (.map (es.set i ⟨k,v,e.born⟩) c))
   |_=>none
  |_=>none
 else none
def qO (kt:KeyT)(zero:Value)(m k:Value):M Value:=λH=>
 if fT kt k k=some true then
  match m with
  | .map (some b)=>
   match H[b]? with
   |some (.map es c)=>
    match jD kt k es 0 with
    |none=>none
    |some none=>some (.tuple #[zero,.int .i64 c],H.set b (.map (es++[⟨k,zero,c⟩]) (c+1)))
    |some (some (i,e))=>some (.tuple #[e.val,.int .i64 e.born],H.set b (.map (es.set i ⟨k,e.val,e.born⟩) c))
   |_=>none
  |_=>none
 else none
def qM (m s v:Value):M Value:=λH=>
 match m,s with
 | .map (some b),.int _ s=>
  match H[b]? with
  |some (.map es c)=>
   match es.findIdx? (λe=>(e.born:Int)==s) with
   |some i=>
    match es[i]? with
    |some e=>some (undef,H.set b (.map (es.set i ⟨e.key,v,e.born⟩) c))
    |none=>none
   |none=>none
  |_=>none
 |_,_=>none
def rO (kt:KeyT)(m k:Value):M Value:=λH=>
 if fT kt k k=some true then
  match m with
  | .map (some b)=>
   match H[b]? with
   |some (.map es c)=>
    match jD kt k es 0 with
    |none=>none
    |some none=>some (.tuple #[],H)
    |some (some (i,_))=>some (.tuple #[],H.set b (.map (es.eraseIdx i) c))
   |_=>none
  |_=>none
 else none
def cX (v:Value):Option Value:=
 match v with
 | .slice none 0 0=>some (.int .i64 0)
 | .slice (some _) n _=>some (.int .i64 n)
 |_=>none
def oM (v:Value):M Value:=λH=>
 match v with
 | .map none=>some (.int .i64 0,H)
 | .map (some b)=>
  match H[b]? with
  |some (.map es _)=>some (.int .i64 (es.length:Nat),H)
  |_=>none
 |_=>none
def lV:M Value:=λH=>some (.map (some H.length),H++[.map [] 0])
def Jn (v:Value):Option Value:=
 match v with
 | .string s=>some (.int .i64 s.size)
 |_=>none
def dI:Value->Bool
 | .bool _| .int _ _| .string _| .pointer none| .slice none 0 0| .map none| .nilFunc| .nilIface=>true
 |_=>false
def Dj:Value->Bool
 | .agg cs=>cs.toList.all dI
 | .tuple cs=>cs.toList.all dI
 |v=>dI v
abbrev cY:=List (Option Value)
def gT (t:cY)(s:Nat):Option Value:=t.getD s (some undef)
def opv (t:cY):Operand->Option Value
 | .tmp i=>gT t i
 | .const v=>if Dj v then some v else none
 | .func f=>some (.func (.func f) #[] #[])
 | .global _=>none
def vU (t:cY):List Operand->Option (List Value)
 |[]=>some []
 |x::xs=>match opv t x,vU t xs with
  |some v,some vs=>some (v::vs)
  |_,_=>none
def yQ (t:cY):Option Operand->Option (Option Value)
 |none=>some none
 |some x=>(opv t x).map some
abbrev aH:=Fn->List Value->aF->Option (Value×aF)
def lI (P:Program)(t:TypeId):Option Bool:=
 match P.underlying t with
 |some (.struct _)|some (.array _ _)=>some true
 |some _=>some false
 |none=>none
def nT (P:Program)(t:TypeId):Option Value:=(P.info? t).bind (·.zero)
def pH (P:Program)(t:TypeId):Option Value:=
 match nT P t with
 |some z=>if z.cells.toList.all dI=true then some z else none
 |none=>none
def eW (P:Program)(t:TypeId):Option (Nat×Nat):=(P.info? t).map λi=>(i.size,i.bytes)
def kQ (O:aH)(f:Value)(args:List Value):M Value:=
 match f with
 | .func fn first cap=>O fn (first.toList++args++cap.toList)
 |_=>cH
def gJ (P:Program)(mx:Bool)(vs:List Value):Option Value:=
 if vs.all cL=true then(if mx=true then eN P (Builtin.max_ #[] 0 vs.toArray) else eN P (Builtin.min_ #[] 0 vs.toArray)) else none
def uH (P:Program)(t:TypeId):Option (TypeId×TypeId):=
 match P.underlying t with
 |some (.map k e)=>some (k,e)
 |_=>none
def uG (P:Program)(ts:Array TypeId)(v:Value):M Value:=
 match (ts.toList[0]?).bind (uH P) with
 |some _=>oM v
 |none=>cH
def uF (P:Program)(ts:Array TypeId)(m k:Value):M Value:=
 match (ts.toList[0]?).bind (uH P) with
 |some p=>
  match pE P p.1 with
  |some kt=>rO kt m k
  |none=>cH
 |none=>cH
def Di (P:Program)(ts:Array TypeId)(vs:List Value):M Value:=
 match vs with
 |[m,k]=>uF P ts m k
 |_=>cH
def vT (P:Program)(b:Builtin)(ts:Array TypeId)(vs:List Value):M Value:=
 match b with
 | .delete=>Di P ts vs
 |_=>cH
def rK (P:Program)(b:Builtin)(ts:Array TypeId)(vs:List Value):M Value:=
 match b,vs with
 | .len,[v]=>
  match (ts.toList[0]?).bind P.underlying with
  |some .string=>aP (Jn v)
  |some (.slice _)=>aP (cX v)
  |_=>uG P ts v
 | .append,[v,w]=>
  match (ts.toList[0]?).bind P.underlying with
  |some (.slice e)=>
   match eW P e,nT P e,(ts.toList[1]?).bind P.underlying with
   |some (sz,bytes),some z,some (.slice _)=>if z.cells.size=sz then app e sz bytes v w else cH
   |some (sz,bytes),some z,some .string=>if z.cells.size=sz then app e sz bytes v w else cH
   |_,_,_=>cH
  |_=>cH
 | .copy,[d,s]=>
  match (ts.toList[0]?).bind P.underlying with
  |some (.slice e)=>
   match eW P e with
   |some (sz,_)=>cpy sz d s
   |none=>cH
  |_=>cH
 | .clear,[v]=>
  match (ts.toList[0]?).bind P.underlying with
  |some (.slice e)=>
   match eW P e,pH P e with
   |some (sz,_),some z=>clr sz z.cells.toList v
   |_,_=>cH
  |_=>cH
 | .min,vs=>aP (gJ P false vs)
 | .max,vs=>aP (gJ P true vs)
 |b,vs=>vT P b ts vs
def bld (P:Program)(t:TypeId)(ps:List (Nat×Value)):Option Value:=
 match pH P t with
 |some _=>(P.built t ps).map .agg
 |none=>none
def b9 (e:TypeId)(sz n:Nat)(zero:List Value)(ps:List (Nat×Value)):M Value:=λH=>
 match Instr.fill (λi=>some (i*sz,sz)) (List.replicate n zero).flatten.toArray ps with
 |some cs=>some (.slice (some ⟨H.length,0,none⟩) n n,H++[.cells cs.toList e .row])
 |none=>none
def yR (t:cY):List (Nat×Operand)->Option (List (Nat×Value))
 |[]=>some []
 |(i,x)::xs=>match opv t x,yR t xs with
  |some v,some vs=>some ((i,v)::vs)
  |_,_=>none
def cK (P:Program)(s d:TypeId)(v:Value):M Value:=
 match P.underlying s,P.underlying d with
 |some (.int _),some (.int k)=>match v with
  | .int _ n=>aX (.int k (k.wrap n))
  |_=>cH
 |some .string,some .string=>match v with
  | .string s=>aX (.string s)
  |_=>cH
 |some (.slice e),some .string=>match P.underlying e with
  |some (.int .u8)=>oN v
  |_=>cH
 |_,_=>cH
def tD (P:Program)(ty:TypeId)(x:Value)(lo hi mx:Option Value):M Value:=
 match P.underlying ty with
 |some (.slice e)=>
  match eW P e with
  |some (sz,_)=>if mx.isNone=true∨hi.isSome=true then slc P sz x lo hi mx else cH
  |none=>cH
 |some (.array n e)=>
  match eW P e,mx with
  |some (sz,_),none=>pG n sz x lo hi
  |_,_=>cH
 |some .string=>
  if cL x=true/\lo.all cL=true/\hi.all cL=true/\mx.isNone=true then aP (eN P (Instr.slice ty x lo hi none)) else cH
 |_=>cH
def aOp (P:Program)(O:aH)(t:cY)(o:Oper):M Value:=
 match o.op with
 | .move x| .assign x=>aP (opv t x)
 | .pick c a b=>
  match opv t c,opv t a,opv t b with
  |some c,some a,some b=>aP (yS c a b)
  |_,_,_=>cH
 | .alloc e=>
  match pH P e with
  |some z=>aZ e z.cells.toList .fix
  |none=>cH
 | .box e x=>
  match opv t x with
  |some v=>aZ e v.cells.toList .fix
  |none=>cH
 | .build ty ps=>
  match yR t ps.toList with
  |some ps=>aP (bld P ty ps)
  |none=>cH
 | .buildSlice ty n ps=>
  match P.underlying ty with
  |some (.slice e)=>
   match eW P e,pH P e,yR t ps.toList with
   |some (sz,_),some z,some ps=>if n*sz<=2 ^ 24/\z.cells.toList.length=sz then b9 e sz n z.cells.toList ps else cH
   |_,_,_=>cH
  |_=>cH
 | .load ty a=>
  match opv t a,eW P ty,lI P ty with
  |some a,some (sz,_),some g=>if g=true then ldN sz a else ld1 a
  |_,_,_=>cH
 | .store ty a x=>
  match opv t a,opv t x,eW P ty with
  |some a,some v,some (sz,_)=>stN sz a v
  |_,_,_=>cH
 | .nilCheck x=>
  match opv t x with
  |some v=>aP (nC v)
  |none=>cH
 | .binOp op ty x y _=>
  match opv t x,opv t y with
  |some x,some y=>aP (bin P op ty x y)
  |_,_=>cH
 | .unOp op _ x=>
  match opv t x with
  |some x=>aP (un P op x)
  |none=>cH
 | .convert s d x=>
  match opv t x with
  |some x=>cK P s d x
  |none=>cH
 | .makeFunc fn a c=>
  match fn,vU t a.toList,vU t c.toList with
  | .func f,some a,some c=>aX (.func (.func f) a.toArray c.toArray)
  |_,_,_=>cH
 | .makeSlice ty n c=>
  match P.underlying ty with
  |some (.slice e)=>
   match eW P e,pH P e,opv t n,opv t c with
   |some (sz,bytes),some z,some n,some c=>gU e sz bytes z.cells.toList n c
   |_,_,_,_=>cH
  |_=>cH
 | .slice ty x lo hi mx=>
  match opv t x,yQ t lo,yQ t hi,yQ t mx with
  |some x,some lo,some hi,some mx=>tD P ty x lo hi mx
  |_,_,_,_=>cH
 | .fieldAddr ty x f=>
  match opv t x,P.underlying ty with
  |some x,some (.struct fs)=>
   match fs.toList[f]? with
   |some f=>if P.cellsOf f.type=0 then cH else aP (mJ f.offset x)
   |none=>cH
  |_,_=>cH
 | .field ty x f=>
  match opv t x,P.underlying ty with
  |some x,some (.struct fs)=>
   match fs.toList[f]? with
   |some f=>
    match eW P f.type,lI P f.type with
    |some (sz,_),some g=>aP (if g=true then Jo f.offset sz x else pF f.offset x)
    |_,_=>cH
   |none=>cH
  |_,_=>cH
 | .indexAddr ty x i=>
  match opv t x,opv t i,P.underlying ty with
  |some x,some i,some (.slice e)=>
   match eW P e with
   |some (sz,_)=>aP (cN sz x i)
   |none=>cH
  |some x,some i,some (.array n e)=>
   match eW P e with
   |some (sz,_)=>aP (pD n sz x i)
   |none=>cH
  |_,_,_=>cH
 | .index ty x i=>
  match opv t x,opv t i,P.underlying ty with
  |some x,some i,some .string=>if cL x=true/\cL i=true then aP (eN P (Instr.index ty x i)) else cH
  |_,_,_=>cH
 | .extract x i=>
  match opv t x with
  |some v=>aP (ext i v)
  |none=>cH
 | .call c=>
  match vU t c.args.toList with
  |none=>cH
  |some vs=>
   match c.callee with
   | .value f=>
    match opv t f with
    |some f=>kQ O f vs
    |none=>cH
   | .builtin b=>rK P b c.argTypes vs
   | .invoke _ _=>cH
 | .makeMap ty r=>
  match r,uH P ty with
  |none,some _=>lV
  |_,_=>cH
 | .lookup ty x i ok=>
  match opv t x,opv t i,uH P ty with
  |some m,some k,some p=>
   match pE P p.1,pH P p.2 with
   |some kt,some z=>jE kt z ok m k
   |_,_=>cH
  |_,_,_=>cH
 | .mapUpdate ty x i y=>
  match opv t x,opv t i,opv t y,uH P ty with
  |some m,some k,some v,some p=>
   match pE P p.1 with
   |some kt=>kS kt m k v
   |none=>cH
  |_,_,_,_=>cH
 | .mapEntry ty x i=>
  match opv t x,opv t i,uH P ty with
  |some m,some k,some p=>
   match pE P p.1,pH P p.2 with
   |some kt,some z=>qO kt z m k
   |_,_=>cH
  |_,_,_=>cH
 | .entryStore ty x s y=>
  match opv t x,opv t s,opv t y with
  |some m,some s,some v=>qM m s v
  |_,_,_=>cH
 |_=>cH
abbrev K (α:Type):=cY->aF->Option α
def qP (t:cY)(dst:Option Tmp)(v:Value):cY:=
 match dst with
 |some d=>t.set d (some v)
 |none=>t
def gd (b:Value)(want:Bool)(m:M Value):M Value:=
 match b with
 | .bool b=>if b=want then m else aX undef
 |_=>aX undef
def Ay (ops:List Oper)(j:Nat):Option Tmp:=(ops[j]?).bind (·.dst)
def fN (P:Program)(O:aH)(ops:List Oper)(t:cY)(o:Oper):M Value:=
 match o.guard with
 |none=>aOp P O t o
 |some (j,want)=>
  match Ay ops j with
  |some d=>match gT t d with
   |some g=>gd g want (aOp P O t o)
   |none=>cH
  |none=>aX undef
def uJ {α:Type}(P:Program)(O:aH)(ops:List Oper):List Oper->K α->K α
 |[],k=>k
 |o::l,k=>λt H=>
  match fN P O ops t o H with
  |none=>none
  |some r=>uJ P O ops l k (qP t o.dst r.1) r.2
def pJ (f:Value->Value->Bool):List Value->List Value->Bool
 |[],[]=>true
 |x::xs,y::ys=>f x y&&pJ f xs ys
 |_,_=>false
def veq:Nat->Value->Value->Bool
 |0,_,_=>false
 |n+1,v,w=>
  match v,w with
  | .bool a,.bool b=>a==b
  | .int k a,.int k' b=>k==k'&&a==b
  | .string a,.string b=>a.data.toList==b.data.toList
  | .pointer a,.pointer b=>a==b
  | .slice a n c,.slice a' n' c'=>a==a'&&n==n'&&c==c'
  | .map a,.map b=>a==b
  | .nilFunc,.nilFunc=>true
  | .nilIface,.nilIface=>true
  | .agg xs,.agg ys=>pJ (veq n) xs.toList ys.toList
  | .tuple xs,.tuple ys=>pJ (veq n) xs.toList ys.toList
  |_,_=>false
def chk (x:Option (Value×aF))(v:Value):Bool:=
 match x with
 |some r=>veq 4 v r.1
 |none=>false
def dH:Op->Bool
 | .store .. | .mapUpdate .. | .mapEntry .. | .entryStore .. =>true
 | .call {callee:= .builtin b,..}=>match b with
  | .len| .min| .max=>false
  |_=>true
 | .call _=>true
 |_=>false
def oP:Op->Bool
 | .alloc _| .box .. | .makeSlice .. | .buildSlice .. | .makeMap .. =>true
 |_=>false
def Dk (P:Program)(t:TypeId):Bool:=
 match P.underlying t with
 |some (.slice _)=>true
 |_=>false
def Uq (P:Program)(ts:Array TypeId):Bool:=
 match (ts.toList[0]?).bind P.underlying with
 |some (.map _ _)=>true
 |_=>false
def oO (P:Program):Op->Bool
 | .load .. | .slice .. | .lookup .. =>true
 | .convert s _ _=>Dk P s
 | .call {callee:= .builtin .len,argTypes:=ts,..}=>Uq P ts
 |_=>false
def pI (acc:List Nat)(o:Oper):Nat:=
 o.after.toList.foldl (λs e=>if Region.binds .any e then s|||(1<<<e.on)|||acc.getD e.on 0 else s) 0
def mK (ops:List Oper):List Nat:=ops.foldl (λacc o=>acc++[pI acc o]) []
def rQ (ops:List Oper)(o:Oper):List Tmp:=
  (o.op.operands.toList.filterMap λ| .tmp t=>some t|_=>none)++
  (match o.guard with
   |some (g,_)=>(Ay ops g).toList
   |none=>[])
def tE (ms:List Nat)(i j:Nat):Bool:=if j<i then(ms.getD i 0).testBit j else(ms.getD j 0).testBit i
def Jq (ops:List Oper)(n:Nat):Bool:=
  let ms:=mK ops
  ops.zipIdx.all λ(o,i)=>
    o.after.toList.all (λe=> !Region.binds .any e||decide (e.on<i))&&
    (match o.dst with|some d=>decide (d<n)|none=>true)&&
    ops.zipIdx.all λ(o',j)=>
      i==j||
      ((!(dH o.op && dH o'.op) || tE ms i j) &&
       (match o'.dst with
        |some d=>(!(rQ ops o).contains d&&o.dst !=some d)||tE ms i j
        |none=>true))
structure Rd where
 i:Nat
 o:Oper
 t:cY
 v:Value
structure Ef where
 i:Nat
 h:aF
def oQ {α:Type}(P:Program)(O:aH)(ops:List Oper)(ms:List Nat):List Oper->Nat->List Rd->List Ef->K α->K α
 |[],_,_,_,k=>k
 |o::l,i,rs,es,k=>λt H=>
  match fN P O ops t o H with
  |none=>none
  |some r=>
   if dH o.op=true then
    if rs.all (λq=>(ms.getD i 0).testBit q.i||chk (fN P O ops q.t q.o r.2) q.v)=true then
     oQ P O ops ms l (i+1) rs (⟨i,H⟩::es) k (qP t o.dst r.1) r.2
    else none
   else if oO P o.op=true then
    if es.all (λe=>(ms.getD i 0).testBit e.i||chk (fN P O ops t o e.h) r.1)=true then
     oQ P O ops ms l (i+1) (⟨i,o,t,r.1⟩::rs) es k (qP t o.dst r.1) r.2
    else none
   else oQ P O ops ms l (i+1) rs es k (qP t o.dst r.1) r.2
inductive Ex where
 |normal
 |exit (id:Nat)
 |ret
abbrev aI (α:Type):=((Ex->K α)->K α)->(Ex->K α)->K α
def aG:Nat->cY->cY
 |0,l=>l
 |n+1,l=>none::aG n l
def clS:Nat->cY->cY
 |_,[]=>[]
 |m,x::xs=>(match m%2 with|0=>none|_=>x)::clS (m/2) xs
def iO {α:Type}(m:Nat)(k:Ex->K α):Ex->K α:=λe t H=>k e (clS m t) H
def Jp (l:List Tmp):Nat:=l.foldl (λm s=>m|||(1<<<s)) 0
def Dl (s:Nat×Nat)(R:Nat):Nat×Nat:=(s.1,s.2|||(R^^^(R&&&s.1)))
def aEM (ops:List Oper)(s:Nat×Nat)(o:Oper):Nat×Nat:=
 match o.dst with
 |some d=>((Dl s (Jp (rQ ops o))).1|||(1<<<d),(Dl s (Jp (rQ ops o))).2)
 |none=>Dl s (Jp (rQ ops o))
def uI:Code->Nat×Nat->Nat×Nat
 | .region _ ops _,s=>ops.toList.foldl (aEM ops.toList) s
 | .seq a b,s=>uI b (uI a s)
 | .cond c a b,s=>
  let s0:=Dl s (match c with| .tmp t=>1<<<t|_=>0)
  let s1:=uI a s0
  let s2:=uI b (s0.1,s1.2)
  (s1.1&&&s2.1,s2.2)
 | .block _ c,s=>let s1:=uI c s;(s.1&&&s1.1,s1.2)
 | .loop c,s=>(0,(uI c (0,s.2)).2)
 | .scope c,s=>uI c s
 |_,s=>s
def Jr:List ResultVar->Nat
 |[]=>0
 | .tmp i::r=>(1<<<i)|||Jr r
 | .cell a _::r=>(1<<<a)|||Jr r
def aEN (fn:Func):Nat:=match fn.body with
 |some c=>(uI c (2 ^ fn.ntmps-1,0)).2|||Jr fn.results.toList
 |none=>0
structure CC where
 m:Nat
 c:Code
def eI {α:Type}(P:Program)(O:aH)(L:aI α)(m:Nat):Code->(Ex->K α)->K α
 | .skip,k=>k .normal
 | .region _ ops draw,k=>
  if draw=true then λt H=>
   if Jq ops.toList t.length=true then oQ P O ops.toList (mK ops.toList) ops.toList 0 [] [] (k .normal) t H else none
  else uJ P O ops.toList ops.toList (k .normal)
 | .seq a b,k=>eI P O L m a λe=>match e with
  | .normal=>eI P O L m b k
  | .exit id=>k (.exit id)
  | .ret=>k .ret
 | .cond c a b,k=>λt H=>
  match opv t c with
  |some (.bool x)=>if x=true then eI P O L m a k t H else eI P O L m b k t H
  |_=>none
 | .block id c,k=>eI P O L m c λe=>match e with
  | .normal=>k .normal
  | .exit j=>if j=id then k .normal else k (.exit j)
  | .ret=>k .ret
 | .loop c,k=>λt H=>L (λk'=>eI P O L m c (iO m k')) k (clS m t) H
 | .scope c,k=>eI P O L m c k
 | .label _,k=>k .normal
 | .exit id,k=>k (.exit id)
 | .ret,k=>k .ret
 |_,_=>λ_ _=>none
def aO {α:Type}(P:Program)(O:aH)(L:aI α)(c:CC)(k:Ex->K α):K α:=eI P O L c.m c.c (iO c.m k)
def aL {α:Type}:Nat->aI α
 |0,_,_=>λ_ _=>none
 |n+1,B,k=>B λe=>match e with
  | .normal=>aL n B k
  | .exit id=>k (.exit id)
  | .ret=>k .ret
structure Pl where
 c:Nat
 base:Nat
 room:Option (Nat×Nat)
abbrev Ren:=Nat->Option Pl
inductive Vr (ρ:Ren):Value->Value->Prop where
 |same {v:Value} (h:dI v=true):Vr ρ v v
 |ptr {b o:Nat} {pl:Pl} (h:ρ b=some pl):Vr ρ (.pointer (some ⟨b,o,none⟩)) (.pointer (some ⟨pl.c,pl.base+o,none⟩))
 |slice {b o n cap cap':Nat} {pl:Pl} (h:ρ b=some pl) (hn:n<=cap) (hc:cap<=cap') (hr: ∀e T,pl.room=some (e,T)->pl.base+o+cap'*e<=T):
   Vr ρ (.slice (some ⟨b,o,none⟩) n cap) (.slice (some ⟨pl.c,pl.base+o,none⟩) n cap')
 |slice0 {b o:Nat} {pl:Pl} {a:Addr} (h:ρ b=some pl):Vr ρ (.slice (some ⟨b,o,none⟩) 0 0) (.slice (some a) 0 0)
 |map {b:Nat} {pl:Pl} (h:ρ b=some pl):Vr ρ (.map (some b)) (.map (some pl.c))
 |func {f:FuncId} {x x' y y':Array Value} (hx:x.toList.length=x'.toList.length) (hy:y.toList.length=y'.toList.length)
   (h1: ∀(i:Nat)(u v:Value),x.toList[i]? =some u->x'.toList[i]? =some v->Vr ρ u v) (h2: ∀(i:Nat)(u v:Value),y.toList[i]? =some u->y'.toList[i]? =some v->Vr ρ u v):
   Vr ρ (.func (.func f) x y) (.func (.func f) x' y')
 |agg {x x':Array Value} (hx:x.toList.length=x'.toList.length) (h1: ∀(i:Nat)(u v:Value),x.toList[i]? =some u->x'.toList[i]? =some v->Vr ρ u v):Vr ρ (.agg x) (.agg x')
 |tuple {x x':Array Value} (hx:x.toList.length=x'.toList.length) (h1: ∀(i:Nat)(u v:Value),x.toList[i]? =some u->x'.toList[i]? =some v->Vr ρ u v):Vr ρ (.tuple x) (.tuple x')
def Vrs (ρ:Ren)(xs ys:List Value):Prop:=xs.length=ys.length/\ ∀(i:Nat)(u v:Value),xs[i]? =some u->ys[i]? =some v->Vr ρ u v
def Ren.jH (ρ ρ':Ren):Prop:= ∀(b:Nat)(pl:Pl),ρ b=some pl->ρ' b=some pl
theorem Ren.rR (ρ:Ren):ρ.jH ρ:=λ_ _ h=>h
theorem Ren.Dm {ρ ρ' ρ'':Ren}(h:ρ.jH ρ')(h':ρ'.jH ρ''):ρ.jH ρ'':=λb pl e=>h' b pl (h b pl e)
theorem Vr.pL {ρ ρ':Ren}(hle:ρ.jH ρ'){v v':Value}(h:Vr ρ v v'):Vr ρ' v v':=by
 induction h with
 |same h=>exact .same h
 |ptr h=>exact .ptr (hle _ _ h)
 |slice h hn hc hr=>exact .slice (hle _ _ h) hn hc hr
 |slice0 h=>exact .slice0 (hle _ _ h)
 |map h=>exact .map (hle _ _ h)
 |func hx hy _ _ ih1 ih2=>exact .func hx hy ih1 ih2
 |agg hx _ ih=>exact .agg hx ih
 |tuple hx _ ih=>exact .tuple hx ih
theorem Vrs.aEX {ρ ρ':Ren}(hle:ρ.jH ρ'){xs ys:List Value}(h:Vrs ρ xs ys):Vrs ρ' xs ys:=⟨h.1,λi u v hu hv=>(h.2 i u v hu hv).pL hle⟩
theorem Vrs.j6 (ρ:Ren):Vrs ρ [] []:=⟨rfl,λi u v h=>by simp at h⟩
theorem Vrs.kV {ρ:Ren}{x y:Value}{xs ys:List Value}(h:Vr ρ x y)(hs:Vrs ρ xs ys):Vrs ρ (x::xs) (y::ys):=by
 refine⟨by simp[hs.1],λi u v hu hv=> ?_⟩
 cases i with
 |zero=>simp at hu hv;subst hu;subst hv;exact h
 |succ i=>exact hs.2 i u v (by simpa using hu) (by simpa using hv)
def Vo (ρ:Ren)(x:Option Value)(v:Value):Prop:= ∀u,x=some u->Vr ρ u v
theorem Vo.aEU {ρ ρ':Ren}(hle:ρ.jH ρ'){x:Option Value}{v:Value}(h:Vo ρ x v):Vo ρ' x v:=λu hu=>(h u hu).pL hle
def Srs (ρ:Ren)(t:cY)(ys:List Value):Prop:=t.length=ys.length/\ ∀(i:Nat)(x:Option Value)(v:Value),t[i]? =some x->ys[i]? =some v->Vo ρ x v
theorem Srs.aEQ {ρ ρ':Ren}(hle:ρ.jH ρ'){t:cY}{ys:List Value}(h:Srs ρ t ys):Srs ρ' t ys:=⟨h.1,λi x v hx hv u hu=>(h.2 i x v hx hv u hu).pL hle⟩
theorem Vrs.srs {ρ:Ren}{xs ys:List Value}(h:Vrs ρ xs ys):Srs ρ (xs.map some) ys:=⟨by simp[h.1],λi x v hx hv u hu=>by
 subst hu;simp only[aUq,aUJ,aUE,exists_eq_right] at hx;exact h.2 i u v hx hv⟩
theorem Srs.aEP {ρ:Ren}{t:cY}{ys:List Value}(h:Srs ρ t ys){i:Nat}{u:Option Value}(hu:t[i]? =some u): ∃v,ys[i]? =some v/\Vo ρ u v:=by
 have hi:i<ys.length:=by rw[<-h.1];exact(aUd.1 hu).1
 exact⟨ys[i],by simp[hi],h.2 i u _ hu (by simp[hi])⟩
theorem Srs.aER {ρ:Ren}{t:cY}{ys:List Value}(h:Srs ρ t ys){x:Option Value}{v:Value}(hx:Vo ρ x v)(d:Nat):Srs ρ (t.set d x) (ys.set d v):=by
 refine⟨by simp[h.1],λi y w hy hw=> ?_⟩
 rw[List.getElem?_set] at hy hw;by_cases hd:d=i
 ·subst hd
  rw[if_pos rfl] at hy hw
  split at hy
  ·split at hw
   ·cases hy;cases hw;exact hx
   ·cases hw
  ·cases hy
 ·rw[if_neg hd] at hy hw
  exact h.2 i y w hy hw
theorem Uu: ∀(t:cY)(m i:Nat)(x:Option Value),(clS m t)[i]? =some x->x=none∨t[i]? =some x
 |[],_,_,_,h=>by cases h
 |y::t,m,0,x,h=>by
  simp only[clS,List.getElem?_cons_zero,aUE] at h;subst h;split
  ·exact .inl rfl
  ·exact .inr rfl
 |y::t,m,i+1,x,h=>by
  simp only[clS,List.getElem?_cons_succ] at h;exact Uu t _ i x h
theorem Uv: ∀(t:cY)(m:Nat),(clS m t).length=t.length
 |[],_=>rfl
 |y::t,m=>by simp[clS,Uv t]
theorem Srs.clr {ρ:Ren}{t:cY}{ys:List Value}(h:Srs ρ t ys)(m:Nat):Srs ρ (clS m t) ys:=
 ⟨by rw[Uv,h.1],λi x v hx hv=>by
  rcases Uu t m i x hx with rfl|hx
  ·exact λu hu=>by cases hu
  ·exact h.2 i x v hx hv⟩
theorem Vrs.Jt {ρ:Ren}{x y:Value}{xs ys:List Value}(h:Vrs ρ (x::xs) (y::ys)):Vr ρ x y:=h.2 0 x y rfl rfl
theorem Vrs.Ut {ρ:Ren}{x y:Value}{xs ys:List Value}(h:Vrs ρ (x::xs) (y::ys)):Vrs ρ xs ys:=
 ⟨by have:=h.1;simpa using this,λi u v hu hv=>h.2 (i+1) u v (by simpa using hu) (by simpa using hv)⟩
theorem Vrs.nU {ρ:Ren}{ys:List Value}(h:Vrs ρ [] ys):ys=[]:=by have:=h.1;cases ys<;>simp_all
theorem Vrs.oR {ρ:Ren}{x:Value}{xs ys:List Value}(h:Vrs ρ (x::xs) ys): ∃y ys',ys=y::ys'/\Vr ρ x y/\Vrs ρ xs ys':=by
 cases ys with
 |nil=>have:=h.1;simp at this
 |cons y ys=>exact⟨y,ys,rfl,h.Jt,h.Ut⟩
theorem Vrs.A5 {ρ:Ren}{xs ys xs' ys':List Value}(h:Vrs ρ xs ys)(h':Vrs ρ xs' ys'):Vrs ρ (xs++xs') (ys++ys'):=by
 induction xs generalizing ys with
 |nil=>rw[h.nU];simpa using h'
 |cons x xs ih=>obtain⟨y,ys',rfl,hy,hs⟩:=h.oR;exact .kV hy (ih hs)
theorem Vrs.vV {ρ:Ren}{xs ys:List Value}(h:Vrs ρ xs ys){i:Nat}{u:Value}(hu:xs[i]? =some u): ∃v,ys[i]? =some v/\Vr ρ u v:=by
 have hi:i<ys.length:=by rw[<-h.1];exact(aUd.1 hu).1
 exact⟨ys[i],by simp[hi],h.2 i u _ hu (by simp[hi])⟩
theorem Vrs.aEW {ρ:Ren}{xs ys:List Value}(h:Vrs ρ xs ys)(n:Nat):Vrs ρ (xs.drop n) (ys.drop n):=
 ⟨by simp[h.1],λi u v hu hv=>h.2 (n+i) u v (by simpa using hu) (by simpa using hv)⟩
theorem Vrs.aEY {ρ:Ren}{xs ys:List Value}(h:Vrs ρ xs ys)(n:Nat):Vrs ρ (xs.take n) (ys.take n):=by
 refine⟨by simp[h.1],λi u v hu hv=> ?_⟩
 rw[List.getElem?_take] at hu hv
 split at hu<;>simp_all
 exact h.2 i u v hu hv
theorem Vr.mL {ρ:Ren}{v:Value}(h:Dj v=true):Vr ρ v v:=by
 cases v with
 |agg cs=>
  refine .agg rfl λi u v hu hv=> ?_
  rw[hu] at hv;injection hv with e;subst e;simp only[Dj,aUS] at h;exact .same (h u (aUn hu))
 |tuple cs=>
  refine .tuple rfl λi u v hu hv=> ?_
  rw[hu] at hv;injection hv with e;subst e;simp only[Dj,aUS] at h;exact .same (h u (aUn hu))
 |_=>exact .same h
theorem Vr.tF (ρ:Ren):Vr ρ Go.undef Go.undef:= .mL rfl
theorem Vr.gW {ρ:Ren}{v w:Value}(h:Vr ρ v w)(hf:Abs.cL v=true):w=v:=by
 cases h<;>simp_all [Abs.cL]
theorem Vr.rS {ρ:Ren}{v:Value}(hf:Abs.cL v=true):Vr ρ v v:=by
 refine .same ?_;cases v<;>simp_all [Abs.cL,dI]
theorem Vr.A4 {ρ:Ren}{v w:Value}(h:Vr ρ v w):Vrs ρ v.cells.toList w.cells.toList:=by
 have one: ∀{x y:Value},Vr ρ x y->Vrs ρ [x] [y]:=λh=> .kV h (.j6 ρ)
 cases h with
 |agg hx h1=>exact⟨hx,h1⟩
 | @same v hl=>cases v<;>first|exact one (.same hl)|simp[dI] at hl
 |tuple hx h1=>exact one (.tuple hx h1)
 |ptr h=>exact one (.ptr h)
 |slice h hn hc hr=>exact one (.slice h hn hc hr)
 |slice0 h=>exact one (.slice0 h)
 |map h=>exact one (.map h)
 |func hx hy h1 h2=>exact one (.func hx hy h1 h2)
theorem Vr.aEV {ρ:Ren}{v w:Value}(h:Vr ρ v w):w.oneCell'=v.oneCell':=by
 cases h<;>rfl
theorem Vrs.Ur {ρ:Ren}{xs ys:List Value}(h:Vrs ρ xs ys)(hc:Abs.cA xs=true): ∀y∈ys,y.oneCell'=true:=by
 induction xs generalizing ys with
 |nil=>rw[h.nU];simp
 |cons x xs ih=>
  obtain⟨y,ys',rfl,hy,hs⟩:=h.oR;simp only[Abs.cA,List.all_cons,aUl] at hc;intro z hz;cases aUw.1 hz with
  |inl e=>subst e;rw[hy.aEV];exact hc.1
  |inr e=>exact ih hs hc.2 z e
def wr:Option Blk->Bool
 |some (.cells _ _ k)=>decide (k≠ .ro)
 |some (.map _ _)=>true
 |_=>false
def EntR (ρ:Ren)(e:Ent)(m:MapEntry):Prop:=Vr ρ e.key m.key/\Vr ρ e.val m.val/\m.born=e.born
def EntsR (ρ:Ren)(es:List Ent)(ms:List MapEntry):Prop:=es.length=ms.length/\ ∀(i:Nat)(e:Ent)(m:MapEntry),es[i]? =some e->ms[i]? =some m->EntR ρ e m
def BRel (P:Program)(ρ:Ren)(pl:Pl)(x:Blk)(o:Option Obj):Prop:=
 match x with
 | .cells cs e k=> ∃ccs ce lo hi,o=some (.cells ccs ce (lo,hi))/\(∀(i:Nat)(v:Value),cs[i]? =some v-> ∃v',ccs[pl.base+i]? =some v'/\Vr ρ v v')/\
   (k≠ .ro-> ∀off,off<ccs.size-> ¬(lo<=off/\off<hi))/\(k= .row->pl.room=some (P.cellsOf e,ccs.size))/\(k≠ .row->pl.room=none)
 | .map es clock=> ∃ces,o=some (.map ces clock)/\pl.base=0/\EntsR ρ es ces.toList
 | .dead=>True
def Ju (P:Program):Option Nat:=P.globalNamed "math/bits.deBruijn32tab"
def vW:List Int:=[0,1,28,2,29,14,24,3,30,22,20,15,25,17,4,8,31,27,13,23,21,19,16,7,26,12,18,6,11,5,10,9]
def TabAt (o:Option Obj):Prop:= ∃cs e r,o=some (.cells cs e r)/\cs.toList=vW.map (Value.int .u8)
def Tab (P:Program)(ρ:Ren)(G:Nat->Option Blk)(w:World):Prop:=
 ∀g,Ju P=some g->TabAt w.heap[g]? /\ ∀(b:Nat)(pl:Pl),ρ b=some pl->wr (G b)=true->pl.c≠g
structure Rel (P:Program)(ρ:Ren)(G:Nat->Option Blk)(w:World):Prop where
 lt: ∀(b:Nat)(pl:Pl),ρ b=some pl->pl.c<w.heap.size
 blk: ∀(b:Nat)(pl:Pl)(x:Blk),ρ b=some pl->G b=some x->BRel P ρ pl x w.heap[pl.c]?
 sep: ∀(b1 b2:Nat)(p1 p2:Pl),b1≠b2->ρ b1=some p1->ρ b2=some p2->wr (G b1)=true->G b2≠some .dead->p1.c≠p2.c
 tab:Tab P ρ G w
abbrev cF (H:aF):Nat->Option Blk:=λb=>H[b]?
theorem EntR.aEO {ρ ρ':Ren}(hle:ρ.jH ρ'){e:Ent}{m:MapEntry}(h:EntR ρ e m):EntR ρ' e m:=⟨h.1.pL hle,h.2.1.pL hle,h.2.2⟩
theorem BRel.Az {P:Program}{ρ ρ':Ren}(hle:ρ.jH ρ'){pl:Pl}{x:Blk}{o:Option Obj}(h:BRel P ρ pl x o):BRel P ρ' pl x o:=by
 cases x with
 |dead=>trivial
 |map es clock=>obtain⟨ces,ho,hb,hl,he⟩:=h;exact⟨ces,ho,hb,hl,λi e m h1 h2=>(he i e m h1 h2).aEO hle⟩
 |cells cs e k=>
  obtain⟨ccs,ce,lo,hi,ho,hv,hrest⟩:=h
  exact⟨ccs,ce,lo,hi,ho,λi v hi=>let⟨v',h1,h2⟩:=hv i v hi;⟨v',h1,h2.pL hle⟩,hrest⟩
structure Step (P:Program)(ρ:Ren)(H:aF)(w:World)(ρ':Ren)(H':aF)(w':World):Prop where
 rel:Rel P ρ' (cF H') w'
 le:ρ.jH ρ'
 new: ∀b:Nat,ρ' b≠none->ρ b≠none∨(H.length<=b/\b<H'.length)
 len:H.length<=H'.length
 free: ∀b:Nat,H.length<=b->b<H'.length->ρ b=none
 size:w.heap.size<=w'.heap.size
 frame: ∀c:Nat,c<w.heap.size->(∀(b:Nat)(pl:Pl),ρ b=some pl->wr H[b]? =true->pl.c≠c)->w'.heap[c]? =w.heap[c]?
 un: ∀b:Nat,b<H.length->ρ b=none->H'[b]? =H[b]?
 dead: ∀b:Nat,H[b]? =some .dead->H'[b]? =some .dead
 kd: ∀b:Nat,b<H.length->wr H'[b]? =true->wr H[b]? =true
 fresh: ∀(b:Nat)(pl:Pl),ρ b=none->ρ' b=some pl->w.heap.size<=pl.c∨ ∃b0 p0,ρ b0=some p0/\wr H[b0]? =true/\p0.c=pl.c
 os:w'.os=w.os
 tape:w'.tape=w.tape
 output:w'.output=w.output
def A0 (P:Program)(w:World):Prop:= ∀g,Ju P=some g->TabAt w.heap[g]?
theorem TabAt.aET {w:World}{g:Nat}(h:TabAt w.heap[g]?):g<w.heap.size:=by
 obtain⟨cs,e,r,h1,_⟩:=h
 exact(aUC.1 h1).1
theorem Rel.Js {P:Program}{ρ:Ren}{G:Nat->Option Blk}{w:World}(h:Rel P ρ G w):A0 P w:=λg hg=>(h.tab g hg).1
theorem Tab.Do {P:Program}{ρ ρ':Ren}{G G':Nat->Option Blk}{w w':World}(h:Tab P ρ G w)
  (hf: ∀c:Nat,c<w.heap.size->(∀(b:Nat)(pl:Pl),ρ b=some pl->wr (G b)=true->pl.c≠c)->w'.heap[c]? =w.heap[c]?)
  (hn: ∀(b:Nat)(pl:Pl),ρ' b=some pl->wr (G' b)=true->w.heap.size<=pl.c∨ ∃b0 p0,ρ b0=some p0/\wr (G b0)=true/\p0.c=pl.c):Tab P ρ' G' w':=λg hg=>by
 obtain⟨h1,h2⟩:=h g hg;have hlt:=h1.aET;refine⟨by rw[hf g hlt h2];exact h1,λb pl hb hw=> ?_⟩
 rcases hn b pl hb hw with h3|⟨b0,p0,h3,h4,h5⟩
 ·omega
 ·rw[<-h5]
  exact h2 b0 p0 h3 h4
section
variable {P : Program} {ρ ρ' ρ'' : Ren} {H H' H'' : aF} {w w' w'' : World}
theorem Step.pK (h:Rel P ρ (cF H) w):Step P ρ H w ρ H w:=
 ⟨h,Ren.rR ρ,λb h=> .inl h,aUi _,λb h1 h2=>absurd h1 U,aUi _,λ_ _ _=>rfl,λ_ _ _=>rfl,λ_ h=>h,λ_ _ h=>h,
  λb pl h h'=>by simp[h] at h',rfl,rfl,rfl⟩
theorem Step.aES (h:Step P ρ H w ρ' H' w')(h':Step P ρ' H' w' ρ'' H'' w''):Step P ρ H w ρ'' H'' w'' where
 rel:=h'.rel
 le:=Ren.Dm h.le h'.le
 new:=λb hb=>by
  rcases h'.new b hb with h1|⟨h1,h2⟩
  ·rcases h.new b h1 with h3|⟨h3,h4⟩
   ·exact .inl h3
   ·exact .inr ⟨h3,aUs h4 h'.len⟩
  ·exact .inr ⟨aUt h.len h1,h2⟩
 len:=aUt h.len h'.len
 free:=λb h1 h2=>by
  rcases Nat.lt_or_ge b H'.length with h3|h3
  ·exact h.free b h1 h3
  ·have:=h'.free b h3 h2
   cases hρ:ρ b with
   |none=>rfl
   |some pl=>rw[h.le b pl hρ] at this;cases this
 size:=aUt h.size h'.size
 frame:=λc hc hf=>by
  have h1:=h.frame c hc hf;rw[h'.frame c (aUs hc h.size) ?_,h1];intro b pl hb hw;cases hρ:ρ b with
  |some pl0=>
   have:=h.le b pl0 hρ;rw[hb] at this;injection this with e;subst e;have hlt:b<H.length:=by
    rcases Nat.lt_or_ge b H.length with hlt|hge
    ·exact hlt
    ·exfalso
     rcases Nat.lt_or_ge b H'.length with h2|h2
     ·rw[h.free b hge h2] at hρ;cases hρ
     ·rw[aUo h2] at hw;simp[wr] at hw
   exact hf b pl hρ (h.kd b hlt hw)
  |none=>
   rcases h.fresh b pl hρ hb with hge|⟨b0,p0,h3,h4,h5⟩
   ·omega
   ·rw[<-h5];exact hf b0 p0 h3 h4
 un:=λb hb hn=>by
  have hn':ρ' b=none:=by
   cases hρ:ρ' b with
   |none=>rfl
   |some pl=>
    rcases h.new b (by simp[hρ]) with h1|h1
    ·exact absurd hn h1
    ·omega
  rw[h'.un b (aUs hb h.len) hn',h.un b hb hn]
 dead:=λb hb=>h'.dead b (h.dead b hb)
 kd:=λb hb hw=>h.kd b hb (h'.kd b (aUs hb h.len) hw)
 fresh:=λb pl hn hb=>by
  cases hρ:ρ' b with
  |some pl0=>
   have:=h'.le b pl0 hρ;rw[hb] at this;injection this with e;subst e;exact h.fresh b pl hn hρ
  |none=>
   rcases h'.fresh b pl hρ hb with hge|⟨b0,p0,h3,h4,h5⟩
   ·exact .inl (aUt h.size hge)
   ·cases h0:ρ b0 with
    |some p1=>
     have:=h.le b0 p1 h0;rw[h3] at this;injection this with e;subst e;refine .inr ⟨b0,p0,h0,?_,h5⟩;rcases Nat.lt_or_ge b0 H.length with hlt|hge
     ·exact h.kd b0 hlt h4
     ·exfalso
      rcases Nat.lt_or_ge b0 H'.length with h2|h2
      ·rw[h.free b0 hge h2] at h0;cases h0
      ·rw[aUo h2] at h4;simp[wr] at h4
    |none=>
     rw[<-h5];exact h.fresh b0 p0 h0 h3
 os:=h'.os.trans h.os
 tape:=h'.tape.trans h.tape
 output:=h'.output.trans h.output
end
section
variable {P : Program} {ρ : Ren} {H : aF} {w w' : World}
theorem nD {b:Nat}{x:Blk}(h:H[b]? =some x):b<H.length:=(aUd.1 h).1
theorem vZ {o:Option Blk}(h:wr o=true): ∃x,o=some x/\x≠ .dead:=by
 cases o with
 |none=>simp[wr] at h
 |some x=>exact⟨x,rfl,by rintro rfl;simp[wr] at h⟩
theorem Step.Jv (hr:Rel P ρ (cF H) w){b:Nat}{pl:Pl}{x:Blk}(hb:ρ b=some pl)(hw:wr H[b]? =true)
  (hs:w.heap.size<=w'.heap.size)(hsame: ∀c:Nat,c≠pl.c->c<w.heap.size->w'.heap[c]? =w.heap[c]?)(hx:BRel P ρ pl x w'.heap[pl.c]?)
  (hos:w'.os=w.os)(htape:w'.tape=w.tape)(hout:w'.output=w.output):Step P ρ H w ρ (H.set b x) w':=by
 obtain⟨x0,hx0,hnd⟩:=vZ hw;have hlt:=nD hx0;have get: ∀b':Nat,(H.set b x)[b']? =if b'=b then some x else H[b']? :=by
  intro b';rw[List.getElem?_set];by_cases h:b=b'
  ·subst h;simp[hlt]
  ·simp[h,Ne.symm h]
 have wmono: ∀b':Nat,wr (H.set b x)[b']? =true->wr H[b']? =true:=by
  intro b' h;rw[get] at h
  split at h
  ·rename_i e;subst e;exact hw
  ·exact h
 have hfr: ∀c:Nat,c<w.heap.size->(∀(b:Nat)(pl:Pl),ρ b=some pl->wr (cF H b)=true->pl.c≠c)->w'.heap[c]? =w.heap[c]? :=λc hc hf=>hsame c (λe=>hf b pl hb hw e.symm) hc
 refine⟨⟨λb' p h=>aUs (hr.lt b' p h) hs,?_,?_,hr.tab.Do hfr λb' p hp hw'=> .inr ⟨b',p,hp,wmono b' hw',rfl⟩⟩,Ren.rR _,λb' h=> .inl h,by simp,λb' h1 h2=>absurd h1 (by simp at h2;omega),hs,?_,?_,?_,?_,?_,hos,htape,hout⟩
 ·intro b' p y hp hy
  simp only[cF] at hy;rw[get] at hy
  split at hy
  ·rename_i e;subst e;injection hy with hy;subst hy
   rw[hb] at hp;injection hp with hp;subst hp;exact hx
  ·rename_i hne
   by_cases hd:y= .dead
   ·subst hd;trivial
   ·have:p.c≠pl.c:=λe=>hr.sep b b' pl p (Ne.symm hne) hb hp hw (by simp only[cF];rw[hy];simpa using hd) e.symm
    rw[hsame _ this (hr.lt _ _ hp)];exact hr.blk b' p y hp hy
 ·intro b1 b2 p1 p2 hne h1 h2 hw1 hd2
  refine hr.sep b1 b2 p1 p2 hne h1 h2 (wmono b1 hw1) ?_;simp only[cF] at hd2⊢;rw[get] at hd2
  split at hd2
  ·rename_i e;subst e;rw[hx0];simpa using hnd
  ·exact hd2
 ·intro c hc hf
  exact hsame c (λe=>hf b pl hb hw e.symm) hc
 ·intro b' _ hn
  rw[get];split
  ·rename_i e;subst e;rw[hb] at hn;cases hn
  ·rfl
 ·intro b' hd
  rw[get];split
  ·rename_i e;subst e;rw[hx0] at hd;injection hd with hd;exact absurd hd hnd
  ·exact hd
 ·intro b' _ h;exact wmono b' h
 ·intro b' p hn h;rw[hn] at h;cases h
def Ren.upd (ρ:Ren)(b:Nat)(pl:Pl):Ren:=λb'=>if b'=b then some pl else ρ b'
theorem Ren.mM (ρ:Ren)(b:Nat)(pl:Pl):ρ.upd b pl b=some pl:=by simp[Ren.upd]
theorem Ren.vX {ρ:Ren}{b:Nat}(pl:Pl)(h:ρ b=none):ρ.jH (ρ.upd b pl):=λb' p hp=>by
 unfold Ren.upd;split
 ·rename_i e;subst e;rw[h] at hp;cases hp
 ·exact hp
theorem Step.Jy (hr:Rel P ρ (cF H) w)(hfree:ρ H.length=none){G:aF}(hlen:G.length=H.length)
  {pl:Pl}{x:Blk}(hG: ∀b:Nat,G[b]? =H[b]? ∨(G[b]? =some .dead/\ ∃p,ρ b=some p/\wr H[b]? =true))
  (hpl:w.heap.size<=pl.c∨ ∃(b0:Nat)(p0:Pl),ρ b0=some p0/\wr H[b0]? =true/\p0.c=pl.c/\G[b0]? =some .dead)
  (hs:w.heap.size<=w'.heap.size)(hlt:pl.c<w'.heap.size)(hsame: ∀c:Nat,c≠pl.c->c<w.heap.size->w'.heap[c]? =w.heap[c]?)
  (hx:BRel P (ρ.upd H.length pl) pl x w'.heap[pl.c]?)(hxd:x≠ .dead)
  (hos:w'.os=w.os)(htape:w'.tape=w.tape)(hout:w'.output=w.output):Step P ρ H w (ρ.upd H.length pl) (G++[x]) w':=by
 have get: ∀b':Nat,(G++[x])[b']? =if b'=H.length then some x else G[b']? :=by
  intro b';rw[List.getElem?_append];by_cases h:b'<G.length
  ·have:b'≠H.length:=U
   simp[h,this]
  ·by_cases h2:b'=H.length
   ·subst h2;simp[hlen]
   ·have:G[b']? =none:=aUo U
    simp[h,h2,this];omega
 have le:=Ren.vX pl hfree;have old: ∀(b':Nat)(p:Pl),b'≠H.length->ρ.upd H.length pl b'=some p->ρ b'=some p:=by
  intro b' p hne h;simpa[Ren.upd,hne] using h
 have wmono: ∀b':Nat,b'≠H.length->wr (G++[x])[b']? =true->wr H[b']? =true:=by
  intro b' hne h;rw[get,if_neg hne] at h;rcases hG b' with e|⟨_,_,_,e⟩
  ·rw[e] at h;exact h
  ·exact e
 have apart: ∀(b':Nat)(p:Pl),b'≠H.length->ρ b'=some p->(G++[x])[b']? ≠some .dead->p.c≠pl.c:=by
  intro b' p hne hp hd e;rcases hpl with h|⟨b0,p0,h0,hw0,hc0,hd0⟩
  ·have:=hr.lt b' p hp;omega
  ·have hne0:b0≠b':=by
    rintro rfl
    apply hd;rw[get,if_neg hne];exact hd0
   refine hr.sep b0 b' p0 p hne0 h0 hp hw0 ?_ (by rw[hc0,e])
   intro hdd;apply hd;rw[get,if_neg hne];rcases hG b' with e'|⟨e',_⟩
   ·rw[e'];exact hdd
   ·exact e'
 have hfr: ∀c:Nat,c<w.heap.size->(∀(b:Nat)(pl:Pl),ρ b=some pl->wr (cF H b)=true->pl.c≠c)->w'.heap[c]? =w.heap[c]? :=by
  intro c hc hf;refine hsame c ?_ hc;rcases hpl with h|⟨b0,p0,h0,hw0,hc0,_⟩
  ·omega
  ·exact λe=>hf b0 p0 h0 hw0 (by rw[hc0,e])
 have htb:Tab P (ρ.upd H.length pl) (cF (G++[x])) w':=hr.tab.Do hfr λb' p hp hw'=>by
  by_cases h:b'=H.length
  ·subst h
   rw[Ren.mM] at hp;injection hp with hp;subst hp;rcases hpl with h|⟨b0,p0,h0,hw0,hc0,_⟩
   ·exact .inl h
   ·exact .inr ⟨b0,p0,h0,hw0,hc0⟩
  ·exact .inr ⟨b',p,old b' p h hp,wmono b' h hw',rfl⟩
 refine⟨⟨?_,?_,?_,htb⟩,le,?_,by simp;omega,?_,hs,?_,?_,?_,?_,?_,hos,htape,hout⟩
 ·intro b' p hp
  by_cases h:b'=H.length
  ·subst h;rw[Ren.mM] at hp;injection hp with hp;subst hp;exact hlt
  ·exact aUs (hr.lt b' p (old b' p h hp)) hs
 ·intro b' p y hp hy
  simp only[cF] at hy;by_cases h:b'=H.length
  ·subst h
   rw[get,if_pos rfl] at hy;injection hy with hy;subst hy;rw[Ren.mM] at hp;injection hp with hp;subst hp;exact hx
  ·have hp':=old b' p h hp
   by_cases hd:y= .dead
   ·subst hd;trivial
   ·have hc:=apart b' p h hp' (by rw[hy];simpa using hd)
    rw[hsame _ hc (hr.lt _ _ hp')];rw[get,if_neg h] at hy;rcases hG b' with e|⟨e,_⟩
    ·exact(hr.blk b' p y hp' (by simp only[cF];rw[<-e];exact hy)).Az le
    ·rw[e] at hy;injection hy with hy;exact absurd hy.symm hd
 ·intro b1 b2 p1 p2 hne h1 h2 hw1 hd2
  simp only[cF] at hw1 hd2;by_cases e1:b1=H.length
  ·subst e1
   rw[Ren.mM] at h1;injection h1 with h1;subst h1;exact λe=>apart b2 p2 (Ne.symm hne) (old b2 p2 (Ne.symm hne) h2) hd2 e.symm
  ·have h1':=old b1 p1 e1 h1
   by_cases e2:b2=H.length
   ·subst e2
    rw[Ren.mM] at h2;injection h2 with h2;subst h2;refine apart b1 p1 e1 h1' ?_;obtain⟨y,hy,hyd⟩:=vZ hw1;rw[hy];simpa using hyd
   ·refine hr.sep b1 b2 p1 p2 hne h1' (old b2 p2 e2 h2) (wmono b1 e1 hw1) ?_
    intro hdd;apply hd2;rw[get,if_neg e2];rcases hG b2 with e'|⟨e',_⟩
    ·rw[e'];exact hdd
    ·exact e'
 ·intro b' hb
  by_cases h:b'=H.length
  ·right;subst h;simp;omega
  ·left;simpa[Ren.upd,h] using hb
 ·intro b' h1 h2
  have:b'=H.length:=by simp at h2;omega
  subst this;exact hfree
 ·intro c hc hf
  refine hsame c ?_ hc;rcases hpl with h|⟨b0,p0,h0,hw0,hc0,_⟩
  ·omega
  ·exact λe=>hf b0 p0 h0 hw0 (by rw[hc0,e])
 ·intro b' hb hn
  have h:b'≠H.length:=U
  rw[get,if_neg h];rcases hG b' with e|⟨_,p,hp,_⟩
  ·exact e
  ·rw[hn] at hp;cases hp
 ·intro b' hd
  have h:b'≠H.length:=by have:=nD hd;omega
  rw[get,if_neg h];rcases hG b' with e|⟨e,_⟩
  ·rw[e];exact hd
  ·exact e
 ·intro b' hb h
  exact wmono b' U h
 ·intro b' p hn hp
  by_cases h:b'=H.length
  ·subst h
   rw[Ren.mM] at hp;injection hp with hp;subst hp;rcases hpl with h|⟨b0,p0,h0,hw0,hc0,_⟩
   ·exact .inl h
   ·exact .inr ⟨b0,p0,h0,hw0,hc0⟩
  ·have:=old b' p h hp;rw[hn] at this;cases this
theorem Step.Jw (hr:Rel P ρ (cF H) w)(hfree:ρ H.length=none){pl:Pl}{x:Blk}(hpl:w.heap.size<=pl.c)
  (hs:w.heap.size<=w'.heap.size)(hlt:pl.c<w'.heap.size)(hsame: ∀c:Nat,c<w.heap.size->w'.heap[c]? =w.heap[c]?)
  (hx:BRel P (ρ.upd H.length pl) pl x w'.heap[pl.c]?)(hxd:x≠ .dead)
  (hos:w'.os=w.os)(htape:w'.tape=w.tape)(hout:w'.output=w.output):Step P ρ H w (ρ.upd H.length pl) (H++[x]) w':=
 Step.Jy hr hfree rfl (λ_=> .inl rfl) (.inl hpl) hs hlt (λc _ h=>hsame c h) hx hxd hos htape hout
end
theorem tG (c o n:Nat):(⟨c,o,none⟩:Addr).add n=⟨c,o+n,none⟩:=by
 unfold Addr.add;split<;>simp_all
theorem A6 {w:World}{c:Nat}{ccs:Array Value}{ce:TypeId}{fr:Nat×Nat}(h:w.heap[c]? =some (.cells ccs ce fr))(o:Nat):
  w.cell? ⟨c,o,none⟩=ccs[o]? :=by simp[World.cell?,h]
theorem BRel.Dp {P:Program}{ρ:Ren}{pl:Pl}{cs:List Value}{e:TypeId}{k:Kind}{w:World}(h:BRel P ρ pl (.cells cs e k) w.heap[pl.c]?)
  {o n:Nat}(hn:o+n<=cs.length): ∃ys:List Value,ys.length=n/\Vrs ρ ((cs.drop o).take n) ys/\ ∀(j:Nat)(v:Value),ys[j]? =some v->w.cell? ((⟨pl.c,pl.base+o,none⟩:Addr).add j)=some v:=by
 obtain⟨ccs,ce,lo,hi,ho,hv,_⟩:=h;have hlen: ∀i,i<cs.length->pl.base+i<ccs.size:=by
  intro i hi;obtain⟨v',h1,_⟩:=hv i cs[i] (by simp[hi])
  exact(aUC.1 h1).1
 have hl:((ccs.toList.drop (pl.base+o)).take n).length=n:=by
  rcases Nat.eq_zero_or_pos n with h0|h0
  ·simp[h0]
  ·have:=hlen (o+n-1) U
   simp;omega
 refine⟨(ccs.toList.drop (pl.base+o)).take n,hl,⟨by rw[hl];simp;omega,?_⟩,?_⟩
 ·intro i u v hu hv'
  rw[List.getElem?_take] at hu hv'
  split at hu
  ·rename_i hin
   rw[if_pos hin] at hv';simp only[List.getElem?_drop] at hu hv';obtain⟨v',h1,h2⟩:=hv (o+i) u hu;rw[show pl.base+o+i=pl.base+(o+i) by omega] at hv'
   rw[Array.getElem?_toList] at hv';rw[h1] at hv';injection hv' with e;subst e;exact h2
  ·cases hu
 ·intro j v hj
  rw[tG,A6 ho];rw[List.getElem?_take] at hj
  split at hj
  ·simp only[List.getElem?_drop,Array.getElem?_toList] at hj;exact hj
  ·cases hj
def lJ (ccs:Array Value)(o:Nat):List Value->Array Value
 |[]=>ccs
 |x::xs=>lJ (ccs.setIfInBounds o x) (o+1) xs
theorem Dq (ccs:Array Value)(o:Nat)(vs:List Value):(lJ ccs o vs).size=ccs.size:=by
 induction vs generalizing ccs o with
 |nil=>rfl
 |cons x xs ih=>simp[lJ,ih]
theorem Uw (ccs:Array Value)(o:Nat)(vs:List Value)(ho:o+vs.length<=ccs.size)(j:Nat):
  (lJ ccs o vs)[j]? =if o<=j/\j<o+vs.length then vs[j-o]? else ccs[j]? :=by
 induction vs generalizing ccs o with
 |nil=>simp[lJ];omega
 |cons x xs ih=>
  simp only[aUz] at ho;rw[lJ,ih _ _ (by simp;omega)]
  by_cases h1:o+1<=j/\j<o+1+xs.length
  ·rw[if_pos h1,if_pos ⟨by omega,by simp;omega⟩]
   obtain⟨m,hm⟩: ∃m,j-o=m+1:=⟨j-o-1,by omega⟩
   rw[hm,List.getElem?_cons_succ,show j-(o+1)=m by omega]
  ·rw[if_neg h1]
   by_cases h2:j=o
   ·subst h2
    rw[if_pos (by simp)]
    simp[show j<ccs.size by omega]
   ·rw[if_neg (by simp;omega),Array.getElem?_setIfInBounds_ne U]
theorem Ux (cs:List Value)(o:Nat)(vs:List Value)(ho:o+vs.length<=cs.length)(j:Nat):
  (cU cs o vs)[j]? =if o<=j/\j<o+vs.length then vs[j-o]? else cs[j]? :=by
 induction vs generalizing cs o with
 |nil=>simp[cU];omega
 |cons x xs ih=>
  simp only[aUz] at ho;rw[cU,ih _ _ (by simp;omega)]
  by_cases h1:o+1<=j/\j<o+1+xs.length
  ·rw[if_pos h1,if_pos ⟨by omega,by simp;omega⟩]
   obtain⟨m,hm⟩: ∃m,j-o=m+1:=⟨j-o-1,by omega⟩
   rw[hm,List.getElem?_cons_succ,show j-(o+1)=m by omega]
  ·rw[if_neg h1]
   by_cases h2:j=o
   ·subst h2
    rw[if_pos (by simp)]
    simp[show j<cs.length by omega]
   ·rw[if_neg (by simp;omega),aUe U]
def jI (w:World)(c:Nat)(x:Obj):World:={w with heap:=w.heap.setIfInBounds c x}
theorem vY (w:World)(c:Nat)(x:Obj)(h:c<w.heap.size)(j:Nat):(jI w c x).heap[j]? =if j=c then some x else w.heap[j]? :=by
 simp only[jI,Array.getElem?_setIfInBounds];by_cases e:c=j
 ·subst e;simp[h]
 ·simp[e,Ne.symm e]
theorem aEZ (w:World)(c:Nat)(x y:Obj):jI (jI w c x) c y=jI w c y:=by
 simp[jI,Array.setIfInBounds_setIfInBounds]
theorem aE0 {w:World}{c o:Nat}{ccs:Array Value}{ce:TypeId}{fr:Nat×Nat}(h:w.heap[c]? =some (.cells ccs ce fr))(v:Value):
  w.setCell ⟨c,o,none⟩ v=jI w c (.cells (ccs.setIfInBounds o v) ce fr):=by
 have hlt:=(aUC.1 h).1;have e:w.heap[c]= .cells ccs ce fr:=(aUC.1 h).2;have hh: ∀f:Obj->Obj,w.heap.modify c f=w.heap.setIfInBounds c (f (.cells ccs ce fr)):=by
  intro f;apply Array.ext';simp only[Array.toList_modify,Array.toList_setIfInBounds];apply aUO;intro i;rw[List.getElem?_modify,List.getElem?_set];by_cases hi:c=i
  ·subst hi;simp[hlt,e]
  ·simp[hi]
 unfold World.setCell jI;simp only[hh];simp
theorem Jz (P:Program)(c o:Nat)(ce:TypeId)(fr:Nat×Nat): ∀(vs:List Value)(i:Nat)(w:World)(ccs:Array Value),
  w.heap[c]? =some (.cells ccs ce fr)->o+i+vs.length<=ccs.size->(∀off,off<ccs.size-> ¬(fr.1<=off/\off<fr.2))->(∀v∈vs,v.oneCell'=true)->
  (storeCells ⟨c,o,none⟩ vs i).run P w= .ok () (if vs=[] then w else jI w c (.cells (lJ ccs (o+i) vs) ce fr))
 |[],i,w,ccs,_,_,_,_=>by simp[storeCells]
 |v::vs,i,w,ccs,h,hl,hf,h1=>by
  simp only[aUz] at hl;have hc:w.cell? ⟨c,o+i,none⟩=some ccs[o+i]:=by rw[A6 h];simp
  have hfz:w.frozen? ⟨c,o+i,none⟩=false:=by
   have:=hf (o+i) U
   obtain⟨lo,hi⟩:=fr;simp only[World.frozen?,h];simp only at this;simpa using this
  have hlt:=(aUC.1 h).1;simp only[storeCells,Sem.run_bind,tG,run_store P w _ v .plain (h1 v (by simp)),hc,hfz,Result.andThen,aE0 h,Bool.false_eq_true,if_false,List.cons_ne_nil]
  have h':(jI w c (.cells (ccs.setIfInBounds (o+i) v) ce fr)).heap[c]? =some (.cells (ccs.setIfInBounds (o+i) v) ce fr):=by
   rw[vY _ _ _ hlt];simp
  rw[Jz P c o ce fr vs (i+1) _ _ h' (by simp;omega) (by simpa using hf) (λu hu=>h1 u (by simp[hu]))]
  cases vs with
  |nil=>simp[lJ]
  |cons u us=>
   rw[if_neg (by simp),aEZ]
   rfl
section
variable {P : Program} {ρ : Ren} {H H' : aF} {w : World}
def Post (P:Program)(ρ:Ren)(H:aF)(w:World)(v:Value)(H':aF):Value->World->Prop:=
 λv' w'=> ∃ρ',Vr ρ' v v'/\Step P ρ H w ρ' H' w'
def pM {α:Type}(P:Program)(s:Sem α)(w:World)(R:α->World->Prop):Prop:= ∃v w',s.run P w= .ok v w'/\R v w'
theorem Post.j7 (hr:Rel P ρ (cF H) w){v v':Value}(h:Vr ρ v v'):Post P ρ H w v H v' w:=⟨ρ,h,Step.pK hr⟩
theorem aE1 {α:Type}(s:Sem α)(a:α)(h:pur P s=some a)(w:World):s.run P w= .ok a w:=by
 induction s with
 |pure b=>simp[pur] at h;subst h;rfl
 |program k ih=>simp only[pur] at h;simp only[Sem.run];exact ih P h
 |_=>simp[pur] at h
theorem nE {t:TypeId}{sz b:Nat}(h:eW P t=some (sz,b))(w:World):(Go.sizeOf t).run P w= .ok sz w:=by
 unfold eW at h;cases hi:P.info? t with
 |none=>simp[hi] at h
 |some i=>simp[hi] at h;simp[Go.sizeOf,typeInfo,hi,h.1]
theorem Dr {t:TypeId}{sz b:Nat}(h:eW P t=some (sz,b)): ∃i,P.info? t=some i/\i.size=sz/\i.bytes=b:=by
 unfold eW at h;cases hi:P.info? t with
 |none=>simp[hi] at h
 |some i=>simp[hi] at h;exact⟨i,rfl,h.1,h.2⟩
theorem J0 {t:TypeId}{sz b:Nat}(h:eW P t=some (sz,b)):P.cellsOf t=sz:=by
 obtain⟨i,hi,h1,_⟩:=Dr h;simp[Program.cellsOf,hi,h1]
theorem yV {t:TypeId}{z:Value}(h:nT P t=some z)(w:World):(zeroValue t).run P w= .ok z w:=by
 unfold nT at h;cases hi:P.info? t with
 |none=>simp[hi] at h
 |some i=>simp[hi] at h;simp[zeroValue,typeInfo,hi,h]
theorem yU {t:TypeId}{g:Bool}(h:lI P t=some g)(w:World):(isAgg t).run P w= .ok g w:=by
 unfold lI at h;cases hu:P.underlying t with
 |none=>simp[hu] at h
 |some d=>cases d<;>simp_all [isAgg,run_underlying hu]
theorem J1 {a v:Value}(h:ld1 a H=some (v,H')):H'=H/\ ∃b o cs e k,a=adr b o/\H[b]? =some (.cells cs e k)/\cs[o]? =some v:=by
 unfold ld1 at h
 split at h
 ·rename_i b o
  split at h
  ·rename_i cs e k hb
   split at h
   ·rename_i x hx
    injection h with h;injection h with h1 h2;subst h1;subst h2
    exact⟨rfl,b,o,cs,e,k,rfl,hb,hx⟩
   ·cases h
  ·cases h
 ·cases h
theorem J2 {n:Nat}{a v:Value}(h:ldN n a H=some (v,H')):H'=H/\ ∃b o cs e k,a=adr b o/\H[b]? =some (.cells cs e k)/\o+n<=cs.length/\v= .agg ((cs.drop o).take n).toArray:=by
 unfold ldN at h
 split at h
 ·rename_i b o
  split at h
  ·rename_i cs e k hb
   split at h
   ·rename_i hx
    injection h with h;injection h with h1 h2;subst h1;subst h2
    exact⟨rfl,b,o,cs,e,k,rfl,hb,hx,rfl⟩
   ·cases h
  ·cases h
 ·cases h
theorem Vr.yT {b o:Nat}{v':Value}(h:Vr ρ (adr b o) v'): ∃pl,ρ b=some pl/\v'=adr pl.c (pl.base+o):=by
 cases h with
 |same h=>simp[dI] at h
 | @ptr _ _ pl h=>exact⟨pl,h,rfl⟩
theorem Uy (hr:Rel P ρ (cF H) w){ty:TypeId}{sz by':Nat}{g:Bool}(hs:eW P ty=some (sz,by'))(hg:lI P ty=some g){a a' v:Value}(ha:Vr ρ a a')
  (h:(if g=true then ldN sz a else ld1 a) H=some (v,H')):H'=H/\ ∃ad v',a'= .pointer (some ad)/\(loadVar ty ad).run P w= .ok v' w/\Vr ρ v v':=by
 cases g with
 |true=>
  simp only[if_true] at h;obtain⟨rfl,b,o,cs,e,k,rfl,hb,hn,rfl⟩:=J2 h;obtain⟨pl,hpl,rfl⟩:=ha.yT;obtain⟨ys,hyl,hys,hcell⟩:=(hr.blk b pl _ hpl hb).Dp hn;have hrun:=run_loadCells_list (P:=P) w ⟨pl.c,pl.base+o,none⟩ ys hcell;rw[hyl] at hrun
  exact⟨rfl,_,.agg ys.toArray,rfl,by simp[loadVar,yU hg,nE hs,hrun],.agg (by simpa using hys.1) (by simpa using hys.2)⟩
 |false=>
  simp only[Bool.false_eq_true,if_false] at h;obtain⟨rfl,b,o,cs,e,k,rfl,hb,hx⟩:=J1 h;obtain⟨pl,hpl,rfl⟩:=ha.yT;obtain⟨ccs,ce,lo,hi,ho,hv,_⟩:=hr.blk b pl _ hpl hb;obtain⟨v',h1,h2⟩:=hv o v hx;have hc:w.cell? ⟨pl.c,pl.base+o,none⟩=some v':=by rw[A6 ho];exact h1
  exact⟨rfl,_,v',rfl,by simp[loadVar,yU hg,hc],h2⟩
theorem Du (hr:Rel P ρ (cF H) w){b:Nat}{pl:Pl}{cs:List Value}{e:TypeId}{k:Kind}(hb:ρ b=some pl)(hH:H[b]? =some (.cells cs e k))(hk:k≠ .ro)
  {o:Nat}{vs vs':List Value}(hv:Vrs ρ vs vs')(hl:o+vs.length<=cs.length)(hc:cA vs=true):
  ∃w',(storeCells ⟨pl.c,pl.base+o,none⟩ vs').run P w= .ok () w'/\Step P ρ H w ρ (H.set b (.cells (cU cs o vs) e k)) w':=by
 have hB:=hr.blk b pl _ hb hH;obtain⟨ccs,ce,lo,hi,ho,hcs,hfz,hrow,hnrow⟩:=hB;have hlen: ∀i,i<cs.length->pl.base+i<ccs.size:=by
  intro i hi;obtain⟨v',h1,_⟩:=hcs i cs[i] (by simp[hi])
  exact(aUC.1 h1).1
 have hwr:wr H[b]? =true:=by rw[hH];simpa[wr] using hk
 have hlt:=(aUC.1 ho).1;cases hvs:vs with
 |nil=>
  subst hvs;rw[hv.nU];have:H.set b (.cells cs e k)=H:=by
   apply aUO;intro i;rw[List.getElem?_set];by_cases hi:b=i
   ·subst hi;rw[hH];simp[nD hH]
   ·simp[hi]
  refine⟨w,by simp[storeCells],?_⟩
  simp only[cU,this];exact Step.pK hr
 |cons x xs=>
  have hne:vs≠[]:=by rw[hvs];simp
  rw[<-hvs];have hne':vs'≠[]:=by
   rintro rfl
   have:=hv.1;simp at this;exact hne this
  have hsz:pl.base+o+vs'.length<=ccs.size:=by
   have:=hlen (o+vs.length-1) (by have:=List.length_pos_iff.2 hne;omega)
   have:=List.length_pos_iff.2 hne;rw[<-hv.1];omega
  have hrun:=Jz P pl.c (pl.base+o) ce (lo,hi) vs' 0 w ccs ho (by simpa using hsz) (hfz hk) (hv.Ur hc)
  rw[if_neg hne'] at hrun;refine⟨_,hrun,?_⟩;refine Step.Jv hr hb hwr (by simp[jI]) (λc hc _=>by rw[vY _ _ _ hlt,if_neg hc]) ?_ rfl rfl rfl
  refine⟨lJ ccs (pl.base+o+0) vs',ce,lo,hi,by rw[vY _ _ _ hlt];simp,?_,?_,?_,?_⟩
  ·intro i v hi
   rw[Ux _ _ _ hl] at hi;rw[Uw _ _ _ (by simpa using hsz)]
   by_cases h1:o<=i/\i<o+vs.length
   ·rw[if_pos h1] at hi
    rw[if_pos (by rw[<-hv.1];omega),show pl.base+i-(pl.base+o+0)=i-o by omega]
    exact hv.vV hi
   ·rw[if_neg h1] at hi
    rw[if_neg (by rw[<-hv.1];omega)]
    exact hcs i v hi
  ·intro hk' off hoff
   rw[Dq] at hoff;exact hfz hk' off hoff
  ·intro h;rw[Dq];exact hrow h
  ·exact hnrow
theorem aE2 (hr:Rel P ρ (cF H) w){ty:TypeId}{sz by':Nat}(hs:eW P ty=some (sz,by')){a a' v v' r:Value}(ha:Vr ρ a a')(hv:Vr ρ v v')
  (h:stN sz a v H=some (r,H')): ∃w',(Instr.storeAt ty a' v').run P w= .ok () w'/\r=undef/\Step P ρ H w ρ H' w':=by
 unfold stN at h
 split at h
 ·rename_i b o
  split at h
  ·rename_i cs e k hb
   split at h
   ·rename_i hc
    obtain⟨hk,hn,hl,hcl⟩:=hc;injection h with h;injection h with h1 h2;subst h1;subst h2;obtain⟨pl,hpl,rfl⟩:=ha.yT;obtain⟨w',hrun,hst⟩:=Du (o:=o) hr hpl hb hk hv.A4 (by rw[hn];exact hl) hcl
    refine⟨w',?_,rfl,hst⟩;have hn':v'.cells.size=sz:=by have:=hv.A4.1;simp only[Array.length_toList] at this hn;omega
    simp[Instr.storeAt,Instr.sureAddr,storeVar,nE hs,hn',hrun]
   ·cases h
  ·cases h
 ·cases h
theorem A7 (w:World)(x:Obj)(c:Nat):(w.heap.push x)[c]? =if c=w.heap.size then some x else w.heap[c]? :=by
 rw[Array.getElem?_push]
theorem Dt (hr:Rel P ρ (cF H) w)(hfree:ρ H.length=none){e:TypeId}{cs cs':List Value}(hv:Vrs ρ cs cs')(k:Kind){w':World}{ccs:Array Value}{lo hi:Nat}
  (hheap:w'.heap=w.heap.push (.cells ccs e (lo,hi)))(hpre: ∀(i:Nat)(v:Value),cs'[i]? =some v->ccs[i]? =some v)
  (hfz: ∀off,off<ccs.size-> ¬(lo<=off/\off<hi))
  (hos:w'.os=w.os)(htape:w'.tape=w.tape)(hout:w'.output=w.output):
  Step P ρ H w (ρ.upd H.length ⟨w.heap.size,0,if k= .row then some (P.cellsOf e,ccs.size) else none⟩) (H++[.cells cs e k]) w':=by
 refine Step.Jw hr hfree (aUi _) (by rw[hheap];simp) (by rw[hheap];simp) (λc hc=>by rw[hheap,A7,if_neg U]) ?_ (by simp) hos htape hout
 have hle:=Ren.vX (ρ:=ρ) (b:=H.length) ⟨w.heap.size,0,if k= .row then some (P.cellsOf e,ccs.size) else none⟩ hfree
 refine⟨ccs,e,lo,hi,by rw[hheap,A7];simp,?_,λ_=>hfz,λh=>by simp[h],λh=>by simp[h]⟩
 intro i v hi;obtain⟨v',h1,h2⟩:=hv.vV hi
 exact⟨v',by simpa using hpre i v' h1,h2.pL hle⟩
theorem Uz (hr:Rel P ρ (cF H) w)(hfree:ρ H.length=none){e:TypeId}{v v':Value}(hv:Vr ρ v v'){r:Value}(h:aZ e v.cells.toList .fix H=some (r,H')):
  pM P (do pure (.pointer (some (<-newVar e v'))):Sem Value) w (Post P ρ H w r H'):=by
 simp only[aZ] at h;injection h with h;injection h with h1 h2;subst h1;subst h2;refine⟨adr w.heap.size 0,{w with heap:=w.heap.push (.cells v'.cells e)},by simp[newVar,newRow],_,?_,
  Dt hr hfree hv.A4 .fix (ccs:=v'.cells) (lo:=0) (hi:=0) rfl (λi v h=>by simpa using h) U rfl rfl rfl⟩
 have:=Vr.ptr (ρ:=ρ.upd H.length ⟨w.heap.size,0,none⟩) (o:=0) (Ren.mM ρ H.length ⟨w.heap.size,0,none⟩);simpa using this
end
section
variable {P : Program} {ρ : Ren} {H H' : aF} {w : World}
theorem U0 {v v':Value}{n:Nat}(hv:Vr ρ v v')(h:iN v=some n)(w1:World):(Builtin.lenOf v').run P w1= .ok n w1:=by
 unfold iN at h
 split at h
 ·injection h with h;subst h
  cases hv;simp[Builtin.lenOf]
 ·injection h with h;subst h
  cases hv<;>simp_all [Builtin.lenOf,dI]
 ·injection h with h;subst h
  cases hv;simp[Builtin.lenOf]
 ·cases h
theorem aE5 (s:ByteArray)(n:Nat)(hn:n<=s.size):((s.extract 0 n).data.map λb=>Value.int .u8 b.toNat)=((rP s).take n).toArray:=by
 apply Array.ext';simp only[Array.toList_map,ByteArray.data_extract,Array.toList_extract,rP];simp[List.extract,List.map_take]
theorem U1 (hr:Rel P ρ (cF H) w){v v':Value}{sz n:Nat}{new:List Value}(hv:Vr ρ v v')(h:dY sz v n H=some new):
  new.length=n*sz/\ ∃ys:List Value,Vrs ρ new ys/\ys.length=n*sz/\ ∀w1:World,w1.heap=w.heap->(Builtin.firstCells sz n v').run P w1= .ok ys.toArray w1:=by
 unfold dY at h
 split at h
 ·split at h
  ·rename_i h0
   injection h with h;subst h;subst h0;cases hv with
   |same _=>exact⟨by simp,[],.j6 ρ,by simp,λw1 _=>by simp[Builtin.firstCells]⟩
  ·cases h
 ·rename_i b o len cap
  split at h
  ·rename_i h0
   injection h with h;subst h;subst h0;cases hv with
   |same hl=>simp[dI] at hl
   | @slice _ _ _ _ cap' pl hpl hn hcc hroom=>exact⟨by simp,[],.j6 ρ,by simp,λw1 _=>by show(loadCells _ (0*sz)).run P w1=_;rw[Nat.zero_mul];rfl⟩
   | @slice0 _ _ pl a hpl=>exact⟨by simp,[],.j6 ρ,by simp,λw1 _=>by show(loadCells _ (0*sz)).run P w1=_;rw[Nat.zero_mul];rfl⟩
  split at h
  ·rename_i cs e k hb
   split at h
   ·rename_i hc
    injection h with h;subst h;have hlen:((cs.drop o).take (n*sz)).length=n*sz:=by simp;omega
    refine⟨hlen,?_⟩;have main: ∀pl,ρ b=some pl-> ∀l c,∃ys:List Value,Vrs ρ ((cs.drop o).take (n*sz)) ys/\ys.length=n*sz/\ ∀w1:World,w1.heap=w.heap->
      (Builtin.firstCells sz n (.slice (some ⟨pl.c,pl.base+o,none⟩) l c)).run P w1= .ok ys.toArray w1:=by
     intro pl hpl l c;obtain⟨ys,hyl,hys,hcell⟩:=(hr.blk b pl _ hpl hb).Dp hc.2;refine⟨ys,hys,hyl,λw1 hw1=> ?_⟩
     have hrun:=run_loadCells_list (P:=P) w1 ⟨pl.c,pl.base+o,none⟩ ys (λj v hj=>by
      have:=hcell j v hj;simpa[World.cell?,hw1] using this)
     rw[hyl] at hrun;simp[Builtin.firstCells,hrun]
    cases hv with
    |same hl=>simp[dI] at hl
    | @slice _ _ _ _ cap' pl hpl hn hcc hroom=>exact main pl hpl _ _
    | @slice0 _ _ pl a hpl=>
     have h0:n=0:=U
     subst h0;refine⟨[],by rw[Nat.zero_mul];exact Vrs.j6 ρ,by rw[Nat.zero_mul];rfl,λw1 hw1=> ?_⟩
     show(loadCells a (0*sz)).run P w1=_
     rw[Nat.zero_mul];rfl
   ·cases h
  ·cases h
 ·split at h
  ·rename_i s hc
   injection h with h;subst h;obtain⟨hn,rfl⟩:=hc;have hl:((rP s).take n).length=n:=by
    have:(rP s).length=s.size:=by unfold rP;rw[aUr];rfl
    simp;omega
   refine⟨by omega,(rP s).take n,⟨rfl,λi u v hu hv'=> ?_⟩,by omega,λw1 _=> ?_⟩
   ·rw[hu] at hv';injection hv' with e;subst e
    have hmem:=List.mem_of_mem_take (aUn hu);simp only[rP,aUQ] at hmem;obtain⟨b,_,rfl⟩:=hmem;exact .same rfl
   ·cases hv with
    |same _=>
     simp only[Builtin.firstCells,Sem.run_pure];rw[aE5 s n hn]
  ·cases h
 ·cases h
theorem Dv {ts:Array TypeId}{t tx ty e:TypeId}{sz by':Nat}(h0:ts[0]? =some t)(h1:ts[1]? =some tx)(ht:P.underlying t=some (.slice e))(htx:(P.underlying tx=some .string)∨ ∃x,P.underlying tx=some (.slice x))(hs:eW P e=some (sz,by'))
  {base:Option Addr}{len cap n:Nat}{x':Value}{ys:List Value}(hl: ∀w1,(Builtin.lenOf x').run P w1= .ok n w1)(hf: ∀w1:World,w1.heap=w.heap->(Builtin.firstCells sz n x').run P w1= .ok ys.toArray w1)
  (hneed:len+n<=cap){w':World}(hst: ∀a,base=some a->(storeCells (a.add (len*sz)) ys).run P w= .ok () w')(hnone:base=none->w'=w):
  (Builtin.append_ ts ty #[.slice base len cap,x']).run P w= .ok (.slice base (len+n) cap) w':=by
 obtain⟨i,hi,hi1,hi2⟩:=Dr hs;have hf':=hf w rfl;have hl':=hl w;cases base with
 |none=>
  rw[hnone rfl];rcases htx with hd|⟨x,hd⟩<;>simp[Builtin.append_,run_underlying ht,run_underlying hd,nE hs,hl',hf',hneed,h0,h1]
 |some a=>
  have hst':=hst a rfl;rcases htx with hd|⟨x,hd⟩<;>simp[Builtin.append_,run_underlying ht,run_underlying hd,nE hs,hl',hf',hneed,hst',h0,h1]
theorem aE4 {ts:Array TypeId}{t tx ty e:TypeId}{sz by':Nat}{z:Value}(h0:ts[0]? =some t)(h1:ts[1]? =some tx)(ht:P.underlying t=some (.slice e))(htx:(P.underlying tx=some .string)∨ ∃x,P.underlying tx=some (.slice x))(hs:eW P e=some (sz,by'))(hz:nT P e=some z)
    {base:Option Addr}{len cap n:Nat}{x':Value}{ys olds:List Value}(hl: ∀w1,(Builtin.lenOf x').run P w1= .ok n w1)(hf: ∀w1:World,w1.heap=w.heap->(Builtin.firstCells sz n x').run P w1= .ok ys.toArray w1)
    (ho: ∀w1:World,w1.heap=w.heap->(Builtin.firstCells sz len (.slice base len cap)).run P w1= .ok olds.toArray w1)
    (hneed:cap<len+n)(hroom:eH (len+n) by'=true):
    ∃c,len+n<=c/\(Builtin.append_ ts ty #[.slice base len cap,x']).run P w= .ok (.slice (some ⟨w.heap.size,0,none⟩) (len+n) c)
      (w.drew.alloc (.cells (olds.toArray++ys.toArray++Builtin.zeroCells z.cells (c-(len+n))) e)):=by
  obtain⟨i,hi,hi1,hi2⟩:=Dr hs;simp only[eH,aUl,decide_eq_true_eq] at hroom;have hfit:Builtin.nextslicecap (len+n) cap*i.bytes<=281474976710656:=by
    have h3:=nextslicecap_le hneed;have h2:Builtin.nextslicecap (len+n) cap*i.bytes<=(2*(len+n)+256)*by':=by
      rw[hi2];exact Nat.mul_le_mul_right _ U
    omega
  have h48: ¬(281474976710656<Builtin.nextslicecap (len+n) cap*i.bytes):=U
  have h63: ¬(9223372036854775807<((len:Int)+(n:Int))):=U
  have hn: ¬(len+n<=cap):=U
  have hzv:i.zero=some z:=by unfold nT at hz;simpa[hi] using hz
  refine⟨grownCap w (len+n) cap e,grownCap_ge _ _ _ _,?_⟩;have hf':=hf w.drew rfl;have ho':=ho w.drew rfl;have hl':=hl w;subst hi1;rcases htx with hd|⟨x,hd⟩<;>
    (simp [Builtin.append_, h0, h1, run_underlying ht, run_underlying hd, Go.sizeOf, typeInfo, zeroValue, hi, hzv, hl', hn, h63, h48, Question.forced, hf', ho', newRow, grownCap]
     congr 2;apply Array.ext';simp)
theorem aE3 (hr:Rel P ρ (cF H) w){ts:Array TypeId}{t tx ty e:TypeId}{sz by':Nat}{z:Value}(h0:ts[0]? =some t)(h1:ts[1]? =some tx)(ht:P.underlying t=some (.slice e))(htx:(P.underlying tx=some .string)∨ ∃x,P.underlying tx=some (.slice x))
  (hs:eW P e=some (sz,by'))(hz:nT P e=some z)(hzs:z.cells.size=sz){v v' x x' r:Value}(hv:Vr ρ v v')(hx:Vr ρ x x')
  (hfree: ∀b,H.length<=b->b<H'.length->ρ b=none)(h:app e sz by' v x H=some (r,H')):
  pM P (Builtin.append_ ts ty #[v',x']) w (Post P ρ H w r H'):=by
 unfold app at h
 split at h
 ·cases h
 rename_i n hn
 split at h
 ·cases h
 rename_i new hnew;have hl:=λw1=>U0 (P:=P) hx hn w1
 obtain⟨hnl,ys,hys,hyl,hf⟩:=U1 (P:=P) hr hx hnew;have hcell:=J0 hs;have made: ∀(len cap:Nat)(base:Option Addr)(old olds:List Value),Vrs ρ old olds->old.length=len*sz->(∀w1:World,w1.heap=w.heap->(Builtin.firstCells sz len (.slice base len cap)).run P w1= .ok olds.toArray w1)->
   cap<len+n->eH (len+n) by'=true->ρ H.length=none->
   ∃v1 w1 pl,(Builtin.append_ ts ty #[.slice base len cap,x']).run P w= .ok v1 w1/\w.heap.size<=pl.c/\
    Vr (ρ.upd H.length pl) (.slice (some ⟨H.length,0,none⟩) (len+n) (len+n)) v1/\Step P ρ H w (ρ.upd H.length pl) (H++[.cells (old++new) e .row]) w1/\
    (w1.heap.size=w.heap.size+1)/\(∀c,c<w.heap.size->w1.heap[c]? =w.heap[c]?)/\BRel P (ρ.upd H.length pl) pl (.cells (old++new) e .row) w1.heap[pl.c]? /\pl.c<w1.heap.size/\w1.os=w.os/\w1.tape=w.tape/\w1.output=w.output:=by
  intro len cap base old olds ho hol hof hneed hroom hfr;obtain⟨c,hc,hrun⟩:=aE4 (w:=w) (ty:=ty) h0 h1 ht htx hs hz hl hf hof hneed hroom;have holds:olds.length=len*sz:=by rw[<-ho.1];exact hol
  have hzc: ∀m,(Builtin.zeroCells z.cells m).size=m*sz:=by intro m;simp[Builtin.zeroCells,hzs]
  have hsz:(olds.toArray++ys.toArray++Builtin.zeroCells z.cells (c-(len+n))).size=c*sz:=by
   simp only[Array.size_append,List.size_toArray,hzc,holds,hyl];rw[<-Nat.add_mul,<-Nat.add_mul]
   congr 1;omega
  have hstep:=Dt (w':=w.drew.alloc (.cells (olds.toArray++ys.toArray++Builtin.zeroCells z.cells (c-(len+n))) e)) hr hfr (e:=e) (ho.A5 hys) .row (lo:=0) (hi:=0)
   (ccs:=olds.toArray++ys.toArray++Builtin.zeroCells z.cells (c-(len+n))) rfl (λi v hi=>by
    have hlt:=(aUd.1 hi).1;simp only[aUp] at hlt;rw[<-Array.getElem?_toList];simp only[Array.toList_append,List.toList_toArray];rw[aUg (by simp;omega)]
    exact hi) U rfl rfl rfl
  simp only[if_true] at hstep;refine⟨_,_,⟨w.heap.size,0,some (P.cellsOf e,(olds.toArray++ys.toArray++Builtin.zeroCells z.cells (c-(len+n))).size)⟩,hrun,aUi _,?_,hstep,by show(w.heap.push _).size=_;simp,?_,?_,by show _<(w.heap.push _).size;simp,rfl,rfl,rfl⟩
  ·have:=Vr.slice (ρ:=ρ.upd H.length ⟨w.heap.size,0,some (P.cellsOf e,(olds.toArray++ys.toArray++Builtin.zeroCells z.cells (c-(len+n))).size)⟩) (o:=0) (n:=len+n) (cap:=len+n) (cap':=c)
    (Ren.mM _ _ _) (aUi _) hc (by
     intro e' T hT;simp only[aUE,Prod.mk.injEq] at hT;obtain⟨rfl,rfl⟩:=hT;rw[hsz,hcell];simp)
   simpa using this
  ·intro c' hc'
   show(w.heap.push _)[c']? =_
   rw[A7,if_neg U]
  ·exact hstep.rel.blk H.length _ _ (Ren.mM _ _ _) (by simp)
 split at h
 ·
  cases hv with
  |same _=>
  split at h
  ·rename_i hn0
   injection h with h;injection h with h3 h2;subst h3;subst h2;subst hn0;refine⟨_,w,Dv (w:=w) (w':=w) h0 h1 ht htx hs hl hf U (λa ha=>by cases ha) (λ_=>rfl),?_⟩
   exact Post.j7 hr (.same rfl)
  ·rename_i hn0
   split at h
   ·rename_i hroom
    injection h with h;injection h with h3 h2;subst h3;subst h2;have hfr:ρ H.length=none:=hfree _ (aUi _) (by simp)
    obtain⟨v1,w1,pl,hrun,_,hvr,hst,_⟩:=made 0 0 none [] [] (.j6 ρ) (by simp) (λw1 _=>by simp[Builtin.firstCells]) U (by simpa using hroom) hfr
    exact⟨v1,w1,hrun,_,by simpa using hvr,by simpa using hst⟩
   ·cases h
 ·rename_i b o len cap
  split at h
  ·rename_i cs e' k hb
   split at h
   ·
    rename_i hroom;obtain⟨pl,hpl,a',cap',rfl,hcc,haddr,hroomP⟩: ∃pl,ρ b=some pl/\ ∃(a':Addr)(cap':Nat),v'= .slice (some a') len cap'/\cap<=cap'/\(a'=⟨pl.c,pl.base+o,none⟩∨(len=0/\cap=0))/\(∀m,m<=cap->Vr ρ (.slice (some ⟨b,o,none⟩) m cap) (.slice (some a') m cap')):=by
     cases hv with
     |same hl=>simp[dI] at hl
     | @slice _ _ _ _ cap' pl hpl hn hcc hr'=>exact⟨pl,hpl,_,cap',rfl,hcc,.inl rfl,λm hm=> .slice hpl hm hcc hr'⟩
     | @slice0 _ _ pl a hpl=>exact⟨pl,hpl,a,0,rfl,aUi _,.inr ⟨rfl,rfl⟩,λm hm=>by
       have:m=0:=U
       subst this;exact .slice0 hpl⟩
    split at h
    ·rename_i hnil
     injection h with h;injection h with h3 h2;subst h3;subst h2;subst hnil;have:ys=[]:=by rw[hys.nU]
     subst this;refine⟨_,w,Dv (w:=w) (w':=w) h0 h1 ht htx hs hl hf U (λa ha=>by simp[storeCells]) (λ_=>rfl),?_⟩
     exact Post.j7 hr (hroomP _ hroom)
    ·rename_i hnil
     split at h
     ·rename_i hc
      obtain⟨hk,hlen,hall⟩:=hc;injection h with h;injection h with h3 h2;subst h3;subst h2;have haddr':a'=⟨pl.c,pl.base+o,none⟩:=by
       rcases haddr with h|⟨h1,h2⟩
       ·exact h
       ·exfalso
        have:n=0:=U
        subst this;apply hnil;apply aUv.1;simpa using hnl
      subst haddr';obtain⟨w',hrun,hst⟩:=Du (o:=o+len*sz) hr hpl hb hk hys (by rw[hnl];omega) hall
      refine⟨_,w',Dv (w:=w) (w':=w') h0 h1 ht htx hs hl hf U (λa ha=>by injection ha with ha;subst ha;rw[tG,Nat.add_assoc];exact hrun) (λh=>by cases h),?_⟩
      exact⟨ρ,hroomP _ hroom,hst⟩
     ·cases h
   ·
    rename_i hnroom
    split at h
    ·rename_i hc
     obtain⟨hk,rfl,hlen,hroom,hall⟩:=hc;injection h with h;injection h with h3 h2;subst h3;subst h2;have hfr:ρ H.length=none:=hfree _ (aUi _) (by simp)
     have hwr:wr H[b]? =true:=by rw[hb,hk];rfl
     have hold:((cs.drop o).take (len*sz)).length=len*sz:=by simp;omega
     have fresh: ∀(pl:Pl),ρ b=some pl-> ∀(base:Addr)(cap':Nat)(olds:List Value),Vrs ρ ((cs.drop o).take (len*sz)) olds->(∀w1:World,w1.heap=w.heap->(Builtin.firstCells sz len (.slice (some base) len cap')).run P w1= .ok olds.toArray w1)->
       cap'<len+n->pM P (Builtin.append_ ts ty #[.slice (some base) len cap',x']) w (Post P ρ H w (.slice (some ⟨H.length,0,none⟩) (len+n) (len+n)) (H.set b .dead++[.cells ((cs.drop o).take (len*sz)++new) e' .row])):=by
      intro pl0 hpl0 base cap' olds ho hof hlt;obtain⟨v1,w1,pl,hrun,hplc,hvr,hst,hsz,hsame,hB,hplt,g1,g2,g3⟩:=made len cap' (some base) _ olds ho hold hof hlt hroom hfr;refine⟨v1,w1,hrun,_,hvr,?_⟩;refine Step.Jy hr hfr (by simp) (λb'=> ?_) (.inl hplc) U hplt (λc _ hc=>hsame c hc) hB (by simp) g1 g2 g3
      rw[List.getElem?_set];by_cases e:b=b'
      ·subst e;right;exact⟨by simp[nD hb],pl0,hpl0,hwr⟩
      ·left;simp[e]
     cases hv with
     |same hl=>simp[dI] at hl
     | @slice0 _ _ pl a hpl=>
      refine fresh pl hpl a 0 [] (by simpa using Vrs.j6 ρ) (λw1 _=> ?_) U
      show(loadCells a (0*sz)).run P w1=_
      rw[Nat.zero_mul];rfl
     | @slice _ _ _ _ cap' pl hpl hn' hcc hroomP=>
      have hB:=hr.blk b pl _ hpl hb;obtain⟨olds,hol,hovr,hocell⟩:=hB.Dp hlen;have hof: ∀w1:World,w1.heap=w.heap->(Builtin.firstCells sz len (.slice (some ⟨pl.c,pl.base+o,none⟩) len cap')).run P w1= .ok olds.toArray w1:=by
       intro w1 hw1;have hrun:=run_loadCells_list (P:=P) w1 ⟨pl.c,pl.base+o,none⟩ olds (λj v hj=>by
        have:=hocell j v hj;simpa[World.cell?,hw1] using this)
       rw[hol] at hrun;simp[Builtin.firstCells,hrun]
      by_cases hin:len+n<=cap'
      ·
       obtain⟨ccs,ce,lo,hi,ho,hcs,hfz,hrow,hnrow⟩:=hB;have hroomE:=hroomP _ _ (hrow hk);rw[hcell] at hroomE;have hmul:len*sz+n*sz<=cap'*sz:=by rw[<-Nat.add_mul];exact Nat.mul_le_mul_right _ hin
       have hlt:=(aUC.1 ho).1;have hfit:pl.base+o+len*sz+0+ys.length<=ccs.size:=by rw[hyl];omega
       have hrun:=Jz P pl.c (pl.base+o+len*sz) ce (lo,hi) ys 0 w ccs ho hfit (hfz (by rw[hk];simp)) (hys.Ur hall)
       have hw': ∃w',(storeCells ⟨pl.c,pl.base+o+len*sz,none⟩ ys).run P w= .ok () w'/\w'.heap.size=w.heap.size/\(∀c:Nat,c≠pl.c->w'.heap[c]? =w.heap[c]?)/\
         w'.heap[pl.c]? =some (.cells (lJ ccs (pl.base+o+len*sz) ys) ce (lo,hi))/\w'.os=w.os/\w'.tape=w.tape/\w'.output=w.output:=by
        refine⟨_,hrun,?_⟩;split
        ·rename_i hnil
         subst hnil
         exact⟨rfl,λ_ _=>rfl,by simpa[lJ] using ho,rfl,rfl,rfl⟩
        ·exact⟨by simp[jI],λc hc=>by rw[vY _ _ _ hlt,if_neg hc],by rw[vY _ _ _ hlt];simp,rfl,rfl,rfl⟩
       obtain⟨w',hrun',hsz',hsame',hblk',hos',htp',hout'⟩:=hw';refine⟨_,w',Dv (w:=w) (w':=w') h0 h1 ht htx hs hl hf hin (λa ha=>by injection ha with ha;subst ha;rw[tG];exact hrun') (λh=>by cases h),?_⟩
       refine⟨ρ.upd H.length ⟨pl.c,pl.base+o,pl.room⟩,?_,?_⟩
       ·have:=Vr.slice (ρ:=ρ.upd H.length ⟨pl.c,pl.base+o,pl.room⟩) (o:=0) (n:=len+n) (cap:=len+n) (cap':=cap') (Ren.mM _ _ _) (aUi _) hin (by
         intro e2 T hT;have:=hroomP e2 T hT;simpa using this)
        simpa using this
       ·have hle:=Ren.vX (ρ:=ρ) (b:=H.length) ⟨pl.c,pl.base+o,pl.room⟩ hfr
        refine Step.Jy hr hfr (by simp) (λb'=> ?_) (.inr ⟨b,pl,hpl,hwr,rfl,by simp[nD hb]⟩) U (by rw[hsz'];exact hlt) (λc hc _=>hsame' c hc) ?_ (by simp) hos' htp' hout'
        ·rw[List.getElem?_set]
         by_cases e2:b=b'
         ·subst e2;right;exact⟨by simp[nD hb],pl,hpl,hwr⟩
         ·left;simp[e2]
        ·refine⟨_,ce,lo,hi,hblk',?_,?_,?_,?_⟩
         ·intro i u hi'
          rw[Uw _ _ _ (by rw[hyl];omega)]
          rw[List.getElem?_append] at hi'
          split at hi'
          ·rename_i h1
           rw[hold] at h1;rw[if_neg (by simp only;omega)]
           rw[List.getElem?_take,if_pos h1,List.getElem?_drop] at hi';obtain⟨v2,h2,h3⟩:=hcs _ _ hi';refine⟨v2,by simpa[Nat.add_assoc] using h2,h3.pL hle⟩
          ·rename_i h1
           rw[hold] at h1 hi';have hlt':=(aUd.1 hi').1;rw[hnl] at hlt';rw[if_pos (by simp only;rw[hyl];omega)]
           obtain⟨v2,h2,h3⟩:=hys.vV hi';refine⟨v2,by simp only;rw[show pl.base+o+i-(pl.base+o+len*sz)=i-len*sz by omega];exact h2,h3.pL hle⟩
         ·intro _ off hoff
          rw[Dq] at hoff;exact hfz (by rw[hk];simp) off hoff
         ·intro _
          simp only[Dq];exact hrow hk
         ·intro h;exact absurd rfl h
      ·exact fresh pl hpl _ _ olds hovr hof U
    ·cases h
  ·cases h
 ·cases h
end
section
variable {P : Program} {ρ : Ren} {H H' : aF} {w : World}
theorem Vrs.aE6 {xs ys:List Value}(h:Vrs ρ xs ys){u v:Value}(hv:Vr ρ u v)(i:Nat):Vrs ρ (xs.set i u) (ys.set i v):=by
 refine⟨by simp[h.1],λj a b ha hb=> ?_⟩
 rw[List.getElem?_set] at ha hb;by_cases e:i=j
 ·subst e
  rw[if_pos rfl] at ha hb
  split at ha<;>split at hb<;>simp_all
 ·rw[if_neg e] at ha hb
  exact h.2 j a b ha hb
theorem Vrs.aE7 {vs vs':List Value}(hv:Vrs ρ vs vs'): ∀{xs ys:List Value}(o:Nat),Vrs ρ xs ys->Vrs ρ (Abs.cU xs o vs) (Abs.cU ys o vs'):=by
 induction vs generalizing vs' with
 |nil=>intro xs ys o h;rw[hv.nU];exact h
 |cons u vs ih=>
  intro xs ys o h;obtain⟨v,vs'',rfl,h1,h2⟩:=hv.oR;exact ih h2 (o+1) (h.aE6 h1 o)
theorem U5 (a:Array Value)(o:Nat)(vs:List Value):(lJ a o vs).toList=cU a.toList o vs:=by
 induction vs generalizing a o with
 |nil=>rfl
 |cons v vs ih=>simp[lJ,cU,ih]
theorem Dx (zero:List Value)(n:Nat):(List.replicate n zero).flatten.length=n*zero.length:=by
 simp[List.length_flatten]
theorem U2 (zero:List Value): ∀(n i:Nat),i<n*zero.length->(List.replicate n zero).flatten[i]? =zero[i%zero.length]?
 |0,i,h=>by simp at h
 |n+1,i,h=>by
  rw[List.replicate_succ,aUN,List.getElem?_append];split
  ·rename_i hlt;rw[aUL hlt]
  ·rename_i hge
   rw[U2 zero n (i-zero.length) (by rw[Nat.add_mul] at h;omega)]
   rw[Nat.mod_eq_sub_mod (by omega:i≥zero.length)]
theorem U3 (z:Array Value)(n:Nat):((Array.range (n*z.size)).map (z[· %z.size]!)).toList=(List.replicate n z.toList).flatten:=by
  apply aUO;intro i;rw[Array.toList_map,Array.toList_range,aUq];by_cases h:i<n*z.size
  · rw[aUV h,U2 _ _ _ (by simpa using h)]
    have hz : 0 < z.size := by rcases Nat.eq_zero_or_pos z.size with e | e; · rw [e] at h; omega
                               · exact e
    have:i%z.size<z.size:=Nat.mod_lt _ hz;simp[this,getElem!_pos]
  · rw[aUo (by simpa using h),aUo (by rw[Dx];simpa using h)]
    rfl
theorem U4 (z:Array Value)(sz n:Nat)(h:z.size=sz):((Array.range (n*sz)).map (z[· %z.size]!)).toList=(List.replicate n z.toList).flatten:=by
 subst h;exact U3 z n
theorem aFc (z:Array Value)(n:Nat):(Builtin.zeroCells z n).toList=(List.replicate n z.toList).flatten:=by
 have:=U3 z n;simpa[Builtin.zeroCells] using this
theorem J3 {zero:List Value}(hz:zero.all dI=true)(n:Nat):Vrs ρ (List.replicate n zero).flatten (List.replicate n zero).flatten:=by
 refine⟨rfl,λi u v hu hv=> ?_⟩
 rw[hu] at hv;injection hv with e;subst e;have hm:=aUn hu;simp only[List.mem_flatten,List.mem_replicate] at hm;obtain⟨l,⟨_,rfl⟩,hm⟩:=hm;exact .same (aUS.1 hz u hm)
theorem Dy {b:Nat}{x:Blk}(h:H[b]? =some x):H.set b x=H:=by
 apply aUO;intro i;rw[List.getElem?_set];by_cases hi:b=i
 ·subst hi;rw[h];simp[nD h]
 ·simp[hi]
theorem aFa (hr:Rel P ρ (cF H) w){ts:Array TypeId}{t ty e:TypeId}{sz by':Nat}(hts:ts[0]? =some t)(ht:P.underlying t=some (.slice e))(hs:eW P e=some (sz,by'))
  {d d' s s' r:Value}(hd:Vr ρ d d')(hsv:Vr ρ s s')(h:cpy sz d s H=some (r,H')):pM P (Builtin.copy_ ts ty #[d',s']) w (Post P ρ H w r H'):=by
 unfold cpy at h
 split at h
 ·cases h
 rename_i sn hsn;have hl:=λw1=>U0 (P:=P) hsv hsn w1
 split at h
 ·injection h with h;injection h with h1 h2;subst h1;subst h2
  cases hd with
  |same _=>
   have h0:(Builtin.firstCells sz 0 s').run P w= .ok #[] w:=by
    have hz:dY sz s 0 H=some []∨(dY sz s 0 H=none):=by
     unfold dY;split
     ·simp
     ·simp
     ·split<;>simp
     ·simp
    cases hsv with
    |same hls=>cases s<;>simp_all [iN,dI,Builtin.firstCells]<;>rename_i a _ _<;>cases a<;>simp_all [Builtin.firstCells]
    |slice=>show(loadCells _ (0*sz)).run P w=_;rw[Nat.zero_mul];rfl
    |slice0=>show(loadCells _ (0*sz)).run P w=_;rw[Nat.zero_mul];rfl
    |ptr=>simp[iN] at hsn
    |map=>simp[iN] at hsn
    |func=>simp[iN] at hsn
    |agg=>simp[iN] at hsn
    |tuple=>simp[iN] at hsn
   refine⟨.int .i64 0,w,?_,Post.j7 hr (.same rfl)⟩;simp[Builtin.copy_,hts,run_underlying ht,hl w,nE hs,h0];rfl
 ·rename_i b o dn dc
  split at h
  ·cases h
  rename_i new hnew
  split at h
  ·rename_i cs e' k hb
   split at h
   ·rename_i hc
    obtain⟨hk,hlen,hall⟩:=hc;injection h with h;injection h with h1 h2;subst h1;subst h2;obtain⟨hnl,ys,hys,hyl,hf⟩:=U1 (P:=P) hr hsv hnew;have hf':=hf w rfl;have fin: ∀(a':Addr)(dc':Nat)(w':World),(storeCells a' ys).run P w= .ok () w'->d'= .slice (some a') dn dc'->
      (Builtin.copy_ ts ty #[d',s']).run P w= .ok (.int .i64 (min sn dn:Nat)) w':=by
     intro a' dc' w' hst hd';subst hd';have hmin:Nat.min sn dn=min sn dn:=rfl;simp[Builtin.copy_,hts,run_underlying ht,hl w,nE hs,hmin,hf',hst];rfl
    cases hd with
    |same hls=>simp[dI] at hls
    | @slice _ _ _ _ cap' pl hpl _ _ _=>
     obtain⟨w',hrun,hst⟩:=Du (o:=o) hr hpl hb hk hys (by rw[hnl];exact hlen) hall
     exact⟨_,w',fin _ _ w' hrun rfl,ρ,.same rfl,hst⟩
    | @slice0 _ _ pl a hpl=>
     have h0:min sn 0=0:=U
     rw[h0,Nat.zero_mul] at hnl;have hnil:=aUv.1 hnl;subst hnil;have:=hys.nU;subst this;refine⟨_,w,fin a 0 w (by simp[storeCells]) rfl,ρ,.same rfl,?_⟩
     simp only[cU];rw[Dy hb];exact Step.pK hr
   ·cases h
  ·cases h
 ·cases h
theorem aE9 (hr:Rel P ρ (cF H) w){ts:Array TypeId}{t ty e:TypeId}{sz by':Nat}{z:Value}(hts:ts[0]? =some t)(ht:P.underlying t=some (.slice e))(hs:eW P e=some (sz,by'))(hz:nT P e=some z)(hzl:z.cells.toList.all dI=true)
  {d d' r:Value}(hd:Vr ρ d d')(h:clr sz z.cells.toList d H=some (r,H')):pM P (Builtin.clear_ ts ty #[d']) w (Post P ρ H w r H'):=by
 unfold clr at h
 split at h
 ·injection h with h;injection h with h1 h2;subst h1;subst h2
  cases hd with
  |same _=>exact⟨.tuple #[],w,by simp[Builtin.clear_,hts,run_underlying ht],Post.j7 hr (.mL rfl)⟩
 ·rename_i b o n c
  split at h
  ·rename_i h0
   injection h with h;injection h with h1 h2;subst h1;subst h2;subst h0;cases hd with
   |same hls=>simp[dI] at hls
   |slice=>exact⟨.tuple #[],w,by simp[Builtin.clear_,hts,run_underlying ht],Post.j7 hr (.mL rfl)⟩
   |slice0=>exact⟨.tuple #[],w,by simp[Builtin.clear_,hts,run_underlying ht],Post.j7 hr (.mL rfl)⟩
  ·rename_i h0
   split at h
   ·rename_i cs e' k hb
    split at h
    ·rename_i hc
     obtain⟨hk,hlen,hzs,hall⟩:=hc;injection h with h;injection h with h1 h2;subst h1;subst h2;cases hd with
     |same hls=>simp[dI] at hls
     |slice0=>exact absurd rfl h0
     | @slice _ _ _ _ cap' pl hpl _ _ _=>
      have hrep:cA (List.replicate n z.cells.toList).flatten=true:=by
       simp only[cA,aUS] at hall⊢;intro x hx;simp only[List.mem_flatten,List.mem_replicate] at hx;obtain⟨l,⟨_,rfl⟩,hx⟩:=hx;exact hall x hx
      obtain⟨w',hrun,hst⟩:=Du (o:=o) hr hpl hb hk (J3 hzl n) (by rw[Dx,hzs];exact hlen) hrep
      refine⟨_,w',?_,ρ,.mL (v:= .tuple #[]) rfl,hst⟩;rw[<-aFc] at hrun;cases n with
      |zero=>exact absurd rfl h0
      |succ n=>simp[Builtin.clear_,hts,run_underlying ht,yV hz,hrun]
    ·cases h
   ·cases h
 ·cases h
theorem aFb (hr:Rel P ρ (cF H) w){t e:TypeId}{sz by':Nat}{z:Value}(ht:P.underlying t=some (.slice e))(hs:eW P e=some (sz,by'))(hz:nT P e=some z)(hzl:z.cells.toList.all dI=true)
  {n n' c c' r:Value}(hn:Vr ρ n n')(hc:Vr ρ c c')(hfree: ∀b,H.length<=b->b<H'.length->ρ b=none)
  (h:gU e sz by' z.cells.toList n c H=some (r,H')):pM P (Instr.makeSlice t n' c') w (Post P ρ H w r H'):=by
 unfold gU at h
 split at h
 ·rename_i kn n kc c
  split at h
  ·rename_i hcond
   obtain⟨h0,hnc,hby,h62,hzs⟩:=hcond;injection h with h;injection h with h1 h2;subst h1;subst h2;have e1:=hn.gW rfl;have e2:=hc.gW rfl;subst e1;subst e2;obtain⟨i,hi,hi1,hi2⟩:=Dr hs;have hzv:i.zero=some z:=by unfold nT at hz;simpa[hi] using hz
   have hrun:=run_make (P:=P) w t e i z ht hi hzv kn kc n c h0 hnc (by rw[hi2];exact hby) U
   rw[hi1] at hrun;have hfr:ρ H.length=none:=hfree _ (aUi _) (by simp)
   have hlist:(madeCells z.cells (c.toNat*sz)).toList=(List.replicate c.toNat z.cells.toList).flatten:=by
    unfold madeCells;exact U4 z.cells sz c.toNat (by simpa using hzs)
   have hst:=Dt (w':=w.alloc (.cells (madeCells z.cells (c.toNat*sz)) e)) hr hfr (e:=e) (J3 hzl c.toNat) .row (lo:=0) (hi:=0) (ccs:=madeCells z.cells (c.toNat*sz)) rfl
    (λi v hi=>by rw[<-hlist] at hi;rw[<-Array.getElem?_toList];exact hi) U rfl rfl rfl
   simp only[if_true] at hst;refine⟨_,_,hrun,_,?_,hst⟩;have:=Vr.slice (ρ:=ρ.upd H.length ⟨w.heap.size,0,some (P.cellsOf e,(madeCells z.cells (c.toNat*sz)).size)⟩) (o:=0) (n:=n.toNat) (cap:=c.toNat) (cap':=c.toNat) (Ren.mM _ _ _) U (aUi _) (by
    intro e' T hT;simp only[aUE,Prod.mk.injEq] at hT;obtain⟨rfl,rfl⟩:=hT;rw[size_madeCells,J0 hs];simp)
   simpa using this
  ·cases h
 ·cases h
theorem U6 (off:Nat): ∀(l:List Value)(k:Nat)(a:Array Value),(l.zipIdx k).foldl (λcs (x:Value×Nat)=>cs.setIfInBounds (off+x.2) x.1) a=lJ a (off+k) l
 |[],k,a=>rfl
 |v::l,k,a=>by simp only[List.zipIdx_cons,List.foldl_cons,lJ];rw[U6 off l (k+1)];rfl
def A8 (ρ:Ren)(ps ps':List (Nat×Value)):Prop:=ps.map (·.1)=ps'.map (·.1)/\Vrs ρ (ps.map (·.2)) (ps'.map (·.2))
theorem Dw (place:Nat->Option (Nat×Nat)): ∀(ps ps':List (Nat×Value))(cs cs' r:Array Value),A8 ρ ps ps'->Vrs ρ cs.toList cs'.toList->Instr.fill place cs ps=some r->
  ∃r',Instr.fill place cs' ps'=some r'/\Vrs ρ r.toList r'.toList
 |[],ps',cs,cs',r,hp,hc,h=>by
  have:ps'=[]:=by have:=hp.1;simp at this;exact this
  subst this;simp only[Instr.fill,aUE] at h;subst h
  exact⟨cs',rfl,hc⟩
 |(i,v)::ps,ps',cs,cs',r,hp,hc,h=>by
  cases ps' with
  |nil=>have:=hp.1;simp at this
  |cons p ps'=>
   obtain⟨i',v'⟩:=p;have hi:i'=i:=by have:=hp.1;simp at this;exact this.1.symm
   subst hi;have hv:Vr ρ v v':=by have:=hp.2;exact Vrs.Jt (by simpa using this)
   have hps:A8 ρ ps ps':=⟨by have:=hp.1;simp at this;exact this,by have:=hp.2;exact Vrs.Ut (by simpa using this)⟩
   simp only[Instr.fill] at h⊢
   split at h
   ·cases h
   ·rename_i off size hpl
    try rw[hpl]
    have hvc:=hv.A4;have e1:v'.cells.size=v.cells.size:=by have:=hvc.1;simpa using this.symm
    have e2:cs'.size=cs.size:=by have:=hc.1;simpa using this.symm
    simp only[e1,e2]
    split at h
    ·cases h
    ·rename_i hcond
     rw[if_neg hcond];have key: ∀(x:Array Value)(a:Array Value),x.zipIdx.foldl (λcs (p:Value×Nat)=>cs.setIfInBounds (off+p.2) p.1) a=lJ a off x.toList:=by
      intro x a;rw[<-Array.foldl_toList,Array.toList_zipIdx,U6];rfl
     have hk1:=key v.cells cs;have hk2:=key v'.cells cs';refine Dw place ps ps' _ _ r hps ?_ h;have:Vrs ρ (lJ cs off v.cells.toList).toList (lJ cs' off v'.cells.toList).toList:=by
      rw[U5,U5];exact Vrs.aE7 hvc off hc
     rw[<-hk1,<-hk2] at this;exact this
theorem aE8 (hr:Rel P ρ (cF H) w){t e:TypeId}{sz by' n:Nat}{z:Value}(ht:P.underlying t=some (.slice e))(hs:eW P e=some (sz,by'))(hz:nT P e=some z)(hzl:z.cells.toList.all dI=true)
  (hzs:z.cells.toList.length=sz)(hn:n*sz<=2 ^ 24){ps:List (Nat×Value)}{ps':Array (Nat×Value)}(hps:A8 ρ ps ps'.toList){r:Value}(hfree: ∀b,H.length<=b->b<H'.length->ρ b=none)
  (h:b9 e sz n z.cells.toList ps H=some (r,H')):pM P (Instr.buildSlice t n ps') w (Post P ρ H w r H'):=by
 unfold b9 at h
 split at h
 ·rename_i cs hcs
  injection h with h;injection h with h1 h2;subst h1;subst h2;obtain⟨cs',hfill,hrel⟩:=Dw _ ps ps'.toList _ (List.replicate n z.cells.toList).flatten.toArray _ hps (by simpa using J3 hzl n) hcs
  have hfr:ρ H.length=none:=hfree _ (aUi _) (by simp)
  have hst:=Dt (w':=w.alloc (.cells cs' e)) hr hfr (e:=e) hrel .row (lo:=0) (hi:=0) (ccs:=cs') rfl (λi v hi=>by rw[<-Array.getElem?_toList];exact hi) U rfl rfl rfl
  simp only[if_true] at hst;have hsize: ∀(place:Nat->Option (Nat×Nat))(ps:List (Nat×Value))(a r:Array Value),Instr.fill place a ps=some r->r.size=a.size:=by
   intro place ps;induction ps with
   |nil=>intro a r h;simp[Instr.fill] at h;subst h;rfl
   |cons p ps ih=>
    intro a r h;simp only[Instr.fill] at h
    split at h
    ·cases h
    ·split at h
     ·cases h
     ·have:=ih _ _ h
      rw[this];have: ∀(l:List (Value×Nat))(off:Nat)(a:Array Value),(l.foldl (λcs (p:Value×Nat)=>cs.setIfInBounds (off+p.2) p.1) a).size=a.size:=by
       intro l off;induction l with
       |nil=>intro a;rfl
       |cons x l ih=>intro a;simp only[List.foldl_cons];rw[ih];simp
      rw[<-Array.foldl_toList];exact this _ _ _
  have hsz:cs'.size=n*sz:=by
   rw[hsize _ _ _ _ hfill];simp only[List.size_toArray];rw[Dx,hzs]
  refine⟨.slice (some ⟨w.heap.size,0,none⟩) n n,w.alloc (.cells cs' e),?_,_,?_,hst⟩
  ·have hinit:((Array.range (n*sz)).map (z.cells[· %z.cells.size]!))=(List.replicate n z.cells.toList).flatten.toArray:=by
    apply Array.ext';rw[U4 z.cells sz n (by simpa using hzs)]
   have hnlt: ¬(2 ^ 24<n*sz):=U
   by_cases h0:n*sz=0
   ·have he:(List.replicate n z.cells.toList).flatten=[]:=by
     apply aUv.1;rw[Dx,hzs];exact h0
    rw[he] at hfill;simp[Instr.buildSlice,run_underlying ht,nE hs,h0,hfill,newRow,Array.range_zero']
   ·simp[Instr.buildSlice,run_underlying ht,nE hs,h0,hnlt,yV hz,newRow]
    rw[hinit,hfill];simp
  ·have:=Vr.slice (ρ:=ρ.upd H.length ⟨w.heap.size,0,some (P.cellsOf e,cs'.size)⟩) (o:=0) (n:=n) (cap:=n) (cap':=n) (Ren.mM _ _ _) (aUi _) (aUi _) (by
    intro e' T hT;simp only[aUE,Prod.mk.injEq] at hT;obtain⟨rfl,rfl⟩:=hT;rw[hsz,J0 hs];simp)
   simpa using this
 ·cases h
end
section
variable {P : Program} {ρ : Ren} {H H' : aF} {w : World}
def Vro (ρ:Ren):Option Value->Option Value->Prop
 |none,none=>True
 |some v,some v'=>Vr ρ v v'
 |_,_=>False
theorem uK {d:Nat}{x x':Option Value}{n:Nat}(hx:Vro ρ x x')(h:bnd d x=some n):
  (x'=none/\n=d)∨ ∃k i,x'=some (.int k i)/\0<=i/\i.toNat=n:=by
 cases x with
 |none=>
  cases x' with
  |none=>left;simp[bnd] at h;exact⟨rfl,h.symm⟩
  |some _=>exact hx.elim
 |some v=>
  cases x' with
  |none=>exact hx.elim
  |some v'=>
   right;cases v<;>simp[bnd] at h
   obtain⟨h0,h1⟩:=h;have:=Vr.gW hx rfl;subst this
   exact⟨_,_,rfl,h0,h1⟩
theorem D4 {lo hi mx:Option Value}{l h m len cap dm:Nat}{isSlice:Bool}
  (h1:(lo=none/\l=0)∨ ∃k i,lo=some (.int k i)/\0<=i/\i.toNat=l)(h2:(hi=none/\h=len)∨ ∃k i,hi=some (.int k i)/\0<=i/\i.toNat=h)
  (h3:(mx=none/\dm=cap)∨ ∃k i,mx=some (.int k i)/\0<=i/\i.toNat=m/\dm=m/\hi≠none)(hlh:l<=h)(hhm:h<=dm)(hmc:mx.isSome=true->m<=cap)(w:World):
  (Instr.sliceBounds isSlice len cap lo hi mx).run P w= .ok (l,h,dm) w:=by
 rcases h3 with⟨rfl,rfl⟩|⟨k3,i3,rfl,h30,h31,rfl,hne⟩
 ·rcases h2 with⟨rfl,rfl⟩|⟨k2,i2,rfl,h20,h21⟩
  ·rcases h1 with⟨rfl,rfl⟩|⟨k1,i1,rfl,h10,h11⟩
   ·simp[Instr.sliceBounds]
   ·simp only[Instr.sliceBounds,Sem.run_bind,Sem.run_pure,aUB]
    rw[run_sliceBound w k1 i1 _ _ h10 U];simp[h11]
  ·rcases h1 with⟨rfl,rfl⟩|⟨k1,i1,rfl,h10,h11⟩
   ·simp only[Instr.sliceBounds,Sem.run_bind,Sem.run_pure,aUB]
    rw[run_sliceBound w k2 i2 _ _ h20 U];simp[h21]
   ·simp only[Instr.sliceBounds,Sem.run_bind,Sem.run_pure,aUB]
    rw[run_sliceBound w k2 i2 _ _ h20 U]
    simp only[aUB];rw[run_sliceBound w k1 i1 _ _ h10 U];simp[h21,h11]
 ·have hm:=hmc rfl
  rcases h2 with⟨rfl,rfl⟩|⟨k2,i2,rfl,h20,h21⟩
  ·exact absurd rfl hne
  ·rcases h1 with⟨rfl,rfl⟩|⟨k1,i1,rfl,h10,h11⟩
   ·simp only[Instr.sliceBounds,Sem.run_bind,Sem.run_pure,aUB]
    rw[run_sliceBound w k3 i3 _ _ h30 U]
    simp only[aUB];rw[run_sliceBound w k2 i2 _ _ h20 U];simp[h21,h31]
   ·simp only[Instr.sliceBounds,Sem.run_bind,Sem.run_pure,aUB]
    rw[run_sliceBound w k3 i3 _ _ h30 U]
    simp only[aUB];rw[run_sliceBound w k2 i2 _ _ h20 U]
    simp only[aUB];rw[run_sliceBound w k1 i1 _ _ h10 U];simp[h21,h11,h31]
theorem aFi (hr:Rel P ρ (cF H) w){t e:TypeId}{sz by':Nat}(ht:P.underlying t=some (.slice e))(hs:eW P e=some (sz,by'))
    {v v' r:Value}{lo lo' hi hi' mx mx':Option Value}(hv:Vr ρ v v')(hlo:Vro ρ lo lo')(hhi:Vro ρ hi hi')(hmx:Vro ρ mx mx')(hmh:mx.isSome=true->hi≠none)
    (h:slc P sz v lo hi mx H=some (r,H')):H'=H/\ ∃v'',(Instr.sliceAt t v' lo' hi' mx').run P w= .ok v'' w/\Vr ρ r v'':=by
  have hat: ∀x,(Instr.sliceAt t x lo' hi' mx').run P w=(Instr.slice t x lo' hi' mx').run P w:=by
    intro x;simp[Instr.sliceAt,run_underlying ht]
  have hmh': ∀{k i},mx'=some (.int k i)->hi'≠none:=by
    intro k i e;subst e;cases mx with
    |none=>exact hmx.elim
    |some m=>
      have:=hmh rfl;cases hi with
      |none=>exact absurd rfl this
      |some _=>cases hi' with
        |none=>exact hhi.elim
        |some _=>simp
  unfold slc at h
  split at h
  · split at h
    · rename_i e1 e2 e3
      injection h with h;injection h with h1 h2;subst h1;subst h2;cases hv with
      |same _=>
        refine⟨rfl,.slice none 0 0,?_,.same rfl⟩;rw[hat];have b3:=uK hmx e3;have hb:=D4 (P:=P) (isSlice:=true) (len:=0) (cap:=0) (uK hlo e1) (uK hhi e2) (dm:=0) (m:=0)
          (by rcases b3 with ⟨a, b⟩ | ⟨k, i, a, b, c⟩
              · exact .inl ⟨a,rfl⟩
              · exact .inr ⟨k,i,a,b,c,rfl,hmh' a⟩) (aUi _) (aUi _) (λ_=>aUi _) w
        simp[Instr.slice,run_underlying ht,hb,nE hs]
    · cases h
  · rename_i b o len cap
    split at h
    · rename_i cs e' k hb
      split at h
      · rename_i l h' m e1 e2 e3
        split at h
        · rename_i hc
          obtain⟨hlh,hhm,hmc,hkr⟩:=hc;injection h with h;injection h with h1 h2;subst h1;subst h2;have b1:=uK hlo e1;have b2:=uK hhi e2;have b3:=uK hmx e3;refine⟨rfl,?_⟩;rw[hat];cases hv with
          |same hl=>simp[dI] at hl
          | @slice0 _ _ pl a hpl=>
            have hm0:m=0:=U
            have hh0:h'=0:=U
            have hl0:l=0:=U
            subst hm0;subst hh0;subst hl0;have hb:=D4 (P:=P) (isSlice:=true) (len:=0) (cap:=0) b1 b2 (dm:=0) (m:=0)
              (by rcases b3 with ⟨a, b⟩ | ⟨k, i, a, b, c⟩
                  · exact .inl ⟨a,rfl⟩
                  · exact .inr ⟨k,i,a,b,c,rfl,hmh' a⟩) (aUi _) (aUi _) (λ_=>aUi _) w
            refine⟨.slice (some a) 0 0,by simp[Instr.slice,run_underlying ht,hb,nE hs],?_⟩
            simpa using Vr.slice0 (o:=o) (a:=a) hpl
          | @slice _ _ _ _ cap' pl hpl hn hcc hroom=>
            obtain⟨dm,hdm,hbm⟩: ∃dm,m<=dm/\dm<=cap'/\((mx'=none/\dm=cap')∨ ∃k i,mx'=some (.int k i)/\0<=i/\i.toNat=m/\dm=m/\hi'≠none):=by
              rcases b3 with⟨a,b⟩|⟨k,i,a,b,c⟩
              · exact⟨cap',by omega,aUi _,.inl ⟨a,rfl⟩⟩
              · exact⟨m,aUi _,by omega,.inr ⟨k,i,a,b,c,rfl,hmh' a⟩⟩
            obtain⟨hdc,hbm⟩:=hbm;have hb:=D4 (P:=P) (isSlice:=true) (len:=len) (cap:=cap') b1 b2 hbm hlh U (λ_=>by omega) w
            refine⟨.slice (if dm=l then some ⟨pl.c,pl.base+o,none⟩ else some ⟨pl.c,pl.base+o+l*sz,none⟩) (h'-l) (dm-l),?_,?_⟩
            · simp[Instr.slice,run_underlying ht,hb,nE hs,tG]
            · by_cases hd:dm=l
              · have e4:h'-l=0:=U
                have e5:m-l=0:=U
                have e6:dm-l=0:=U
                rw[if_pos hd,e4,e5,e6];exact .slice0 hpl
              · rw[if_neg hd]
                have:=Vr.slice (ρ:=ρ) (o:=o+l*sz) (n:=h'-l) (cap:=m-l) (cap':=dm-l) hpl U U (by
                  intro e2 T hT;have h1:=hroom e2 T hT;have hB:=hr.blk b pl _ hpl (by simpa[cF] using ‹H[b]? =some (Blk.cells cs e' k)›)
                  obtain⟨ccs,ce,lo0,hi0,ho,hcs,hfz,hrow,hnrow⟩:=hB;have hk:k= .row:=by
                    cases hk:decide (k=Kind.row) with
                    |true=>simpa using hk
                    |false=>rw[hnrow (by simpa using hk)] at hT;cases hT
                  have hsz:=hkr hk;rw[hrow hk] at hT;injection hT with hT;injection hT with hT1 hT2;subst hT1;rw[hsz] at h1⊢;have hmul:l*sz+(dm-l)*sz<=cap'*sz:=by rw[<-Nat.add_mul];exact Nat.mul_le_mul_right _ U
                  omega)
                simpa[Nat.add_assoc] using this
        · cases h
      · cases h
    · cases h
  · cases h
theorem aFh (hr:Rel P ρ (cF H) w){t e:TypeId}{n sz by':Nat}(ht:P.underlying t=some (.array n e))(hs:eW P e=some (sz,by'))
  {v v' r:Value}{lo lo' hi hi':Option Value}(hv:Vr ρ v v')(hlo:Vro ρ lo lo')(hhi:Vro ρ hi hi')
  (h:pG n sz v lo hi H=some (r,H')):H'=H/\ ∃v'',(Instr.sliceAt t v' lo' hi' none).run P w= .ok v'' w/\Vr ρ r v'':=by
 unfold pG at h
 split at h
 ·rename_i b o
  split at h
  ·rename_i cs e' k hb
   split at h
   ·rename_i l h' e1 e2
    split at h
    ·rename_i hc
     obtain⟨hlh,hhn,hk⟩:=hc;injection h with h;injection h with h1 h2;subst h1;subst h2;obtain⟨pl,hpl,rfl⟩:=hv.yT;have hbr:=D4 (P:=P) (isSlice:=false) (len:=n) (cap:=n) (uK hlo e1) (uK hhi e2) (m:=0) (.inl ⟨rfl,rfl⟩) hlh hhn (λh=>by cases h) w
     refine⟨rfl,.slice (some (if n=l then⟨pl.c,pl.base+o,none⟩ else⟨pl.c,pl.base+o+l*sz,none⟩)) (h'-l) (n-l),?_,?_⟩
     ·simp[Instr.sliceAt,run_underlying ht,Instr.sureAddr,hbr,nE hs,tG]
     ·by_cases hd:n=l
      ·have e4:h'-l=0:=U
       have e6:n-l=0:=U
       rw[if_pos hd,e4,e6];exact .slice0 hpl
      ·rw[if_neg hd]
       have:=Vr.slice (ρ:=ρ) (o:=o+l*sz) (n:=h'-l) (cap:=n-l) (cap':=n-l) hpl U (aUi _) (by
        intro e2 T hT;obtain⟨ccs,ce,lo0,hi0,ho,hcs,hfz,hrow,hnrow⟩:=hr.blk b pl _ hpl hb;rw[hnrow (by rw[hk];simp)] at hT;cases hT)
       simpa[Nat.add_assoc] using this
    ·cases h
   ·cases h
  ·cases h
 ·cases h
theorem U7: ∀{l:List Value}{bs:List UInt8},yP l=some bs-> ∃ns:List Int,l=ns.map (Value.int .u8)/\bs=ns.map λn=>UInt8.ofNat n.toNat
 |[],bs,h=>by simp[yP] at h;exact⟨[],rfl,by simp[h]⟩
 |v::l,bs,h=>by
  unfold yP at h
  split at h
  ·rename_i hh;cases hh
  ·rename_i n r' hh
   injection hh with h1 h2;subst h1;subst h2;cases hb:yP l with
   |none=>simp[hb] at h
   |some bs'=>
    simp[hb] at h;obtain⟨ns,rfl,rfl⟩:=U7 hb
    exact⟨n::ns,rfl,by simp[h]⟩
  ·cases h
theorem aFj (hr:Rel P ρ (cF H) w){s d e:TypeId}(hs:P.underlying s=some (.slice e))(he:P.underlying e=some (.int .u8))(hd:P.underlying d=some .string)
  {v v' r:Value}(hv:Vr ρ v v')(h:oN v H=some (r,H')):H'=H/\(convert s d v').run P w= .ok r w/\cL r=true:=by
 unfold oN at h
 split at h
 ·injection h with h;injection h with h1 h2;subst h1;subst h2
  cases hv with
  |same _=>
   refine⟨rfl,?_,rfl⟩;rw[run_convert_bytes_string w s d e none 0 0 hs he hd];simp[Conv.bytesToString]
 ·rename_i b o n c
  split at h
  ·rename_i h0
   injection h with h;injection h with h1 h2;subst h1;subst h2;subst h0;have fin0: ∀(a:Addr)(c':Nat),(convert s d (.slice (some a) 0 c')).run P w= .ok (.string .empty) w:=by
    intro a c';rw[run_convert_bytes_string w s d e (some a) 0 c' hs he hd,run_bytesToString w a 0 c' [] (by rfl)]
    rfl
   refine⟨rfl,?_,rfl⟩;cases hv with
   |same hl=>simp[dI] at hl
   | @slice _ _ _ _ cap' pl hpl _ _ _=>exact fin0 _ _
   | @slice0 _ _ pl a hpl=>exact fin0 _ _
  split at h
  ·rename_i cs e' k hb
   split at h
   ·rename_i hlen
    split at h
    ·rename_i bs hbs
     injection h with h;injection h with h1 h2;subst h1;subst h2;refine⟨rfl,?_,rfl⟩;obtain⟨ns,hns,hbs'⟩:=U7 hbs;have fin: ∀(a:Addr)(c':Nat),(loadCells a n).run P w= .ok (ns.map (Value.int .u8)).toArray w->(convert s d (.slice (some a) n c')).run P w= .ok (.string ⟨bs.toArray⟩) w:=by
      intro a c' hl;rw[run_convert_bytes_string w s d e (some a) n c' hs he hd,run_bytesToString w a n c' ns hl,foldl_push_bytes,hbs'];simp[ByteArray.empty,ByteArray.emptyWithCapacity];rfl
     cases hv with
     |same hl=>simp[dI] at hl
     | @slice _ _ _ _ cap' pl hpl _ _ _=>
      apply fin;obtain⟨ys,hyl,hys,hcell⟩:=(hr.blk b pl _ hpl hb).Dp hlen;have hrun:=run_loadCells_list (P:=P) w ⟨pl.c,pl.base+o,none⟩ ys hcell;rw[hyl] at hrun;have:ys=ns.map (Value.int .u8):=by
       rw[hns] at hys;apply aUO;intro i;cases hi:(ns.map (Value.int .u8))[i]? with
       |none=>
        apply aUo;rw[<-hys.1];exact List.getElem?_eq_none_iff.1 hi
       |some x=>
        obtain⟨y,hy,hxy⟩:=hys.vV hi;rw[hy];have hm:=aUn hi;simp only[aUQ] at hm;obtain⟨z,_,rfl⟩:=hm;rw[hxy.gW rfl]
      rw[this] at hrun;exact hrun
     | @slice0 _ _ pl a hpl=>
      apply fin;simp at hns;have:ns=[]:=by cases ns<;>simp_all
      subst this;rfl
    ·cases h
   ·cases h
  ·cases h
 ·cases h
theorem J5: ∀{ks:List Bool}{xs ys:List Value}{b:Bool},eqT ks xs ys=some b->(∀x∈xs,cL x=true)/\(∀y∈ys,cL y=true)
 |ks,xs,ys,b,h=>by
  unfold eqT at h
  split at h
  ·exact⟨by simp,by simp⟩
  ·rename_i ks' k a xs' k' b' ys'
   split at h
   ·cases hr:eqT ks' xs' ys' with
    |none=>simp[hr] at h
    |some r=>
     obtain⟨h2,h3⟩:=J5 hr
     exact⟨by simp[cL];exact h2,by simp[cL];exact h3⟩
   ·cases h
  ·rename_i ks' a xs' b' ys'
   cases hr:eqT ks' xs' ys' with
   |none=>simp[hr] at h
   |some r=>
    obtain⟨h2,h3⟩:=J5 hr
    exact⟨by simp[cL];exact h2,by simp[cL];exact h3⟩
  ·cases h
theorem Vrs.Dz {xs ys:List Value}(h:Vrs ρ xs ys)(hf: ∀x∈xs,cL x=true):ys=xs:=by
 induction xs generalizing ys with
 |nil=>exact h.nU
 |cons x xs ih=>
  obtain⟨y,ys',rfl,hy,hs⟩:=h.oR;rw[hy.gW (hf x (by simp)),ih hs λz hz=>hf z (by simp[hz])]
theorem J8 (d:Nat)(xs ys:Array Value): ∀(fs:List Field)(k:Nat)(ks:List Bool)(b:Bool),qN P k fs=some ks->
  eqT ks (xs.toList.drop k) (ys.toList.drop k)=some b->(Op.eqFields (d+1) xs ys fs).run P w= .ok b w
 |[],k,ks,b,hf,h=>by
  simp only[qN,aUE] at hf;subst hf;unfold eqT at h
  split at h<;>simp_all
  subst h;simp[Op.eqFields]
 |f::fs,k,ks,b,hf,h=>by
  simp only[qN] at hf
  split at hf
  ·rename_i hc
   obtain⟨hoff,hname⟩:=hc;have px: ∀(zs:Array Value)(z:Value)(zr:List Value),lI P f.type=some false->zs.toList.drop k=z::zr->(part f.type zs f.offset).run P w= .ok z w:=by
    intro zs z zr hagg hz;have hk:k<zs.toList.length:=by
     rcases Nat.lt_or_ge k zs.toList.length with hk|hk
     ·exact hk
     ·rw[List.drop_eq_nil_of_le hk] at hz;cases hz
    have:zs.toList[k]? =some z:=by
     have:=congrArg (λl:List Value=>l[0]?) hz
     simpa using this
    rw[Array.getElem?_toList] at this;simp[part,yU hagg,hoff,this]
   have tl: ∀(zs:Array Value)(z:Value)(zr:List Value),zs.toList.drop k=z::zr->zs.toList.drop (k+1)=zr:=by
    intro zs z zr hz;have:=congrArg List.tail hz;simpa using this
   split at hf
   ·rename_i kk hu
    have hagg:lI P f.type=some false:=by simp[lI,hu]
    cases hks:qN P (k+1) fs with
    |none=>simp[hks] at hf
    |some ks'=>
     simp[hks] at hf;subst hf;unfold eqT at h
     split at h
     ·rename_i hh _ _;cases hh
     ·rename_i ks2 k1 a xs' k2 b' ys' e1 e2 e3
      injection e1 with _ e1;subst e1
      split at h
      ·rename_i hk
       subst hk;cases hr:eqT ks' xs' ys' with
       |none=>simp[hr] at h
       |some r=>
        rw[hr] at h;injection h with h;subst h;have ih:=J8 d xs ys fs (k+1) ks' r hks (by rw[tl xs _ _ e2,tl ys _ _ e3];exact hr)
        simp only[Op.eqFields,hname,not_false_eq_true,if_true,ne_eq,Sem.run_bind,px xs _ _ hagg e2,px ys _ _ hagg e3,aUB,run_equalIn_int w d f.type k1 kk a b' hu];cases hab:(a==b') with
        |false=>simp
        |true=>simp[ih]
      ·cases h
     ·rename_i hh _ _;cases hh
     ·cases h
   ·rename_i hu
    have hagg:lI P f.type=some false:=by simp[lI,hu]
    cases hks:qN P (k+1) fs with
    |none=>simp[hks] at hf
    |some ks'=>
     simp[hks] at hf;subst hf;unfold eqT at h
     split at h
     ·rename_i hh _ _;cases hh
     ·rename_i hh _ _;cases hh
     ·rename_i ks2 a xs' b' ys' e1 e2 e3
      injection e1 with _ e1;subst e1;cases hr:eqT ks' xs' ys' with
      |none=>simp[hr] at h
      |some r=>
       rw[hr] at h;injection h with h;subst h;have ih:=J8 d xs ys fs (k+1) ks' r hks (by rw[tl xs _ _ e2,tl ys _ _ e3];exact hr)
       simp only[Op.eqFields,hname,not_false_eq_true,if_true,ne_eq,Sem.run_bind,px xs _ _ hagg e2,px ys _ _ hagg e3,aUB,run_equalIn_bool' w d f.type a b' hu];cases hab:(a==b') with
       |false=>simp
       |true=>simp[ih]
     ·cases h
   ·cases hf
  ·cases hf
theorem D0 {t:TypeId}{ks:List Bool}(h:rM P t=some ks):P.underlying t=some (.struct (P.fieldsOf t))/\P.stoodInHeld t=false/\P.eqGuardType P.depth t=false/\qN P 0 (P.fieldsOf t).toList=some ks:=by
 unfold rM at h
 split at h
 ·rename_i fs hu
  split at h
  ·rename_i hc
   have:P.fieldsOf t=fs:=by simp[Program.fieldsOf,hu]
   rw[this]
   exact⟨hu,hc.1,hc.2,h⟩
  ·cases h
 ·cases h
theorem Ve (d:Nat){t:TypeId}{ks:List Bool}{xs ys:Array Value}{b:Bool}(hk:rM P t=some ks)(h:eqT ks xs.toList ys.toList=some b)(w:World):
  (Op.equalIn (d+2) t (.agg xs) (.agg ys)).run P w= .ok b w:=by
 obtain⟨h1,h2,h3,h4⟩:=D0 hk;rw[run_equalIn_struct w (d+1) t xs ys h1 h2];exact J8 d xs ys _ 0 ks b h4 (by simpa using h)
theorem Va {t e:TypeId}(d:Nat)(p:Option Addr)(hu:P.underlying t=some (.pointer e))(w:World):(Op.equalIn (d+1) t (.pointer none) (.pointer p)).run P w= .ok p.isNone w:=by
 cases p<;>simp[Op.equalIn,run_underlying hu]
theorem aFg {t e:TypeId}(d:Nat)(p:Option Addr)(hu:P.underlying t=some (.pointer e))(w:World):(Op.equalIn (d+1) t (.pointer p) (.pointer none)).run P w= .ok p.isNone w:=by
 cases p<;>simp[Op.equalIn,run_underlying hu]
theorem J4 {t e:TypeId}(d:Nat)(p:Option Addr)(a b a' b':Nat)(hu:P.underlying t=some (.slice e))(w:World):(Op.equalIn (d+1) t (.slice none a b) (.slice p a' b')).run P w= .ok p.isNone w:=by
 cases p<;>simp[Op.equalIn,run_underlying hu]
theorem Vb {t e:TypeId}(d:Nat)(p:Option Addr)(a b a' b':Nat)(hu:P.underlying t=some (.slice e))(w:World):(Op.equalIn (d+1) t (.slice p a b) (.slice none a' b')).run P w= .ok p.isNone w:=by
 cases p<;>simp[Op.equalIn,run_underlying hu]
theorem U9 {t k e:TypeId}(d:Nat)(p:Option Nat)(hu:P.underlying t=some (.map k e))(w:World):(Op.equalIn (d+1) t (.map p) (.map none)).run P w= .ok p.isNone w:=by
 cases p<;>simp[Op.equalIn,run_underlying hu]
theorem aFe {t:TypeId}{ps rs:Array TypeId}{v:Bool}(d:Nat)(hu:P.underlying t=some (.func ps rs v))(w:World):(Op.equalIn (d+1) t .nilFunc .nilFunc).run P w= .ok true w:=by
 simp[Op.equalIn,run_underlying hu]
theorem aFf {t:TypeId}{ps rs:Array TypeId}{v:Bool}(d:Nat)(f:Fn)(x y:Array Value)(hu:P.underlying t=some (.func ps rs v))(w:World):(Op.equalIn (d+1) t (.func f x y) .nilFunc).run P w= .ok false w:=by
 simp[Op.equalIn,run_underlying hu]
theorem J6 {t:TypeId}{p:Option Addr}(h:gV P t (.pointer p)=true): ∃e,P.underlying t=some (.pointer e):=by
 unfold gV at h;split at h<;>simp_all
theorem J7 {t:TypeId}{p:Option Addr}{a b:Nat}(h:gV P t (.slice p a b)=true): ∃e,P.underlying t=some (.slice e):=by
 unfold gV at h;split at h<;>simp_all
theorem Vd {t:TypeId}{p:Option Nat}(h:gV P t (.map p)=true): ∃k e,P.underlying t=some (.map k e):=by
 unfold gV at h;split at h<;>simp_all
theorem Vc {t:TypeId}(h:gV P t .nilFunc=true): ∃ps rs v,P.underlying t=some (.func ps rs v):=by
 unfold gV at h;split at h<;>simp_all
def EqRuns (P:Program)(t:TypeId)(x' y':Value)(b:Bool)(w:World):Prop:=
 (∀(op:BinOp)(a c:Operand),(eqGuard op t a c x' y').run P w= .ok () w)/\(binOp .eql t x' y').run P w= .ok (.bool b) w/\(binOp .neq t x' y').run P w= .ok (.bool !b) w
theorem EqRuns.oS {t:TypeId}{x' y':Value}{b:Bool}{w:World}(h:(Op.equalIn (9999+1) t x' y').run P w= .ok b w)(hg: ∀(op:BinOp)(a c:Operand),(eqGuard op t a c x' y').run P w= .ok () w)
  (he: ∀w,(binOp .eql t x' y').run P w=(do pure (.bool (<-Op.equal t x' y')):Sem Value).run P w)(hn: ∀w,(binOp .neq t x' y').run P w=(do pure (.bool (!(<-Op.equal t x' y'))):Sem Value).run P w):EqRuns P t x' y' b w:=by
 have h':(Op.equal t x' y').run P w= .ok b w:=h;refine⟨hg,?_,?_⟩
 ·rw[he];simp[h']
 ·rw[hn];simp[h']
theorem U8 {t:TypeId}{x x' y y':Value}{b:Bool}(hx:Vr ρ x x')(hy:Vr ρ y y')(h:jZ P t x y=some b)(w:World):EqRuns P t x' y' b w:=by
 unfold jZ at h
 split at h
 ·rename_i xs ys
  split at h
  ·rename_i ks hk
   obtain⟨f1,f2⟩:=J5 h;have e1:x'= .agg xs:=by
    cases hx with
    |same hl=>rfl
    | @agg _ x2 hl h1=>have:xs.toList=x2.toList:=(Vrs.Dz ⟨hl,h1⟩ f1).symm;rw[Array.ext' this]
   have e2:y'= .agg ys:=by
    cases hy with
    |same hl=>rfl
    | @agg _ x2 hl h1=>have:ys.toList=x2.toList:=(Vrs.Dz ⟨hl,h1⟩ f2).symm;rw[Array.ext' this]
   subst e1;subst e2;refine .oS (Ve 9998 hk h w) (λop a c=>run_eqGuard_agg w op t a c xs ys (D0 hk).2.2.1) (λw=> ?_) (λw=> ?_)
   ·rfl
   ·rfl
  ·cases h
 ·split at h
  ·rename_i hc
   simp only[aUl] at hc;obtain⟨hn1,hn2⟩:=hc;have gd: ∀(p q:Value),(∀xs,p≠ .agg xs)->p≠ .nilIface-> ∀(op:BinOp)(a c:Operand),(eqGuard op t a c p q).run P w= .ok () w:=by
    intro p q h1 h2 op a c;cases op<;>(try (rfl))<;>(cases p<;>first|rfl|(exact absurd rfl h2)|(exact absurd rfl (h1 _)))
   unfold eqV at h
   split at h
   ·injection h with h;subst h
    obtain⟨e,hu⟩:=J6 hn1;cases hx;cases hy
    exact .oS (Va 9999 none hu w) (gd _ _ (by simp) (by simp)) (λ_=>rfl) (λ_=>rfl)
   ·injection h with h;subst h
    obtain⟨e,hu⟩:=J6 hn1;cases hx;cases hy with
    |same hl=>simp[dI] at hl
    |ptr _=>exact .oS (Va 9999 (some _) hu w) (gd _ _ (by simp) (by simp)) (λ_=>rfl) (λ_=>rfl)
   ·injection h with h;subst h
    obtain⟨e,hu⟩:=J6 hn1;cases hy;cases hx with
    |same hl=>simp[dI] at hl
    |ptr _=>exact .oS (aFg 9999 (some _) hu w) (gd _ _ (by simp) (by simp)) (λ_=>rfl) (λ_=>rfl)
   ·injection h with h;subst h
    obtain⟨e,hu⟩:=J7 hn1;cases hx;cases hy
    exact .oS (J4 9999 none 0 0 0 0 hu w) (gd _ _ (by simp) (by simp)) (λ_=>rfl) (λ_=>rfl)
   ·injection h with h;subst h
    obtain⟨e,hu⟩:=J7 hn1;cases hy;cases hx with
    |same hl=>simp[dI] at hl
    |slice=>exact .oS (Vb 9999 (some _) _ _ 0 0 hu w) (gd _ _ (by simp) (by simp)) (λ_=>rfl) (λ_=>rfl)
    |slice0=>exact .oS (Vb 9999 (some _) _ _ 0 0 hu w) (gd _ _ (by simp) (by simp)) (λ_=>rfl) (λ_=>rfl)
   ·injection h with h;subst h
    obtain⟨e,hu⟩:=J7 hn1;cases hx;cases hy with
    |same hl=>simp[dI] at hl
    |slice=>exact .oS (J4 9999 (some _) 0 0 _ _ hu w) (gd _ _ (by simp) (by simp)) (λ_=>rfl) (λ_=>rfl)
    |slice0=>exact .oS (J4 9999 (some _) 0 0 _ _ hu w) (gd _ _ (by simp) (by simp)) (λ_=>rfl) (λ_=>rfl)
   ·injection h with h;subst h
    obtain⟨k,e,hu⟩:=Vd hn1;cases hx;cases hy
    exact .oS (U9 9999 none hu w) (gd _ _ (by simp) (by simp)) (λ_=>rfl) (λ_=>rfl)
   ·injection h with h;subst h
    obtain⟨k,e,hu⟩:=Vd hn1;cases hy;cases hx with
    |same hl=>simp[dI] at hl
    |map _=>exact .oS (U9 9999 (some _) hu w) (gd _ _ (by simp) (by simp)) (λ_=>rfl) (λ_=>rfl)
   ·injection h with h;subst h
    obtain⟨ps,rs,v,hu⟩:=Vc hn1;cases hx;cases hy
    exact .oS (aFe 9999 hu w) (gd _ _ (by simp) (by simp)) (λ_=>rfl) (λ_=>rfl)
   ·injection h with h;subst h
    obtain⟨ps,rs,v,hu⟩:=Vc hn2;cases hy;cases hx with
    |same hl=>simp[dI] at hl
    |func=>exact .oS (aFf 9999 _ _ _ hu w) (gd _ _ (by simp) (by simp)) (λ_=>rfl) (λ_=>rfl)
   ·cases h
  ·cases h
theorem pN {s:Sem Value}{r:Value}(h:eN P s=some r)(w:World):s.run P w= .ok r w/\cL r=true:=by
 unfold eN at h
 split at h
 ·rename_i r' hp
  split at h
  ·rename_i hf
   injection h with h;subst h
   exact⟨aE1 _ _ hp w,hf⟩
  ·cases h
 ·cases h
theorem aFd {op:BinOp}{t:TypeId}{x x' y y' r:Value}(hx:Vr ρ x x')(hy:Vr ρ y y')(h:bin P op t x y=some r)(a c:Operand)(w:World):
  (do eqGuard op t a c x' y';binOp op t x' y':Sem Value).run P w= .ok r w/\cL r=true:=by
 unfold bin at h
 split at h
 ·rename_i hf
  simp only[aUl] at hf;rw[hx.gW hf.1,hy.gW hf.2];have hg:(eqGuard op t a c x y).run P w= .ok () w:=by
   cases x<;>simp[cL] at hf<;>cases y<;>simp[cL] at hf<;>cases op<;>rfl
  exact⟨by simp only[Sem.run_bind,hg,aUB];exact(pN h w).1,(pN h w).2⟩
 ·split at h
  ·cases he:jZ P t x y with
   |none=>simp[he] at h
   |some b=>
    simp[he] at h;subst h;obtain⟨h1,h2,h3⟩:=U8 hx hy he w
    exact⟨by simp only[Sem.run_bind,h1,aUB,h2],rfl⟩
  ·cases he:jZ P t x y with
   |none=>simp[he] at h
   |some b=>
    simp[he] at h;subst h;obtain⟨h1,h2,h3⟩:=U8 hx hy he w
    exact⟨by simp only[Sem.run_bind,h1,aUB,h3],rfl⟩
  ·cases h
end
section
variable {P : Program} {ρ : Ren} {H H' : aF} {w : World}
def wA (P:Program)(fn:Fn)(args:Array Value)(w:World)(R:Value->World->Prop):Prop:=
 match fn with
 | .func g=>(callFunc g args).run P w= .ok (.enter g args) w/\Calls P g args w λe w'=> ∃v,e= .returned v/\R v w'
 |_=>False
def uL (P:Program)(O:aH):Prop:=
 ∀fn args H v H',O fn args H=some (v,H')-> ∀ρ w args',Rel P ρ (cF H) w->Vrs ρ args args'->(∀b,H.length<=b->b<H'.length->ρ b=none)->
  wA P fn args'.toArray w (Post P ρ H w v H')
def OpGood (P:Program)(o:Oper)(a:Act)(w:World)(R:Value->World->Prop):Prop:=
 (∃v w',(execOp a.eval o).run P w= .ok (.value v) w'/\R v w')∨
 (∃w',(execOp a.eval o).run P w= .ok .skip w'/\R undef w')∨
 (∃f args,(execOp a.eval o).run P w= .ok (.enter f args) w/\Calls P f args w λe w'=> ∃v,e= .returned v/\R v w')
theorem OpGood.aFk {o:Oper}{a:Act}{R:Value->World->Prop}(h:OpGood P o a w R){next:Act->World->Prop}{Q:Exit->Act->World->Prop}
  (hn: ∀v w',R v w'->next (a.put o.dst v) w'):o.wp P a w next Q:=by
 unfold Oper.wp;rcases h with⟨v,w',h,hr⟩|⟨w',h,hr⟩|⟨f,args,h,hr⟩
 ·rw[h];exact hn _ _ hr
 ·rw[h];exact hn _ _ hr
 ·rw[h]
  exact hr.mono λe w' ⟨v,he,hv⟩=>by subst he;exact hn _ _ hv
def yW (ρ:Ren)(t:cY)(a:Act)(xs:List Operand):Prop:= ∀x∈xs,∀v,opv t x=some v->Vr ρ v (a.eval x)
theorem j8 {x:Option Value}{r:Value}(h:aP x H=some (r,H')):x=some r/\H'=H:=by
 cases x with
 |none=>cases h
 |some v=>simp only[aP,aX] at h;injection h with h;injection h with h1 h2;exact⟨by rw[h1],h2.symm⟩
theorem D6 {t:cY}{a:Act}: ∀{xs:List Operand}{vs:List Value},yW ρ t a xs->vU t xs=some vs->Vrs ρ vs (xs.map a.eval)
 |[],vs,_,h=>by simp[vU] at h;subst h;exact .j6 ρ
 |x::xs,vs,ho,h=>by
  simp only[vU] at h
  split at h
  ·rename_i v vs' h1 h2
   injection h with h;subst h;exact .kV (ho x (by simp) v h1) (D6 (λy hy=>ho y (by simp[hy])) h2)
  ·cases h
theorem Kb {t:cY}{a:Act}: ∀{xs:List (Nat×Operand)}{vs:List (Nat×Value)},yW ρ t a (xs.map (·.2))->yR t xs=some vs->A8 ρ vs (xs.map λ(i,x)=>(i,a.eval x))
 |[],vs,_,h=>by simp[yR] at h;subst h;exact⟨rfl,.j6 ρ⟩
 |(i,x)::xs,vs,ho,h=>by
  simp only[yR] at h
  split at h
  ·rename_i v vs' h1 h2
   injection h with h;subst h;have ih:=Kb (λy hy=>ho y (by simp at hy ⊢; exact .inr hy)) h2
   exact⟨by simp[ih.1],by simpa using Vrs.kV (ho x (by simp) v h1) ih.2⟩
  ·cases h
theorem Ka {t:cY}{a:Act}{x:Option Operand}{v:Option Value}(ho:yW ρ t a x.toList)(h:yQ t x=some v):Vro ρ v (x.map a.eval):=by
 cases x with
 |none=>simp[yQ] at h;subst h;trivial
 |some x=>
  simp only[yQ] at h;cases hv:opv t x with
  |none=>simp[hv] at h
  |some u=>simp[hv] at h;subst h;exact ho x (by simp) u hv
theorem wB {e:TypeId}{z:Value}(h:pH P e=some z):nT P e=some z/\z.cells.toList.all dI=true:=by
 unfold pH at h
 split at h
 ·split at h
  ·injection h with h;subst h;rename_i h1 h2;exact⟨h1,h2⟩
  ·cases h
 ·cases h
theorem Vr.D5 {z:Value}(h:z.cells.toList.all dI=true):Vr ρ z z:=by
 cases z with
 |agg cs=>exact .mL h
 |_=>exact .same (by simpa[Value.cells] using h)
theorem uM {o:Oper}{a:Act}{s:Sem Value}{R:Value->World->Prop}(he:execOp a.eval o=(do pure (.value (<-s)):Sem Next))(h:pM P s w R):OpGood P o a w R:=by
 obtain⟨v,w',h1,h2⟩:=h;exact .inl ⟨v,w',by rw[he];simp[h1],h2⟩
theorem J9 {o:Oper}{a:Act}{s:Sem Unit}{R:Value->World->Prop}(he:execOp a.eval o=(do s;pure .skip:Sem Next)){w':World}(h:s.run P w= .ok () w')(hr:R undef w'):OpGood P o a w R:=
 .inr (.inl ⟨w',by rw[he];simp[h],hr⟩)
theorem mN {o:Oper}{a:Act}{s:Sem Value}(hr:Rel P ρ (cF H) w)(he:execOp a.eval o=(do pure (.value (<-s)):Sem Next)){v v':Value}(h:s.run P w= .ok v' w)(hv:Vr ρ v v'):OpGood P o a w (Post P ρ H w v H):=
 uM he ⟨v',w,h,Post.j7 hr hv⟩
theorem aFr {v v' r:Value}(hv:Vr ρ v v')(h:nC v=some r):Vr ρ r v'/\((∃a,v'= .pointer (some a))∨ ∃f x y,v'= .func (.func f) x y):=by
 unfold nC at h
 split at h
 ·rename_i a
  injection h with h;subst h;refine⟨hv,.inl ?_⟩;cases hv with
  |same hl=>simp[dI] at hl
  |ptr _=>exact⟨_,rfl⟩
 ·rename_i f x y
  injection h with h;subst h;refine⟨hv,.inr ?_⟩;cases hv with
  |same hl=>simp[dI] at hl
  |func=>exact⟨_,_,_,rfl⟩
 ·cases hv with
  |same hl=>simp[dI] at hl
 ·cases h
theorem aFn {off:Nat}{v v' r:Value}(hv:Vr ρ v v')(h:mJ off v=some r): ∃c o,v'=adr c o/\Vr ρ r (adr c (o+off)):=by
 unfold mJ at h
 split at h
 ·rename_i b o
  injection h with h;subst h;obtain⟨pl,hpl,rfl⟩:=hv.yT;refine⟨_,_,rfl,?_⟩;have:=Vr.ptr (ρ:=ρ) (o:=o+off) hpl;simpa[Nat.add_assoc] using this
 ·cases h
theorem aFo {sz:Nat}{v v' i i' r:Value}(hv:Vr ρ v v')(hi:Vr ρ i i')(h:cN sz v i=some r):
  ∃c o n cap k j,v'= .slice (some ⟨c,o,none⟩) n cap/\i'= .int k j/\0<=j/\j<(n:Int)/\Vr ρ r (adr c (o+j.toNat*sz)):=by
 unfold cN at h
 split at h
 ·rename_i b o n cap k j
  split at h
  ·rename_i hc
   injection h with h;subst h;have e:=hi.gW rfl;subst e;cases hv with
   |same hl=>simp[dI] at hl
   | @slice _ _ _ _ cap' pl hpl _ _ _=>
    refine⟨pl.c,pl.base+o,n,cap',k,j,rfl,rfl,hc.1,hc.2,?_⟩;have:=Vr.ptr (ρ:=ρ) (o:=o+j.toNat*sz) hpl;simpa[Nat.add_assoc] using this
   |slice0=>omega
  ·cases h
 ·cases h
theorem aFl {len sz:Nat}{v v' i i' r:Value}(hv:Vr ρ v v')(hi:Vr ρ i i')(h:pD len sz v i=some r):
  ∃c o k j,v'=adr c o/\i'= .int k j/\0<=j/\j<(len:Int)/\Vr ρ r (adr c (o+j.toNat*sz)):=by
 unfold pD at h
 split at h
 ·rename_i b o k j
  split at h
  ·rename_i hc
   injection h with h;subst h;have e:=hi.gW rfl;subst e;obtain⟨pl,hpl,rfl⟩:=hv.yT;refine⟨_,_,k,j,rfl,rfl,hc.1,hc.2,?_⟩;have:=Vr.ptr (ρ:=ρ) (o:=o+j.toNat*sz) hpl;simpa[Nat.add_assoc] using this
  ·cases h
 ·cases h
theorem aFs {t:TypeId}{g:Bool}{off sz by':Nat}(hg:lI P t=some g)(hs:eW P t=some (sz,by')){v v' r:Value}(hv:Vr ρ v v')(h:(if g=true then Jo off sz v else pF off v)=some r)(w:World):
  ∃cs r',v'= .agg cs/\(part t cs off).run P w= .ok r' w/\Vr ρ r r':=by
 have hagg: ∀{x:Array Value},v= .agg x-> ∃cs,v'= .agg cs/\Vrs ρ x.toList cs.toList:=by
  rintro x rfl
  cases hv with
  |same hl=>simp[dI] at hl
  | @agg _ x' hl h1=>exact⟨x',rfl,hl,h1⟩
 cases g with
 |true=>
  simp only[if_true,Jo] at h
  split at h
  ·rename_i x
   injection h with h;subst h;obtain⟨cs,rfl,hcs⟩:=hagg rfl;refine⟨cs,.agg (cs.extract off (off+sz)),rfl,by simp[part,yU hg,nE hs],?_⟩
   have hd:=(hcs.aEW off).aEY sz;have e:(cs.extract off (off+sz)).toList=(cs.toList.drop off).take sz:=by simp[List.extract]
   exact .agg (by rw[e];simpa using hd.1) (by rw[e];simpa using hd.2)
  ·cases h
 |false=>
  simp only[Bool.false_eq_true,if_false,pF] at h
  split at h
  ·rename_i x
   obtain⟨cs,rfl,hcs⟩:=hagg rfl;obtain⟨r',h1,h2⟩:=hcs.vV h;rw[Array.getElem?_toList] at h1
   exact⟨cs,r',rfl,by simp[part,yU hg,h1],h2⟩
  ·cases h
theorem Vf {mx:Bool}{vs vs':List Value}{r:Value}(hv:Vrs ρ vs vs')(h:gJ P mx vs=some r)(w:World):
  vs'=vs/\cL r=true/\(if mx=true then Builtin.max_ #[] 0 vs.toArray else Builtin.min_ #[] 0 vs.toArray).run P w= .ok r w:=by
 unfold gJ at h
 split at h
 ·rename_i hf
  refine⟨Vrs.Dz hv (by simpa using hf),?_⟩
  cases mx with
  |true=>simp only[if_true] at h ⊢; exact⟨(pN h w).2,(pN h w).1⟩
  |false=>simp only[Bool.false_eq_true,if_false] at h ⊢; exact⟨(pN h w).2,(pN h w).1⟩
 ·cases h
theorem aFm {t:TypeId}{ps ps':List (Nat×Value)}{cs:Array Value}{z:Value}(hz:pH P t=some z)(hp:A8 ρ ps ps')(h:P.built t ps=some cs):
  ∃cs',P.built t ps'=some cs'/\Vrs ρ cs.toList cs'.toList:=by
 obtain⟨hz1,hz2⟩:=wB hz;have hzz:Vrs ρ z.cells.toList z.cells.toList:=(Vr.D5 hz2).A4;unfold nT at hz1;unfold Program.built at h⊢;cases hi:P.info? t with
 |none=>simp[hi] at hz1
 |some it=>
  simp[hi] at hz1;cases hu:P.underlying t with
  |none=>simp[hi,hu] at h
  |some d=>
   cases d<;>simp only[hi,hu,hz1] at h⊢ <;>(try (cases h;done))
   case array n e=>
    cases he:P.info? e with
    |none=>simp[he] at h
    |some ie=>simp only[he] at h ⊢; exact Dw _ _ _ _ _ _ hp hzz h
   case struct fs=>
    cases hf:fs.toList.mapM (λf=>(P.info? f.type).map λi=>(f.offset,i.size)) with
    |none=>simp[hf] at h
    |some pl=>simp only[hf] at h ⊢; exact Dw _ _ _ _ _ _ hp hzz h
theorem aFp {v v' r:Value}(hv:Vr ρ v v'){ts:Array TypeId}{t ty e:TypeId}(hts:ts[0]? =some t)(hu:P.underlying t=some (.slice e))(h:cX v=some r)(w:World):
  (Builtin.len_ ts ty #[v']).run P w= .ok r w/\cL r=true:=by
 unfold cX at h
 split at h
 ·injection h with h;subst h
  cases hv
  exact⟨by simp[Builtin.len_,hts,run_underlying hu];rfl,rfl⟩
 ·injection h with h;subst h
  cases hv with
  |same hl=>simp[dI] at hl
  |slice=>exact⟨by simp[Builtin.len_,hts,run_underlying hu];rfl,rfl⟩
  |slice0=>exact⟨by simp[Builtin.len_,hts,run_underlying hu];rfl,rfl⟩
 ·cases h
theorem aFq {v v' r:Value}(hv:Vr ρ v v'){ts:Array TypeId}{t ty:TypeId}(hts:ts[0]? =some t)(hu:P.underlying t=some .string)(h:Jn v=some r)(w:World):
  (Builtin.len_ ts ty #[v']).run P w= .ok r w/\cL r=true:=by
 unfold Jn at h
 split at h
 ·injection h with h;subst h
  cases hv
  exact⟨by simp[Builtin.len_,hts,run_underlying hu];rfl,rfl⟩
 ·cases h
end
section
variable {P : Program} {ρ : Ren} {H H' : aF} {w : World}
theorem Ke: ∀{ks:List Bool}{xs ys:List Value},eqT ks xs ys=some true->ys=xs
 |ks,xs,ys,h=>by
  unfold eqT at h
  split at h
  ·rfl
  ·rename_i ks' k a xs' k' b ys'
   split at h
   ·rename_i hk
    subst hk;cases hr:eqT ks' xs' ys' with
    |none=>simp[hr] at h
    |some r=>
     simp[hr] at h;obtain⟨h1,h2⟩:=h;subst h1 h2;rw[Ke hr]
   ·cases h
  ·rename_i ks' a xs' b ys'
   cases hr:eqT ks' xs' ys' with
   |none=>simp[hr] at h
   |some r=>
    simp[hr] at h;obtain⟨h1,h2⟩:=h;subst h1 h2;rw[Ke hr]
  ·cases h
def KeyV:Value->Prop
 | .int _ _=>True
 | .agg xs=> ∀x∈xs.toList,∃k n b,x= .int k n∨x= .bool b
 |_=>False
theorem Kd: ∀{ks:List Bool}{xs ys:List Value}{b:Bool},eqT ks xs ys=some b->(∀x∈xs,∃k n b,x= .int k n∨x= .bool b)/\(∀x∈ys,∃k n b,x= .int k n∨x= .bool b)
 |ks,xs,ys,b,h=>by
  unfold eqT at h
  split at h
  ·simp
  ·rename_i ks' k a xs' k' b' ys'
   split at h
   ·cases hr:eqT ks' xs' ys' with
    |none=>simp[hr] at h
    |some r=>
     obtain⟨h1,h2⟩:=Kd hr;refine⟨λx hx=> ?_,λx hx=> ?_⟩
     ·rcases aUw.mp hx with rfl|hx
      ·exact⟨k,a,false,.inl rfl⟩
      ·exact h1 x hx
     ·rcases aUw.mp hx with rfl|hx
      ·exact⟨k',b',false,.inl rfl⟩
      ·exact h2 x hx
   ·cases h
  ·rename_i ks' a xs' b' ys'
   cases hr:eqT ks' xs' ys' with
   |none=>simp[hr] at h
   |some r=>
    obtain⟨h1,h2⟩:=Kd hr;refine⟨λx hx=> ?_,λx hx=> ?_⟩
    ·rcases aUw.mp hx with rfl|hx
     ·exact⟨.i64,0,a,.inr rfl⟩
     ·exact h1 x hx
    ·rcases aUw.mp hx with rfl|hx
     ·exact⟨.i64,0,b',.inr rfl⟩
     ·exact h2 x hx
  ·cases h
theorem Kf {k v:Value}{b:Bool}(h:fT .num k v=some b): ∃kk a c,k= .int kk a/\v= .int kk c/\b=(a==c):=by
 cases k<;>cases v<;>simp[fT] at h
 rename_i k1 a k2 c;obtain⟨rfl,rfl⟩:=h
 exact⟨_,_,_,rfl,rfl,rfl⟩
theorem Vi {ks:List Bool}{k v:Value}{b:Bool}(h:fT (.str ks) k v=some b): ∃xs ys,k= .agg xs/\v= .agg ys/\eqT ks xs.toList ys.toList=some b:=by
 cases k<;>cases v<;>simp[fT] at h
 exact⟨_,_,rfl,rfl,h⟩
theorem iV {kt:KeyT}{k v:Value}{b:Bool}(h:fT kt k v=some b):KeyV k/\KeyV v:=by
 unfold fT at h
 split at h
 ·exact⟨trivial,trivial⟩
 ·exact Kd h
 ·cases h
theorem KeyV.fix {k k':Value}(h:KeyV k)(hv:Vr ρ k k'):k'=k:=by
 cases hv with
 |same _=>rfl
 |agg hx h1=>
  rename_i x x';have:=Vrs.Dz (ρ:=ρ) ⟨hx,h1⟩ (λy hy=>by
   obtain⟨k,n,b,rfl|rfl⟩:=h y hy<;>rfl)
  rw[Array.ext' this]
 |ptr _=>exact h.elim
 |slice _ _ _ _=>exact h.elim
 |slice0 _=>exact h.elim
 |map _=>exact h.elim
 |func _ _ _ _=>exact h.elim
 |tuple _ _=>exact h.elim
theorem KeyV.D7 {k k':Value}(h:KeyV k)(hv:Vr ρ k' k):Vr ρ k' k:=hv
theorem Kg {kt:KeyT}{k v:Value}(h:fT kt k v=some true):v=k:=by
 unfold fT at h
 split at h
 ·split at h
  ·rename_i hk
   subst hk;simp at h;rw[h]
  ·cases h
 ·rename_i xs ys
  have:=Ke h;rw[Array.ext' this]
 ·cases h
theorem aFt {k:Value}(h:KeyV k)(n:Nat):Instr.sameBits (n+1) k k=true:=by
 cases k with
 |int k a=>simp[Instr.sameBits]
 |agg xs=>
  simp only[Instr.sameBits,beq_self_eq_true,aUA];rw[aUS];intro p hp;obtain⟨i,hi⟩:=List.getElem?_of_mem hp;rw[List.getElem?_zip_eq_some] at hi;have e:p.1=p.2:=by
   have:=hi.1.symm.trans hi.2;simpa using this
  obtain⟨k,m,b,hx⟩:=h p.1 (aUn hi.1);obtain⟨p1,p2⟩:=p;simp only at e hx;subst e;rcases hx with rfl|rfl<;>simp[Instr.sameBits]
 |_=>exact h.elim
theorem Vk {k:Value}(h:KeyV k):(Instr.keyThatStays k k).run P w= .ok k w:=by
 simp[Instr.keyThatStays,aFt h]
theorem Vj {t:TypeId}{kt:KeyT}(h:pE P t=some kt):(∃k,P.underlying t=some (.int k)/\kt= .num)∨ ∃ks,rM P t=some ks/\kt= .str ks:=by
 unfold pE at h
 split at h
 ·rename_i k hu
  cases h;exact .inl ⟨k,hu,rfl⟩
 ·obtain⟨ks,h1,rfl⟩:=aUJ.mp h
  exact .inr ⟨ks,h1,rfl⟩
 ·cases h
theorem tH {t:TypeId}{kt:KeyT}(ht:pE P t=some kt){k:Value}(hk:fT kt k k=some true)(em:Bool):(Instr.checkKey em 10000 t k).run P w= .ok () w:=by
 rcases Vj ht with⟨kk,hu,rfl⟩|⟨ks,hks,rfl⟩
 ·obtain⟨k1,a,c,rfl,_,_⟩:=Kf hk
  rw[show(10000:Nat)=9999+1 from rfl,Instr.checkKey]
  simp only[Sem.run_bind,run_underlying hu,aUB];simp
 ·obtain⟨h1,h2,h3,h4⟩:=D0 hks
  obtain⟨xs,ys,rfl,e,hk⟩:=Vi hk;cases e;have hk':=hk;by_cases hdummy:True
  ·skip
   rw[show(10000:Nat)=9999+1 from rfl,Instr.checkKey]
   simp only[Sem.run_bind,run_underlying h1,aUB];rw[<-Array.forIn_toList];have gen: ∀(L:List Field)(i:Nat)(ks:List Bool),qN P i L=some ks->eqT ks (xs.toList.drop i) (xs.toList.drop i)=some true->
     (forIn (m:=Sem) L PUnit.unit λf _=>if f.name≠ "_" then(do
       let a<-part f.type xs f.offset
       Instr.checkKey em 9999 f.type a
       pure (ForInStep.yield PUnit.unit)) else pure (ForInStep.yield PUnit.unit)).run P w= .ok PUnit.unit w:=by
    intro L;induction L with
    |nil=>intro i ks _ _;simp
    |cons f L ih=>
     intro i ks hf he;simp only[qN] at hf
     split at hf
     ·rename_i hc
      obtain⟨hoff,hname⟩:=hc;have hat: ∀(z:Value)(zr:List Value),lI P f.type=some false->xs.toList.drop i=z::zr->(part f.type xs f.offset).run P w= .ok z w:=by
       intro z zr hagg hz;have:xs.toList[i]? =some z:=by
        have:=congrArg (λl:List Value=>l[0]?) hz
        simpa using this
       rw[Array.getElem?_toList] at this;simp[part,yU hagg,hoff,this]
      have tl: ∀(z:Value)(zr:List Value),xs.toList.drop i=z::zr->xs.toList.drop (i+1)=zr:=by
       intro z zr hz;have:=congrArg List.tail hz;simpa using this
      split at hf
      ·rename_i kk hu
       have hagg:lI P f.type=some false:=by simp[lI,hu]
       obtain⟨ks',hks',rfl⟩:=aUJ.mp hf;unfold eqT at he
       split at he
       ·rename_i e1 _ _;cases e1
       ·rename_i k1 ks1 kx a xs' ky b ys' e1 e2 e3
        cases e1;rw[e2] at e3;cases e3;have hr:eqT ks' xs' xs'=some true:=by
         simp at he;exact he
        simp only[List.forIn_cons,Sem.run_bind,hname,ne_eq,not_false_eq_true,if_true,hat _ _ hagg e2,aUB,Sem.run_pure];rw[show(9999:Nat)=9998+1 from rfl,Instr.checkKey]
        simp only[Sem.run_bind,run_underlying hu,aUB,Sem.run_pure];exact ih (i+1) ks' hks' (by rw[tl _ _ e2];exact hr)
       ·rename_i e1 _ _;cases e1
       ·cases he
      ·rename_i hu
       have hagg:lI P f.type=some false:=by simp[lI,hu]
       obtain⟨ks',hks',rfl⟩:=aUJ.mp hf;unfold eqT at he
       split at he
       ·rename_i e1 _ _;cases e1
       ·rename_i e1 _ _;cases e1
       ·rename_i k1 ks1 a xs' b ys' e1 e2 e3
        cases e1;rw[e2] at e3;cases e3;have hr:eqT ks' xs' xs'=some true:=by
         simp at he;exact he
        simp only[List.forIn_cons,Sem.run_bind,hname,ne_eq,not_false_eq_true,if_true,hat _ _ hagg e2,aUB,Sem.run_pure];rw[show(9999:Nat)=9998+1 from rfl,Instr.checkKey]
        simp only[Sem.run_bind,run_underlying hu,aUB,Sem.run_pure];exact ih (i+1) ks' hks' (by rw[tl _ _ e2];exact hr)
       ·cases he
      ·cases hf
     ·cases hf
   have:=gen _ 0 ks h4 (by simpa using hk)
   rw[this];rfl
  ·exact absurd trivial hdummy
def Kc (ρ:Ren)(es:List Ent)(ms:List MapEntry)(x:Option (Nat×Ent))(x':Option (Nat×Value)):Prop:=
 match x with
 |none=>x'=none
 |some (i,e)=> ∃m,es[i]? =some e/\ms[i]? =some m/\EntR ρ e m/\x'=some (i,m.val)
theorem Vh {kk:IntKind}{k:Value}: ∀(es:List Ent)(ms:List MapEntry)(pre:List Ent)(pms:List MapEntry)(x:Option (Nat×Ent)),pre.length=pms.length->EntsR ρ es ms->KeyV k->jD .num k es pre.length=some x->
  ∃x',Instr.findNow (.int kk) k ms pre.length=some x'/\Kc ρ (pre++es) (pms++ms) x x'
 |[],ms,pre,pms,x,hl,he,hk,h=>by
  have:ms=[]:=aUv.mp he.1.symm;subst this;simp only[jD] at h;cases h
  exact⟨none,rfl,rfl⟩
 |e::es,[],pre,pms,x,hl,he,hk,h=>by have:=he.1;simp at this
 |e::es,m::ms,pre,pms,x,hl,he,hk,h=>by
  have hem:=he.2 0 e m rfl rfl;simp only[jD] at h
  split at h
  ·cases h
  ·rename_i hq
   cases h;have hkey:=Kg hq;have hm:m.key=k:=by rw[<-hkey];exact(iV hq).2.fix hem.1
   refine⟨some (pre.length,m.val),?_,m,by simp,by simp[hl],hem,rfl⟩
   obtain⟨k1,a,c,rfl,_,_⟩:=Kf hq;simp[Instr.findNow,hm,Instr.sameNow]
  ·rename_i hq
   have hm:m.key=e.key:=(iV hq).2.fix hem.1;obtain⟨x',h1,h2⟩:=Vh es ms (pre++[e]) (pms++[m]) x (by simp[hl]) ⟨by have:=he.1;simpa using this,λi a b ha hb=>he.2 (i+1) a b (by simpa using ha) (by simpa using hb)⟩ hk (by simpa using h)
   refine⟨x',?_,by simpa using h2⟩
   obtain⟨k1,a,c,e1,e2,e3⟩:=Kf hq;subst e1;simp only[Instr.findNow,hm,e2,Instr.sameNow,if_true];rw[<-e3];simpa using h1
theorem Vg {t:TypeId}{ks:List Bool}(hks:rM P t=some ks){k:Value}: ∀(es:List Ent)(ms:List MapEntry)(pre:List Ent)(pms:List MapEntry)(x:Option (Nat×Ent)),pre.length=pms.length->EntsR ρ es ms->KeyV k->jD (.str ks) k es pre.length=some x->
  ∃x',(Instr.findAsking t k ms pre.length).run P w= .ok x' w/\Kc ρ (pre++es) (pms++ms) x x'
 |[],ms,pre,pms,x,hl,he,hk,h=>by
  have:ms=[]:=aUv.mp he.1.symm;subst this;simp only[jD] at h;cases h
  exact⟨none,rfl,rfl⟩
 |e::es,[],pre,pms,x,hl,he,hk,h=>by have:=he.1;simp at this
 |e::es,m::ms,pre,pms,x,hl,he,hk,h=>by
  have hem:=he.2 0 e m rfl rfl;have eqr: ∀b,fT (.str ks) k e.key=some b->(Op.equal t k m.key).run P w= .ok b w:=by
   intro b hq;have hm:m.key=e.key:=(iV hq).2.fix hem.1;rw[hm];obtain⟨xs,ys,e1,e2,e3⟩:=Vi hq;rw[e1,e2];exact Ve 9998 hks e3 w
  simp only[jD] at h
  split at h
  ·cases h
  ·rename_i hq
   cases h;refine⟨some (pre.length,m.val),?_,m,by simp,by simp[hl],hem,rfl⟩
   simp[Instr.findAsking,eqr true hq]
  ·rename_i hq
   obtain⟨x',h1,h2⟩:=Vg hks es ms (pre++[e]) (pms++[m]) x (by simp[hl]) ⟨by have:=he.1;simpa using this,λi a b ha hb=>he.2 (i+1) a b (by simpa using ha) (by simpa using hb)⟩ hk (by simpa using h)
   refine⟨x',?_,by simpa using h2⟩
   simp only[Instr.findAsking,Sem.run_bind,eqr false hq,aUB];simpa using h1
theorem wC {t:TypeId}{kt:KeyT}(ht:pE P t=some kt){k:Value}(hk:KeyV k){es:List Ent}{ms:List MapEntry}(he:EntsR ρ es ms){x:Option (Nat×Ent)}(h:jD kt k es 0=some x):
  ∃x',(Instr.findKey t k ms).run P w= .ok x' w/\Kc ρ es ms x x':=by
 rcases Vj ht with⟨kk,hu,rfl⟩|⟨ks,hks,rfl⟩
 ·obtain⟨x',h1,h2⟩:=Vh (kk:=kk) es ms [] [] x rfl he hk h
  exact⟨x',Go.MapKept.run_findKey hu (by simpa using h1),by simpa using h2⟩
 ·obtain⟨x',h1,h2⟩:=Vg (w:=w) hks es ms [] [] x rfl he hk h
  refine⟨x',?_,by simpa using h2⟩
  rw[run_findKey_eq w (by rw[(D0 hks).1]) k ms]
  simpa using h1
end
section
variable {P : Program} {ρ : Ren} {H H' : aF} {w : World}
theorem yX {t:TypeId}{p:TypeId×TypeId}(h:uH P t=some p):P.underlying t=some (.map p.1 p.2):=by
 unfold uH at h
 split at h
 ·rename_i k e hu
  cases h;exact hu
 ·cases h
theorem A9 {kt:KeyT}{k:Value}: ∀(es:List Ent)(j:Nat)(i:Nat)(e:Ent),jD kt k es j=some (some (i,e))->fT kt k e.key=some true
 |[],j,i,e,h=>by simp[jD] at h
 |x::es,j,i,e,h=>by
  simp only[jD] at h
  split at h
  ·cases h
  ·rename_i hq
   cases h;exact hq
  ·exact A9 es (j+1) i e h
theorem yY (hr:Rel P ρ (cF H) w){b:Nat}{pl:Pl}{es:List Ent}{c:Nat}(hpl:ρ b=some pl)(hb:H[b]? =some (.map es c)): ∃ms:List MapEntry,w.heap[pl.c]? =some (.map ⟨ms⟩ c)/\pl.base=0/\EntsR ρ es ms:=by
 obtain⟨ces,h1,h2,h3⟩:=hr.blk b pl _ hpl hb
 exact⟨ces.toList,by simpa using h1,h2,h3⟩
theorem yZ {b:Nat}{v':Value}(h:Vr ρ (.map (some b)) v'): ∃pl,ρ b=some pl/\v'= .map (some pl.c):=by
 cases h with
 |same hl=>simp[dI] at hl
 |map h=>exact⟨_,h,rfl⟩
theorem EntsR.Vl (ρ:Ren):EntsR ρ [] []:=⟨rfl,λi e m h=>by simp at h⟩
theorem wD (hr:Rel P ρ (cF H) w){b:Nat}{pl:Pl}{es es':List Ent}{ms ms':List MapEntry}{c c':Nat}(hpl:ρ b=some pl)(hb:H[b]? =some (.map es c))(hw:w.heap[pl.c]? =some (.map ⟨ms⟩ c))(h0:pl.base=0)(he:EntsR ρ es' ms'):
  Step P ρ H w ρ (H.set b (.map es' c')) (jI w pl.c (.map ⟨ms'⟩ c')):=by
 have hlt:=(aUC.1 hw).1;refine Step.Jv hr hpl (by rw[hb];rfl) (by simp[jI]) (λd hd _=>by rw[vY _ _ _ hlt,if_neg hd]) ?_ rfl rfl rfl
 rw[vY _ _ _ hlt,if_pos rfl]
 exact⟨⟨ms'⟩,rfl,h0,he⟩
theorem D8 {x x' y y':Value}(h1:Vr ρ x x')(h2:Vr ρ y y'):Vr ρ (.tuple #[x,y]) (.tuple #[x',y']):=
 let h:=Vrs.kV h1 (Vrs.kV h2 (Vrs.j6 ρ))
 .tuple h.1 h.2
theorem aFA (hr:Rel P ρ (cF H) w){ty kt' et:TypeId}{kt:KeyT}{z:Value}(hu:P.underlying ty=some (.map kt' et))(hkt:pE P kt'=some kt)(hz:pH P et=some z){ok:Bool}{m m' k k' r:Value}(hm:Vr ρ m m')(hk:Vr ρ k k')
  (h:jE kt z ok m k H=some (r,H')):H'=H/\ ∃r',(Instr.lookup ty m' k' ok).run P w= .ok r' w/\Vr ρ r r':=by
 obtain⟨hz1,hz2⟩:=wB hz;unfold jE at h
 split at h
 ·rename_i hkk
  have e:=(iV hkk).1.fix hk;subst e;have fin: ∀(es:List Ent)(ms:List MapEntry),EntsR ρ es ms->((∃r,m'= .map (some r)/\ ∃c,w.heap[r]? =some (.map ⟨ms⟩ c))∨(m'= .map none/\ms=[]))-> ∀x,jD kt k' es 0=some x->
    ∃r',(Instr.lookup ty m' k' ok).run P w= .ok r' w/\Vr ρ (match x with|none=>(if ok then .tuple #[z,.bool false] else z)|some (_,e)=>(if ok then .tuple #[e.val,.bool true] else e.val)) r':=by
   intro es ms he hms x hx;obtain⟨x',hx',hF⟩:=wC (w:=w) hkt (iV hkk).1 he hx;have hzz:Vr ρ z z:=Vr.D5 hz2;cases x with
   |none=>
    have:x'=none:=hF;subst this;refine⟨if ok then .tuple #[z,.bool false] else z,?_,?_⟩
    ·rcases hms with⟨r,rfl,c,hc⟩|⟨rfl,rfl⟩
     ·simp[Instr.lookup,run_underlying hu,Go.MapKept.run_getObj_map hc,tH hkt hkk,hx',yV hz1,Result.andThen]
     ·simp[Instr.lookup,run_underlying hu,tH hkt hkk,hx',yV hz1,Result.andThen]
    ·cases ok
     ·exact hzz
     ·exact D8 hzz (.same rfl)
   |some p=>
    obtain⟨i,e⟩:=p;obtain⟨mm,h1,h2,h3,rfl⟩:=hF;refine⟨if ok then .tuple #[mm.val,.bool true] else mm.val,?_,?_⟩
    ·rcases hms with⟨r,rfl,c,hc⟩|⟨rfl,rfl⟩
     ·simp[Instr.lookup,run_underlying hu,Go.MapKept.run_getObj_map hc,tH hkt hkk,hx',Result.andThen]
     ·simp at h2
    ·cases ok
     ·exact h3.2.1
     ·exact D8 h3.2.1 (.same rfl)
  split at h
  ·injection h with h;injection h with h1 h2;subst h1;subst h2
   have:m'= .map none:=by cases hm with|same _=>rfl
   obtain⟨r',g1,g2⟩:=fin [] [] (EntsR.Vl ρ) (.inr ⟨this,rfl⟩) none rfl
   exact⟨rfl,r',g1,g2⟩
  ·rename_i b
   obtain⟨pl,hpl,rfl⟩:=yZ hm
   split at h
   ·rename_i es c hb
    obtain⟨ms,h1,h2,h3⟩:=yY hr hpl hb
    split at h
    ·cases h
    ·rename_i hf
     injection h with h;injection h with g1 g2;subst g1;subst g2;obtain⟨r',q1,q2⟩:=fin es ms h3 (.inl ⟨_,rfl,c,h1⟩) none hf
     exact⟨rfl,r',q1,q2⟩
    ·rename_i i e hf
     injection h with h;injection h with g1 g2;subst g1;subst g2;obtain⟨r',q1,q2⟩:=fin es ms h3 (.inl ⟨_,rfl,c,h1⟩) (some (i,e)) hf
     exact⟨rfl,r',q1,q2⟩
   ·cases h
  ·cases h
 ·cases h
theorem Vm {es:List Ent}{ms:List MapEntry}(h:EntsR ρ es ms){e:Ent}{m:MapEntry}(he:EntR ρ e m):EntsR ρ (es++[e]) (ms++[m]):=by
 refine⟨by simp[h.1],λi a b ha hb=> ?_⟩
 by_cases hi:i<es.length
 ·rw[aUg hi] at ha
  rw[aUg (by rw[<-h.1];exact hi)] at hb
  exact h.2 i a b ha hb
 ·have hlen:i=es.length:=by
   have:=(aUd.1 ha).1;simp at this;omega
  subst hlen;rw[aUx (aUi _)] at ha;rw[h.1,aUx (aUi _)] at hb;simp at ha hb;subst ha hb;exact he
theorem Kh {es:List Ent}{ms:List MapEntry}(h:EntsR ρ es ms){i:Nat}{e:Ent}{m0:MapEntry}(hm0:ms[i]? =some m0){f:MapEntry->MapEntry}(he:EntR ρ e (f m0)):EntsR ρ (es.set i e) (ms.modify i f):=by
 have hi:i<ms.length:=(aUd.1 hm0).1;refine⟨by simp[h.1],λj a b ha hb=> ?_⟩
 rw[List.getElem?_modify] at hb;by_cases hij:i=j
 ·subst hij
  rw[aUj (by rw[h.1];exact hi)] at ha
  rw[hm0] at hb;simp at ha hb;subst ha hb;exact he
 ·rw[aUe hij] at ha
  simp[hij] at hb;exact h.2 j a b ha hb
theorem aFv {es:List Ent}{ms:List MapEntry}(h:EntsR ρ es ms)(i:Nat):EntsR ρ (es.eraseIdx i) (ms.eraseIdx i):=by
 refine⟨by rw[List.length_eraseIdx,List.length_eraseIdx,h.1],λj a b ha hb=> ?_⟩
 rw[List.getElem?_eraseIdx] at ha hb
 split at ha
 ·rename_i hj
  rw[if_pos hj] at hb;exact h.2 j a b ha hb
 ·rename_i hj
  rw[if_neg hj] at hb;exact h.2 (j+1) a b ha hb
theorem aFB (hr:Rel P ρ (cF H) w){ty kt' et:TypeId}{kt:KeyT}(hu:P.underlying ty=some (.map kt' et))(hkt:pE P kt'=some kt){m m' k k' v v' r:Value}(hm:Vr ρ m m')(hk:Vr ρ k k')(hv:Vr ρ v v')
  (h:kS kt m k v H=some (r,H')): ∃w',(Instr.mapUpdate ty m' k' v').run P w= .ok () w'/\r=undef/\Step P ρ H w ρ H' w':=by
 unfold kS at h
 split at h
 ·rename_i hkk
  have e:=(iV hkk).1.fix hk;subst e
  split at h
  ·rename_i b
   obtain⟨pl,hpl,rfl⟩:=yZ hm
   split at h
   ·rename_i es c hb
    obtain⟨ms,h1,h2,h3⟩:=yY hr hpl hb
    split at h
    ·cases h
    ·rename_i hf
     injection h with h;injection h with g1 g2;subst g1;subst g2;obtain⟨x',hx',hF⟩:=wC (w:=w) hkt (iV hkk).1 h3 hf;have:x'=none:=hF;subst this;refine⟨_,?_,rfl,wD hr hpl hb h1 h2 (Vm h3 (m:={key:=k',val:=v',born:=c}) ⟨(iV hkk).1.D7 hk,hv,rfl⟩)⟩;simp[Instr.mapUpdate,run_underlying hu,Go.MapKept.run_getObj_map h1,tH hkt hkk,hx',Go.MapKept.run_setObj_map _ h1,Result.andThen,jI]
    ·rename_i i e hf
     injection h with h;injection h with g1 g2;subst g1;subst g2;obtain⟨x',hx',mm,q1,q2,q3,rfl⟩:=wC (w:=w) hkt (iV hkk).1 h3 hf;have hke:=Kg (A9 _ _ _ _ hf);have hmk:mm.key=k':=by rw[(iV (A9 _ _ _ _ hf)).2.fix q3.1,hke]
     refine⟨_,?_,rfl,wD hr hpl hb h1 h2 (Kh h3 q2 (f:=λe=>{e with key:=k',val:=v'}) ⟨(iV hkk).1.D7 hk,hv,q3.2.2⟩)⟩
     simp[Instr.mapUpdate,run_underlying hu,Go.MapKept.run_getObj_map h1,tH hkt hkk,hx',Go.MapKept.run_setObj_map _ h1,Result.andThen,jI,q2,hmk,Vk (iV hkk).1]
   ·cases h
  ·cases h
 ·cases h
theorem aFz (hr:Rel P ρ (cF H) w){ty kt' et:TypeId}{kt:KeyT}{z:Value}(hu:P.underlying ty=some (.map kt' et))(hkt:pE P kt'=some kt)(hz:pH P et=some z){m m' k k' r:Value}(hm:Vr ρ m m')(hk:Vr ρ k k')
  (h:qO kt z m k H=some (r,H')): ∃r' w',(Instr.mapEntry ty m' k').run P w= .ok r' w'/\Vr ρ r r'/\Step P ρ H w ρ H' w':=by
 obtain⟨hz1,hz2⟩:=wB hz;unfold qO at h
 split at h
 ·rename_i hkk
  have e:=(iV hkk).1.fix hk;subst e
  split at h
  ·rename_i b
   obtain⟨pl,hpl,rfl⟩:=yZ hm
   split at h
   ·rename_i es c hb
    obtain⟨ms,h1,h2,h3⟩:=yY hr hpl hb
    split at h
    ·cases h
    ·rename_i hf
     injection h with h;injection h with g1 g2;subst g1;subst g2;obtain⟨x',hx',hF⟩:=wC (w:=w) hkt (iV hkk).1 h3 hf;have:x'=none:=hF;subst this;have hzz:Vr ρ z z:=Vr.D5 hz2;refine⟨.tuple #[z,.int .i64 c],_,?_,D8 hzz (.same rfl),wD hr hpl hb h1 h2 (Vm h3 (m:={key:=k',val:=z,born:=c}) ⟨(iV hkk).1.D7 hk,hzz,rfl⟩)⟩;simp[Instr.mapEntry,run_underlying hu,Go.MapKept.run_getObj_map h1,tH hkt hkk,hx',yV hz1,Go.MapKept.run_setObj_map _ h1,Result.andThen,jI,goInt]
    ·rename_i i e hf
     injection h with h;injection h with g1 g2;subst g1;subst g2;obtain⟨x',hx',mm,q1,q2,q3,rfl⟩:=wC (w:=w) hkt (iV hkk).1 h3 hf;have hke:=Kg (A9 _ _ _ _ hf);have hmk:mm.key=k':=by rw[(iV (A9 _ _ _ _ hf)).2.fix q3.1,hke]
     refine⟨.tuple #[mm.val,.int .i64 e.born],_,?_,D8 q3.2.1 (.same rfl),wD hr hpl hb h1 h2 (Kh h3 q2 (f:=λe=>{e with key:=k'}) ⟨(iV hkk).1.D7 hk,q3.2.1,q3.2.2⟩)⟩
     simp[Instr.mapEntry,run_underlying hu,Go.MapKept.run_getObj_map h1,tH hkt hkk,hx',Go.MapKept.run_setObj_map _ h1,Result.andThen,jI,q2,hmk,Vk (iV hkk).1,goInt,q3.2.2]
   ·cases h
  ·cases h
 ·cases h
theorem aFw {es:List Ent}{ms:List MapEntry}(h:EntsR ρ es ms)(s:Int):ms.findIdx? (λe=>(e.born:Int)==s)=es.findIdx? (λe=>(e.born:Int)==s):=by
 have hb:ms.map (·.born)=es.map (·.born):=by
  apply aUO;intro i;rw[aUq,aUq];cases he:es[i]? with
  |none=>
   have:ms[i]? =none:=by
    rw[List.getElem?_eq_none_iff] at he⊢;rw[<-h.1];exact he
   rw[this];rfl
  |some e=>
   have hi:i<ms.length:=by rw[<-h.1];exact(aUd.1 he).1
   have hm:ms[i]? =some ms[i]:=aUf hi;rw[hm];simp[(h.2 i e _ he hm).2.2]
 have e1:=List.findIdx?_map (f:=λe:MapEntry=>e.born) (l:=ms) (p:=λn:Nat=>(n:Int)==s)
 have e2:=List.findIdx?_map (f:=λe:Ent=>e.born) (l:=es) (p:=λn:Nat=>(n:Int)==s)
 rw[hb] at e1;rw[e1] at e2;exact e2
theorem aFu (hr:Rel P ρ (cF H) w){ty:TypeId}{m m' s s' v v' r:Value}(hm:Vr ρ m m')(hs:Vr ρ s s')(hv:Vr ρ v v')
  (h:qM m s v H=some (r,H')): ∃w',(Instr.entryStore ty m' s' v').run P w= .ok () w'/\r=undef/\Step P ρ H w ρ H' w':=by
 unfold qM at h
 split at h
 ·rename_i b kk s
  obtain⟨pl,hpl,rfl⟩:=yZ hm;have:s'= .int kk s:=hs.gW rfl;subst this
  split at h
  ·rename_i es c hb
   obtain⟨ms,h1,h2,h3⟩:=yY hr hpl hb
   split at h
   ·rename_i i hf
    split at h
    ·rename_i e he
     injection h with h;injection h with g1 g2;subst g1;subst g2;have hi:i<ms.length:=by rw[<-h3.1];exact(aUd.1 he).1
     have hm:ms[i]? =some ms[i]:=aUf hi;have hem:=h3.2 i e _ he hm;rw[<-aFw h3] at hf;refine⟨_,?_,rfl,wD hr hpl hb h1 h2 (Kh h3 hm (f:=λe=>{e with val:=v'}) ⟨hem.1,hv,hem.2.2⟩)⟩
     simp[Instr.entryStore,Go.MapKept.run_getObj_map h1,Go.MapKept.run_setObj_map _ h1,Result.andThen,jI,asInt,asIntOf,hf]
    ·cases h
   ·cases h
  ·cases h
 ·cases h
theorem aFy (hr:Rel P ρ (cF H) w){ts:Array TypeId}{ty ty0 kt' et:TypeId}{kt:KeyT}(hts:ts[0]? =some ty)(hu:P.underlying ty=some (.map kt' et))(hkt:pE P kt'=some kt){m m' k k' r:Value}(hm:Vr ρ m m')(hk:Vr ρ k k')
  (h:rO kt m k H=some (r,H')):pM P (Builtin.delete_ ts ty0 #[m',k']) w (Post P ρ H w r H'):=by
 unfold rO at h
 split at h
 ·rename_i hkk
  have e:=(iV hkk).1.fix hk;subst e
  split at h
  ·rename_i b
   obtain⟨pl,hpl,rfl⟩:=yZ hm
   split at h
   ·rename_i es c hb
    obtain⟨ms,h1,h2,h3⟩:=yY hr hpl hb
    split at h
    ·cases h
    ·rename_i hf
     injection h with h;injection h with g1 g2;subst g1;subst g2;obtain⟨x',hx',hF⟩:=wC (w:=w) hkt (iV hkk).1 h3 hf;have:x'=none:=hF;subst this;have hst:=wD (c':=c) hr hpl hb h1 h2 h3;rw[Dy hb] at hst;refine⟨.tuple #[],_,?_,ρ,.mL rfl,hst⟩;simp[Builtin.delete_,hts,run_underlying hu,Go.MapKept.run_getObj_map h1,tH hkt hkk,hx',Go.MapKept.run_setObj_map _ h1,Result.andThen,jI]
    ·rename_i i e hf
     injection h with h;injection h with g1 g2;subst g1;subst g2;obtain⟨x',hx',mm,q1,q2,q3,rfl⟩:=wC (w:=w) hkt (iV hkk).1 h3 hf;have hi:=(aUd.1 q2).1;refine⟨.tuple #[],_,?_,ρ,.mL rfl,wD (ms':=ms.eraseIdx i) (c':=c) hr hpl hb h1 h2 (aFv h3 i)⟩;simp[Builtin.delete_,hts,run_underlying hu,Go.MapKept.run_getObj_map h1,tH hkt hkk,hx',Go.MapKept.run_setObj_map _ h1,Result.andThen,jI,Array.eraseIdxIfInBounds,hi]
   ·cases h
  ·cases h
 ·cases h
theorem aFx (hr:Rel P ρ (cF H) w){ts:Array TypeId}{ty ty0 kt' et:TypeId}(hts:ts[0]? =some ty)(hu:P.underlying ty=some (.map kt' et)){m m' r:Value}(hm:Vr ρ m m')
  (h:oM m H=some (r,H')):H'=H/\(Builtin.len_ ts ty0 #[m']).run P w= .ok r w/\cL r=true:=by
 unfold oM at h
 split at h
 ·injection h with h;injection h with g1 g2;subst g1;subst g2
  have:m'= .map none:=by cases hm with|same _=>rfl
  subst this
  exact⟨rfl,by simp[Builtin.len_,hts,run_underlying hu,goInt],rfl⟩
 ·rename_i b
  obtain⟨pl,hpl,rfl⟩:=yZ hm
  split at h
  ·rename_i es c hb
   injection h with h;injection h with g1 g2;subst g1;subst g2;obtain⟨ms,h1,h2,h3⟩:=yY hr hpl hb;refine⟨rfl,?_,rfl⟩;simp[Builtin.len_,hts,run_underlying hu,Go.MapKept.run_getObj_map h1,Result.andThen,goInt,h3.1]
  ·cases h
 ·cases h
theorem aFC (hr:Rel P ρ (cF H) w)(hf: ∀b,H.length<=b->b<H'.length->ρ b=none){ty:TypeId}{r:Value}(h:lV H=some (r,H')):pM P (Instr.makeMap ty none) w (Post P ρ H w r H'):=by
 simp only[lV] at h;injection h with h;injection h with h1 h2;subst h1;subst h2;have hfr:ρ H.length=none:=hf _ (aUi _) (by simp)
 refine⟨.map (some w.heap.size),w.alloc (.map #[] 0),by simp[Instr.makeMap,Result.andThen],ρ.upd H.length ⟨w.heap.size,0,none⟩,.map (Ren.mM _ _ ⟨w.heap.size,0,none⟩),?_⟩
 have hheap:(w.alloc (.map #[] 0)).heap=w.heap.push (.map #[] 0):=rfl;refine Step.Jw hr hfr (pl:=⟨w.heap.size,0,none⟩) (x:= .map [] 0) (aUi _) (by rw[hheap];simp) (by rw[hheap];simp) (λc hc=>by rw[hheap,A7,if_neg U]) ?_ (by simp) rfl rfl rfl
 exact⟨#[],by rw[hheap,A7];simp,rfl,EntsR.Vl _⟩
end
section
variable {P : Program} {ρ : Ren} {H H' : aF} {w : World}
theorem mO {α:Type}(xs:Array α)(i:Nat):xs[i]? =xs.toList[i]? :=(Array.getElem?_toList ..).symm
theorem aFH {ts:Array TypeId}{vs:List Value}{r:Value}(h:qL (Di P ts vs) H=some (r,H')): ∃m k,vs=[m,k]/\uF P ts m k H=some (r,H'):=by
 match vs,h with
 |[m,k],h=>exact⟨m,k,rfl,h⟩
 |[],h=>cases h
 |[_],h=>cases h
 |_::_::_::_,h=>cases h
theorem aFE (hr:Rel P ρ (cF H) w){b:Builtin}{ts:Array TypeId}{ty:TypeId}{cs:Array Bool}{vs vs':List Value}{r:Value}(hv:Vrs ρ vs vs')
  (hf: ∀b,H.length<=b->b<H'.length->ρ b=none)(h:rK P b ts vs H=some (r,H')):
  ∃s:Sem Value,(builtin b ts ty cs vs'.toArray)=(do pure (.value (<-s)):Sem Next)/\pM P s w (Post P ρ H w r H'):=by
 replace h:qL (rK P b ts vs) H=some (r,H'):=h;unfold rK at h
 split at h
 ·
  rename_i v;obtain⟨v',vs'',rfl,hv',hn⟩:=hv.oR;have:=hn.nU;subst this;refine⟨_,rfl,?_⟩
  split at h
  ·rename_i hu
   cases h0:ts.toList[0]? with
   |none=>simp[h0] at hu
   |some t=>
    simp[h0] at hu;obtain⟨hx,rfl⟩:=j8 h;obtain⟨h1,h2⟩:=aFq (P:=P) (ty:=ty) hv' (by rw[mO];exact h0) hu hx w
    exact⟨r,w,h1,Post.j7 hr (.rS h2)⟩
  ·rename_i e0 hu
   cases h0:ts.toList[0]? with
   |none=>simp[h0] at hu
   |some t=>
    simp[h0] at hu;obtain⟨hx,rfl⟩:=j8 h;obtain⟨h1,h2⟩:=aFp (P:=P) (ty:=ty) hv' (by rw[mO];exact h0) hu hx w
    exact⟨r,w,h1,Post.j7 hr (.rS h2)⟩
  ·replace h:qL (uG P ts v) H=some (r,H'):=h
   unfold uG at h
   split at h
   ·rename_i p0 hu
    cases h0:ts.toList[0]? with
    |none=>simp[h0] at hu
    |some t=>
    simp[h0] at hu;replace hu:=yX hu;obtain⟨rfl,h1,h2⟩:=aFx (P:=P) (ty0:=ty) hr (by rw[mO];exact h0) hu hv' h
    exact⟨r,w,h1,Post.j7 hr (.rS h2)⟩
   ·cases h
 ·
  rename_i v x;obtain⟨v',vs1,rfl,hv',hn⟩:=hv.oR;obtain⟨x',vs2,rfl,hx',hn⟩:=hn.oR;have:=hn.nU;subst this;refine⟨_,rfl,?_⟩
  split at h
  ·rename_i e hu
   cases h0:ts.toList[0]? with
   |none=>simp[h0] at hu
   |some t=>
    simp[h0] at hu;have fin: ∀{sz by':Nat}{z:Value}{d:TypeDesc},eW P e=some (sz,by')->nT P e=some z->ts.toList[1]?.bind P.underlying=some d->(d= .string∨ ∃x,d= .slice x)->z.cells.size=sz->app e sz by' v x H=some (r,H')->
      pM P (Builtin.append_ ts ty #[v',x']) w (Post P ρ H w r H'):=by
     intro sz by' z d hs hz hd hdd hzs h;cases h1:ts.toList[1]? with
     |none=>simp[h1] at hd
     |some tx=>
      simp[h1] at hd;refine aE3 hr (by rw[mO];exact h0) (by rw[mO];exact h1) hu ?_ hs hz hzs hv' hx' hf h
      rcases hdd with rfl|⟨x,rfl⟩
      ·exact .inl hd
      ·exact .inr ⟨x,hd⟩
    split at h
    ·rename_i hs hz hd
     split at h
     ·rename_i hzs;exact fin hs hz hd (.inr ⟨_,rfl⟩) hzs h
     ·cases h
    ·rename_i hs hz hd
     split at h
     ·rename_i hzs;exact fin hs hz hd (.inl rfl) hzs h
     ·cases h
    ·cases h
  ·cases h
 ·
  rename_i d s;obtain⟨d',vs1,rfl,hd',hn⟩:=hv.oR;obtain⟨s',vs2,rfl,hs',hn⟩:=hn.oR;have:=hn.nU;subst this;refine⟨_,rfl,?_⟩
  split at h
  ·rename_i e hu
   cases h0:ts.toList[0]? with
   |none=>simp[h0] at hu
   |some t=>
    simp[h0] at hu
    split at h
    ·rename_i sz by' hs
     exact aFa hr (by rw[mO];exact h0) hu hs hd' hs' h
    ·cases h
  ·cases h
 ·
  rename_i v;obtain⟨v',vs'',rfl,hv',hn⟩:=hv.oR;have:=hn.nU;subst this;refine⟨_,rfl,?_⟩
  split at h
  ·rename_i e hu
   cases h0:ts.toList[0]? with
   |none=>simp[h0] at hu
   |some t=>
    simp[h0] at hu
    split at h
    ·rename_i sz by' z hs hz
     obtain⟨hz1,hz2⟩:=wB hz;exact aE9 hr (by rw[mO];exact h0) hu hs hz1 hz2 hv' h
    ·cases h
  ·cases h
 ·
  obtain⟨hx,rfl⟩:=j8 h;obtain⟨e,hfl,hrun⟩:=Vf hv hx w;subst e;refine⟨_,rfl,r,w,?_,Post.j7 hr (.rS hfl)⟩;exact hrun
 ·
  obtain⟨hx,rfl⟩:=j8 h;obtain⟨e,hfl,hrun⟩:=Vf hv hx w;subst e;refine⟨_,rfl,r,w,?_,Post.j7 hr (.rS hfl)⟩;exact hrun
 ·replace h:qL (vT P _ ts _) H=some (r,H'):=h
  unfold vT at h
  split at h
  ·obtain⟨v,x,rfl,h⟩:=aFH h
   by_cases hd:True
   ·obtain⟨v',vs1,rfl,hv',hn⟩:=hv.oR
    obtain⟨x',vs2,rfl,hx',hn⟩:=hn.oR;have:=hn.nU;subst this;refine⟨_,rfl,?_⟩;replace h:qL (uF P ts v x) H=some (r,H'):=h;unfold uF at h
    split at h
    ·rename_i p0 hu
     cases h0:ts.toList[0]? with
     |none=>simp[h0] at hu
     |some t=>
      simp[h0] at hu;replace hu:=yX hu
      split at h
      ·rename_i kt hkt
       exact aFy (P:=P) (ty0:=ty) hr (by rw[mO];exact h0) hu hkt hv' hx' h
      ·cases h
    ·cases h
   ·exact absurd trivial hd
  ·cases h
theorem aFG (hr:Rel P ρ (cF H) w){s d:TypeId}{v v' r:Value}(hv:Vr ρ v v')(h:cK P s d v H=some (r,H')):H'=H/\(convert s d v').run P w= .ok r w/\cL r=true:=by
 replace h:qL (cK P s d v) H=some (r,H'):=h;unfold cK at h
 split at h
 ·rename_i k1 k hs hd
  split at h
  ·rename_i kk n
   injection h with h;injection h with h1 h2;subst h1;subst h2;rw[hv.gW rfl]
   exact⟨rfl,by simp[convert,run_underlying hs,run_underlying hd,Conv.intToInt],rfl⟩
  ·cases h
 ·rename_i hs hd
  split at h
  ·rename_i s'
   injection h with h;injection h with h1 h2;subst h1;subst h2;rw[hv.gW rfl]
   exact⟨rfl,by simp[convert,run_underlying hs,run_underlying hd],rfl⟩
  ·cases h
 ·rename_i e hs hd
  split at h
  ·rename_i he
   exact aFj hr hs he hd hv h
  ·cases h
 ·cases h
theorem aFF {O:aH}(hO:uL P O){t:cY}{c:Call}{dst:Option Tmp}{ty0:TypeId}{pos:String}{after:Array Edge}{guard:Option (Nat×Bool)}{a:Act}{r:Value}{vs:List Value}
  (hr:Rel P ρ (cF H) w)(hx:yW ρ t a c.operands.toList)(hargs:Vrs ρ vs (c.args.toList.map a.eval))(hf: ∀b,H.length<=b->b<H'.length->ρ b=none)
  (h:qL (match c.callee with
   | .value f=>
    match opv t f with
    |some f=>kQ O f vs
    |none=>cH
   | .builtin b=>rK P b c.argTypes vs
   | .invoke _ _=>cH) H=some (r,H')):OpGood P ⟨dst,.call c,ty0,pos,after,guard⟩ a w (Post P ρ H w r H'):=by
 have hargs':(c.args.map a.eval)=(c.args.toList.map a.eval).toArray:=by apply Array.ext';rw[Array.toList_map]
 obtain⟨callee,args,argTypes⟩:=c;cases callee with
 |value f=>
  simp only at h hargs hargs';cases hfv:opv t f with
  |none=>rw[hfv] at h;cases h
  |some fv=>
   rw[hfv] at h;simp only at h;have hfx:=hx f (by simp[Call.operands]) fv hfv
   generalize hfe:a.eval f=fe at hfx
   cases fv with
   |func fn xs ys=>
    replace h:O fn (xs.toList++vs++ys.toList) H=some (r,H'):=h;cases hfx with
    |same hl=>simp[dI] at hl
    | @func g _ xs' _ ys' hl1 hl2 hv1 hv2=>
     have hall:Vrs ρ (xs.toList++vs++ys.toList) (xs'.toList++args.toList.map a.eval++ys'.toList):=(Vrs.A5 ⟨hl1,hv1⟩ hargs).A5 ⟨hl2,hv2⟩;obtain⟨h1,h2⟩:=hO _ _ _ _ _ h ρ w _ hr hall hf;have e:(xs'.toList++args.toList.map a.eval++ys'.toList).toArray=xs'++args.map a.eval++ys':=by
      apply Array.ext';simp
     rw[e] at h1 h2;refine .inr (.inr ⟨g,_,?_,h2⟩);rw[<-h1];simp[execOp,resolve,hfe,Deferred.ofValue,invoke]
   |_=>cases h
 |builtin b=>
  simp only at h hargs hargs';obtain⟨s,hs,hrun⟩:=aFE (ty:=ty0) (cs:=args.map λ| .const _=>true|_=>false) hr hargs hf h
  refine uM (s:=s) ?_ hrun;rw[<-hs,<-hargs'];rfl
 |invoke _ _=>cases h
theorem aFI {dst:Option Tmp}{ty0 t':TypeId}{pos:String}{after:Array Edge}{guard:Option (Nat×Bool)}{a:Act}{r u:Value}{x:Operand}{lo hi mx:Option Operand}{lo' hi' mx':Option Value}
  (hr:Rel P ρ (cF H) w)(hu:Vr ρ u (a.eval x))(hlo:Vro ρ lo' (lo.map a.eval))(hhi:Vro ρ hi' (hi.map a.eval))(hmx:Vro ρ mx' (mx.map a.eval))
  (h:qL (tD P t' u lo' hi' mx') H=some (r,H')):OpGood P ⟨dst,.slice t' x lo hi mx,ty0,pos,after,guard⟩ a w (Post P ρ H w r H'):=by
 unfold tD at h
 split at h
 ·rename_i e hty
  split at h
  ·rename_i sz by' hs
   split at h
   ·rename_i hmh
    obtain⟨rfl,v'',h1,h2⟩:=aFi hr hty hs hu hlo hhi hmx (by
     intro h;rcases hmh with h1|h1
     ·cases mx'<;>simp_all
     ·intro e;rw[e] at h1;cases h1) h
    exact mN (s:=Instr.sliceAt t' (a.eval x) (lo.map a.eval) (hi.map a.eval) (mx.map a.eval)) hr rfl h1 h2
   ·cases h
  ·cases h
 ·rename_i n e hty
  split at h
  ·rename_i sz by' hs
   have hmx0:mx=none:=by cases mx with
    |none=>rfl
    |some _=>exact hmx.elim
   subst hmx0;obtain⟨rfl,v'',h1,h2⟩:=aFh hr hty hs hu hlo hhi h;exact mN (s:=Instr.sliceAt t' (a.eval x) (lo.map a.eval) (hi.map a.eval) none) hr rfl h1 h2
  ·cases h
 ·rename_i hty
  split at h
  ·rename_i hc
   obtain⟨hc1,hc2,hc3,hc4⟩:=hc;obtain⟨h1,rfl⟩:=j8 h;have e1:=hu.gW hc1;have e2: ∀{y:Option Value}{y':Option Operand},Vro ρ y (y'.map a.eval)->y.all cL=true->y'.map a.eval=y:=by
    intro y y' hy hfl;cases y with
    |none=>cases y' with
     |none=>rfl
     |some _=>exact hy.elim
    |some y=>cases y' with
     |none=>exact hy.elim
     |some y'=>simp at hfl;simp;exact Vr.gW hy hfl
   have e3:=e2 hlo hc2;have e4:=e2 hhi hc3;have hmx0:mx=none:=by
    cases mx with
    |none=>rfl
    |some _=>cases mx' with
     |none=>exact hmx.elim
     |some _=>cases hc4
   subst hmx0;refine mN (s:=Instr.sliceAt t' (a.eval x) (lo.map a.eval) (hi.map a.eval) none) hr rfl ?_ (.rS (pN h1 w).2);rw[e1,e3,e4];have:=(pN h1 w).1;simpa[Instr.sliceAt,run_underlying hty] using this
  ·cases h
 ·cases h
set_option maxHeartbeats 4000000 in
theorem aFD {O:aH}(hO:uL P O){t:cY}{o:Oper}{a:Act}{r:Value}(hr:Rel P ρ (cF H) w)(hx:yW ρ t a o.op.operands.toList)
  (hf: ∀b,H.length<=b->b<H'.length->ρ b=none)(h:aOp P O t o H=some (r,H')):OpGood P o a w (Post P ρ H w r H'):=by
 obtain⟨dst,op,ty0,pos,after,guard⟩:=o;replace h:qL (aOp P O t ⟨dst,op,ty0,pos,after,guard⟩) H=some (r,H'):=h;cases op<;>simp only[aOp] at h<;>simp only[Op.operands] at hx
 case move x=>
  obtain⟨h1,rfl⟩:=j8 h;exact .inl ⟨_,w,rfl,Post.j7 hr (hx x (by simp) r h1)⟩
 case assign x=>
  obtain⟨h1,rfl⟩:=j8 h;exact .inl ⟨_,w,rfl,Post.j7 hr (hx x (by simp) r h1)⟩
 case pick c x y=>
  split at h
  ·rename_i c' x' y' h1 h2 h3
   obtain⟨hp,rfl⟩:=j8 h;have hc:=hx c (by simp) _ h1
   have hxx:=hx x (by simp) _ h2
   have hyy:=hx y (by simp) _ h3
   unfold yS at hp
   split at hp
   ·rename_i b
    injection hp with hp;have e:=hc.gW rfl;refine .inl ⟨if b=true then a.eval x else a.eval y,w,?_,?_⟩
    ·simp[execOp,e,asBool]
    ·cases b
     ·simp at hp ⊢; subst hp;exact Post.j7 hr hyy
     ·simp at hp ⊢; subst hp;exact Post.j7 hr hxx
   ·cases hp
  ·cases h
 case alloc e=>
  split at h
  ·rename_i z hz
   obtain⟨hz1,hz2⟩:=wB hz;have hfr:ρ H.length=none:=by
    simp only[qL,aZ] at h;injection h with h;injection h with h1 h2;subst h2;exact hf _ (aUi _) (by simp)
   obtain⟨v',w',hrun,hp⟩:=Uz (P:=P) (w:=w) hr hfr (Vr.D5 hz2) h;refine uM (s:=Instr.alloc e true (.tuple #[])) rfl ⟨v',w',?_,hp⟩;simp only[Instr.alloc,Sem.run_bind,yV hz1,aUB];exact hrun
  ·cases h
 case box e x=>
  split at h
  ·rename_i v hv
   have hfr:ρ H.length=none:=by
    simp only[qL,aZ] at h;injection h with h;injection h with h1 h2;subst h2;exact hf _ (aUi _) (by simp)
   exact uM (s:=Instr.box e (a.eval x)) rfl (Uz (P:=P) (w:=w) hr hfr (hx x (by simp) v hv) h)
  ·cases h
 case build t' ps=>
  split at h
  ·rename_i ps' hps
   obtain⟨hb,rfl⟩:=j8 h;unfold bld at hb
   split at hb
   ·rename_i z hz
    cases hbb:P.built t' ps' with
    |none=>simp[hbb] at hb
    |some cs=>
     simp[hbb] at hb;subst hb;have hpar:=Kb (a:=a) (by simpa using hx) hps
     obtain⟨cs',hb',hrel⟩:=aFm hz hpar hbb;refine mN (s:=Instr.build t' (ps.map λ(i,x)=>(i,a.eval x))) hr rfl (run_build w t' _ cs' (by simpa using hb')) (.agg hrel.1 hrel.2)
   ·cases hb
  ·cases h
 case buildSlice t' n ps=>
  split at h
  ·rename_i e hu
   split at h
   ·rename_i sz by' z ps' hs hz hps
    split at h
    ·rename_i hc
     obtain⟨hz1,hz2⟩:=wB hz;have hpar:=Kb (a:=a) (by simpa using hx) hps
     exact uM (s:=Instr.buildSlice t' n (ps.map λ(i,x)=>(i,a.eval x))) rfl (aE8 hr hu hs hz1 hz2 hc.2 hc.1 (by simpa using hpar) hf h)
    ·cases h
   ·cases h
  ·cases h
 case load t' x=>
  split at h
  ·rename_i v sz by' g hv hs hg
   obtain⟨rfl,ad,v',h0,h1,h3⟩:=Uy hr hs hg (hx x (by simp) v hv) h
   refine mN (s:=Instr.loadAt t' (a.eval x)) hr rfl ?_ h3;rw[h0];simp only[Instr.loadAt,Instr.sureAddr,pure_bind];exact h1
  ·cases h
 case store t' x y=>
  split at h
  ·rename_i v u sz by' hv hu hs
   obtain⟨w',h1,rfl,h3⟩:=aE2 hr hs (hx x (by simp) v hv) (hx y (by simp) u hu) h
   exact J9 (s:=Instr.storeAt t' (a.eval x) (a.eval y)) rfl h1 ⟨ρ,.tF ρ,h3⟩
  ·cases h
 case nilCheck x=>
  split at h
  ·rename_i v hv
   obtain⟨h1,rfl⟩:=j8 h;obtain⟨h2,h3⟩:=aFr (hx x (by simp) v hv) h1
   refine .inl ⟨a.eval x,w,?_,Post.j7 hr h2⟩;rcases h3 with⟨p,hp⟩|⟨f,p,q,hp⟩
   ·simp[execOp,hp]
   ·simp[execOp,hp]
  ·cases h
 case binOp op t' x y yt=>
  split at h
  ·rename_i u v hu hv
   obtain⟨h1,rfl⟩:=j8 h;obtain⟨h2,h3⟩:=aFd (hx x (by simp) u hu) (hx y (by simp) v hv) h1 x y w
   exact mN (s:=(do eqGuard op t' x y (a.eval x) (a.eval y);binOp op t' (a.eval x) (a.eval y))) hr rfl h2 (.rS h3)
  ·cases h
 case unOp op t' x=>
  split at h
  ·rename_i u hu
   obtain⟨h1,rfl⟩:=j8 h;unfold un at h1
   split at h1
   ·rename_i hfl
    have e:=(hx x (by simp) u hu).gW hfl
    exact mN (s:=Op.unary op (a.eval x)) hr rfl (by rw[e];exact(pN h1 w).1) (.rS (pN h1 w).2)
   ·cases h1
  ·cases h
 case convert s d x=>
  split at h
  ·rename_i u hu
   obtain⟨rfl,h1,h2⟩:=aFG hr (hx x (by simp) u hu) h
   exact mN (s:=Go.convert s d (a.eval x)) hr rfl h1 (.rS h2)
  ·cases h
 case makeFunc fn xs ys=>
  split at h
  ·rename_i f us vs hus hvs
   injection h with h;injection h with h1 h2;subst h1;subst h2;have hu:=D6 (a:=a) (λx hx'=>hx x (by simp;exact .inl (by simpa using hx'))) hus
   have hv:=D6 (a:=a) (λx hx'=>hx x (by simp;exact .inr (by simpa using hx'))) hvs
   refine mN (s:=Instr.makeFunc (.func f) (xs.map a.eval) (ys.map a.eval)) hr rfl rfl ?_;exact .func (by simpa using hu.1) (by simpa using hv.1) (by simpa using hu.2) (by simpa using hv.2)
  ·cases h
 case makeSlice t' n c=>
  split at h
  ·rename_i e hu
   split at h
   ·rename_i sz by' z n' c' hs hz hn hc
    obtain⟨hz1,hz2⟩:=wB hz;exact uM (s:=Instr.makeSlice t' (a.eval n) (a.eval c)) rfl (aFb hr hu hs hz1 hz2 (hx n (by simp) n' hn) (hx c (by simp) c' hc) hf h)
   ·cases h
  ·cases h
 case slice t' x lo hi mx=>
  split at h
  ·rename_i u lo' hi' mx' hu hlo hhi hmx
   have hux:=hx x (by simp) u hu
   have hlo':=Ka (a:=a) (x:=lo) (λy hy=>hx y (by simp;right;left;simpa using hy)) hlo
   have hhi':=Ka (a:=a) (x:=hi) (λy hy=>hx y (by simp;right;right;left;simpa using hy)) hhi
   have hmx':=Ka (a:=a) (x:=mx) (λy hy=>hx y (by simp;right;right;right;simpa using hy)) hmx
   exact aFI (ty0:=ty0) (pos:=pos) (after:=after) (guard:=guard) (dst:=dst) hr hux hlo' hhi' hmx' h
  ·cases h
 case fieldAddr t' x f=>
  split at h
  ·rename_i u fs hu hty
   split at h
   ·rename_i fl hfl
    split at h
    ·cases h
    ·rename_i hsz
     obtain⟨h1,rfl⟩:=j8 h;obtain⟨c,o,e,h2⟩:=aFn (hx x (by simp) u hu) h1
     refine mN (s:=Instr.fieldAt t' (a.eval x) f) hr rfl ?_ h2;rw[e];have hfl':fs[f]? =some fl:=by rw[mO];exact hfl
     obtain⟨i,hi⟩: ∃i,P.info? fl.type=some i:=by
      cases hi:P.info? fl.type with
      |none=>simp[Program.cellsOf,hi] at hsz
      |some i=>exact⟨i,rfl⟩
     have hne:i.size≠0:=by simpa[Program.cellsOf,hi] using hsz
     simp[Instr.fieldAt,run_underlying hty,hfl',Instr.sureAddr,fieldPlace,Go.sizeOf,typeInfo,hi,hne,tG]
   ·cases h
  ·cases h
 case field t' x f=>
  split at h
  ·rename_i u fs hu hty
   split at h
   ·rename_i fl hfl
    split at h
    ·rename_i sz by' g hs hg
     obtain⟨h1,rfl⟩:=j8 h;obtain⟨cs,r',e,h2,h3⟩:=aFs hg hs (hx x (by simp) u hu) h1 w
     refine mN (s:=Instr.field t' (a.eval x) f) hr rfl ?_ h3;have hfl':fs[f]? =some fl:=by rw[mO];exact hfl
     rw[e];simp[Instr.field,run_underlying hty,hfl',asAgg,h2]
    ·cases h
   ·cases h
  ·cases h
 case indexAddr t' x i=>
  split at h
  ·rename_i u v e hu hv hty
   split at h
   ·rename_i sz by' hs
    obtain⟨h1,rfl⟩:=j8 h;obtain⟨c,o,n,cap,k,j,e1,e2,h2,h3,h4⟩:=aFo (hx x (by simp) u hu) (hx i (by simp) v hv) h1
    refine mN (s:=Instr.indexAt t' (a.eval x) (a.eval i)) hr rfl ?_ h4;rw[e1,e2];simp[Instr.indexAt,asIntOf,run_underlying hty,h2,h3,nE hs,tG]
   ·cases h
  ·rename_i u v n e hu hv hty
   split at h
   ·rename_i sz by' hs
    obtain⟨h1,rfl⟩:=j8 h;obtain⟨c,o,k,j,e1,e2,h2,h3,h4⟩:=aFl (hx x (by simp) u hu) (hx i (by simp) v hv) h1
    refine mN (s:=Instr.indexAt t' (a.eval x) (a.eval i)) hr rfl ?_ h4;rw[e1,e2];simp[Instr.indexAt,asIntOf,run_underlying hty,h2,h3,nE hs,tG,Instr.sureAddr]
   ·cases h
  ·cases h
 case index t' x i=>
  split at h
  ·rename_i u v hu hv hty
   split at h
   ·rename_i hc
    obtain⟨h1,rfl⟩:=j8 h;have e1:=(hx x (by simp) u hu).gW hc.1
    have e2:=(hx i (by simp) v hv).gW hc.2
    exact mN (s:=Instr.index t' (a.eval x) (a.eval i)) hr rfl (by rw[e1,e2];exact(pN h1 w).1) (.rS (pN h1 w).2)
   ·cases h
  ·cases h
 case extract x i=>
  split at h
  ·rename_i v hv
   obtain⟨h1,rfl⟩:=j8 h;have hvx:=hx x (by simp) v hv
   unfold ext at h1
   split at h1
   ·rename_i vs
    obtain⟨vs',e,hvs⟩: ∃vs',a.eval x= .tuple vs'/\Vrs ρ vs.toList vs'.toList:=by
     generalize a.eval x=y at hvx
     cases hvx with
     |same hl=>simp[dI] at hl
     | @tuple _ x' hl h1=>exact⟨x',rfl,hl,h1⟩
    obtain⟨r',h2,h3⟩:=hvs.vV h1;refine mN (s:=Instr.extract (a.eval x) i) hr rfl ?_ h3;rw[e];have h2':vs'[i]? =some r':=by rw[mO];exact h2
    simp[Instr.extract,h2']
   ·cases h1
  ·cases h
 case call c=>
  split at h
  ·cases h
  ·rename_i vs hvs
   have hargs:=D6 (a:=a) (λx hx'=>hx x (by simp[Call.operands];exact .inr (by simpa using hx'))) hvs
   exact aFF hO hr hx hargs hf h
 case makeMap t' r0=>
  split at h
  ·exact uM (s:=Instr.makeMap t' none) rfl (aFC hr hf h)
  ·cases h
 case lookup t' x i ok=>
  split at h
  ·rename_i m k p hm hk hu
   split at h
   ·rename_i kt z hkt hz
    obtain⟨rfl,r',h1,h2⟩:=aFA hr (yX hu) hkt hz (hx x (by simp) m hm) (hx i (by simp) k hk) h
    exact mN (s:=Instr.lookup t' (a.eval x) (a.eval i) ok) hr rfl h1 h2
   ·cases h
  ·cases h
 case mapUpdate t' x i y=>
  split at h
  ·rename_i m k v p hm hk hv hu
   split at h
   ·rename_i kt hkt
    obtain⟨w',h1,rfl,h3⟩:=aFB hr (yX hu) hkt (hx x (by simp) m hm) (hx i (by simp) k hk) (hx y (by simp) v hv) h
    exact J9 (s:=Instr.mapUpdate t' (a.eval x) (a.eval i) (a.eval y)) rfl h1 ⟨ρ,.tF ρ,h3⟩
   ·cases h
  ·cases h
 case mapEntry t' x i=>
  split at h
  ·rename_i m k p hm hk hu
   split at h
   ·rename_i kt z hkt hz
    obtain⟨r',w',h1,h2,h3⟩:=aFz hr (yX hu) hkt hz (hx x (by simp) m hm) (hx i (by simp) k hk) h
    exact uM (s:=Instr.mapEntry t' (a.eval x) (a.eval i)) rfl ⟨r',w',h1,ρ,h2,h3⟩
   ·cases h
  ·cases h
 case entryStore t' x s y=>
  split at h
  ·rename_i m k v hm hk hv
   obtain⟨w',h1,rfl,h3⟩:=aFu (ty:=t') hr (hx x (by simp) m hm) (hx s (by simp) k hk) (hx y (by simp) v hv) h
   exact J9 (s:=Instr.entryStore t' (a.eval x) (a.eval s) (a.eval y)) rfl h1 ⟨ρ,.tF ρ,h3⟩
  ·cases h
 all_goals (cases h)
end
def eZ (m:M Value):Prop:= ∀H v H',m H=some (v,H')->H.length<=H'.length
def pO (O:aH):Prop:= ∀fn args H v H',O fn args H=some (v,H')->H.length<=H'.length
theorem qR:eZ cH:=λH v H' h=>by cases h
theorem Ba (v:Value):eZ (aX v):=λH v H' h=>by injection h with h;injection h with h1 h2;subst h2;exact aUi _
theorem Kj (x:Option Value):eZ (aP x):=λH v H' h=>by
 obtain⟨_,rfl⟩:=j8 h;exact aUi _
theorem aFS (v:Value):eZ (ld1 v):=λH r H' h=>by rw[(J1 h).1];exact aUi _
theorem aFT (n:Nat)(v:Value):eZ (ldN n v):=λH r H' h=>by rw[(J2 h).1];exact aUi _
theorem aF2 (e:TypeId)(cs:List Value)(k:Kind):eZ (aZ e cs k):=λH r H' h=>by
 simp only[aZ] at h;injection h with h;injection h with h1 h2;subst h2;simp
theorem aF7 (n:Nat)(a v:Value):eZ (stN n a v):=λH r H' h=>by
 unfold stN at h
 repeat' split at h
 all_goals first|(cases h;done)|(injection h with h;injection h with h1 h2;subst h2;simp)
theorem aF4 (P:Program)(sz:Nat)(v:Value)(lo hi mx:Option Value):eZ (slc P sz v lo hi mx):=λH r H' h=>by
 unfold slc at h
 repeat' split at h
 all_goals first|(cases h;done)|(injection h with h;injection h with h1 h2;subst h2;simp)
theorem aF5 (n sz:Nat)(v:Value)(lo hi:Option Value):eZ (pG n sz v lo hi):=λH r H' h=>by
 unfold pG at h
 repeat' split at h
 all_goals first|(cases h;done)|(injection h with h;injection h with h1 h2;subst h2;simp)
theorem aFJ (e:TypeId)(sz by':Nat)(v w:Value):eZ (app e sz by' v w):=λH r H' h=>by
 unfold app at h
 repeat' split at h
 all_goals first|(cases h;done)|(injection h with h;injection h with h1 h2;subst h2;simp)
theorem aFP (sz:Nat)(d s:Value):eZ (cpy sz d s):=λH r H' h=>by
 unfold cpy at h
 repeat' split at h
 all_goals first|(cases h;done)|(injection h with h;injection h with h1 h2;subst h2;simp)
theorem aFN (sz:Nat)(z:List Value)(v:Value):eZ (clr sz z v):=λH r H' h=>by
 unfold clr at h
 repeat' split at h
 all_goals first|(cases h;done)|(injection h with h;injection h with h1 h2;subst h2;simp)
theorem aF0 (e:TypeId)(sz by':Nat)(z:List Value)(n c:Value):eZ (gU e sz by' z n c):=λH r H' h=>by
 unfold gU at h
 repeat' split at h
 all_goals first|(cases h;done)|(injection h with h;injection h with h1 h2;subst h2;simp)
theorem aFK (e:TypeId)(sz n:Nat)(z:List Value)(ps:List (Nat×Value)):eZ (b9 e sz n z ps):=λH r H' h=>by
 unfold b9 at h
 repeat' split at h
 all_goals first|(cases h;done)|(injection h with h;injection h with h1 h2;subst h2;simp)
theorem aF8 (v:Value):eZ (oN v):=λH r H' h=>by
 unfold oN at h
 repeat' split at h
 all_goals first|(cases h;done)|(injection h with h;injection h with h1 h2;subst h2;simp)
theorem aFY (kt:KeyT)(z:Value)(ok:Bool)(m k:Value):eZ (jE kt z ok m k):=λH r H' h=>by
 unfold jE at h
 repeat' split at h
 all_goals first|(cases h;done)|(injection h with h;injection h with h1 h2;subst h2;simp)
theorem aFZ (kt:KeyT)(m k v:Value):eZ (kS kt m k v):=λH r H' h=>by
 unfold kS at h
 repeat' split at h
 all_goals first|(cases h;done)|(injection h with h;injection h with h1 h2;subst h2;simp)
theorem aFX (kt:KeyT)(z:Value)(m k:Value):eZ (qO kt z m k):=λH r H' h=>by
 unfold qO at h
 repeat' split at h
 all_goals first|(cases h;done)|(injection h with h;injection h with h1 h2;subst h2;simp)
theorem aFR (m s v:Value):eZ (qM m s v):=λH r H' h=>by
 unfold qM at h
 repeat' split at h
 all_goals first|(cases h;done)|(injection h with h;injection h with h1 h2;subst h2;simp)
theorem aFW (kt:KeyT)(m k:Value):eZ (rO kt m k):=λH r H' h=>by
 unfold rO at h
 repeat' split at h
 all_goals first|(cases h;done)|(injection h with h;injection h with h1 h2;subst h2;simp)
theorem aFV (v:Value):eZ (oM v):=λH r H' h=>by
 unfold oM at h
 repeat' split at h
 all_goals first|(cases h;done)|(injection h with h;injection h with h1 h2;subst h2;simp)
theorem aFU (P:Program)(ts:Array TypeId)(v:Value):eZ (uG P ts v):=by
 unfold uG;split
 ·exact aFV _
 ·exact qR
theorem aFQ (P:Program)(ts:Array TypeId)(m k:Value):eZ (uF P ts m k):=by
 unfold uF;split
 ·split
  ·exact aFW _ _ _
  ·exact qR
 ·exact qR
theorem aF1 (P:Program)(b:Builtin)(ts:Array TypeId)(vs:List Value):eZ (vT P b ts vs):=by
 unfold vT;split
 ·unfold Di
  split
  ·exact aFQ _ _ _ _
  ·exact qR
 ·exact qR
theorem aF3:eZ lV:=λH r H' h=>by
 simp only[lV] at h;injection h with h;injection h with h1 h2;subst h2;simp
theorem aFM {O:aH}(hO:pO O)(f:Value)(vs:List Value):eZ (kQ O f vs):=by
 cases f with
 |func fn x y=>exact λH v H' h=>hO _ _ H v H' h
 |_=>exact qR
theorem aFL (P:Program)(b:Builtin)(ts:Array TypeId)(vs:List Value):eZ (rK P b ts vs):=by
 unfold rK
 repeat' split
 all_goals first|exact qR|exact Kj _|(apply aFJ;done)|(apply aFP;done)|(apply aFN;done)|(apply aFU;done)|(apply aF1;done)
theorem aFO (P:Program)(s d:TypeId)(v:Value):eZ (cK P s d v):=by
 unfold cK
 repeat' split
 all_goals first|exact qR|exact Ba _|exact aF8 _
theorem aF6 (P:Program)(t:TypeId)(x:Value)(lo hi mx:Option Value):eZ (tD P t x lo hi mx):=by
 unfold tD
 repeat' split
 all_goals first|exact qR|exact Kj _|(apply aF4;done)|(apply aF5;done)
theorem Vn (P:Program){O:aH}(hO:pO O)(t:cY)(o:Oper):eZ (aOp P O t o):=by
 obtain⟨dst,op,ty0,pos,after,guard⟩:=o;cases op<;>simp only[aOp]<;>repeat' split
 all_goals first
  |exact qR|exact Kj _|exact Ba _|(apply aF2;done)|(apply aFT;done)|(apply aFS;done)|(apply aF7;done)|(apply aFO;done)
  |(apply aF0;done)|(apply aFK;done)|(apply aF6;done)|(apply aFM hO;done)|(apply aFL;done)|(apply aFY;done)|(apply aFZ;done)|(apply aFX;done)|(apply aFR;done)|exact aF3
theorem Km (P:Program){O:aH}(hO:pO O)(ops:List Oper)(t:cY)(o:Oper):eZ (fN P O ops t o):=by
 unfold fN;split
 ·exact Vn P hO t o
 ·split
  ·split
   ·unfold gd
    split
    ·split
     ·exact Vn P hO t o
     ·exact Ba _
    ·exact Ba _
   ·exact qR
  ·exact Ba _
def qQ (k:K (Value×aF))(r:Value×aF):Prop:= ∀t H,k t H=some r->H.length<=r.2.length
theorem Kl (P:Program){O:aH}(hO:pO O)(ops:List Oper){r:Value×aF}: ∀(l:List Oper)(k:K (Value×aF)),qQ k r->qQ (uJ P O ops l k) r
 |[],k,hk=>hk
 |o::l,k,hk=>λt H h=>by
  simp only[uJ] at h
  split at h
  ·cases h
  ·rename_i x hx
   exact aUt (Km P hO ops t o H x.1 x.2 hx) (Kl P hO ops l k hk _ _ h)
theorem D9 (P:Program){O:aH}(hO:pO O)(ops:List Oper)(ms:List Nat){r:Value×aF}: ∀(l:List Oper)(i:Nat)(rs:List Rd)(es:List Ef)(k:K (Value×aF)),qQ k r->qQ (oQ P O ops ms l i rs es k) r
 |[],_,_,_,k,hk=>hk
 |o::l,i,rs,es,k,hk=>λt H h=>by
  simp only[oQ] at h
  split at h
  ·cases h
  ·rename_i x hx
   have h1:=Km P hO ops t o H x.1 x.2 hx
   split at h
   ·split at h
    ·exact aUt h1 (D9 P hO ops ms l _ _ _ k hk _ _ h)
    ·cases h
   ·split at h
    ·split at h
     ·exact aUt h1 (D9 P hO ops ms l _ _ _ k hk _ _ h)
     ·cases h
    ·exact aUt h1 (D9 P hO ops ms l _ _ _ k hk _ _ h)
def MonoE (k:Ex->K (Value×aF))(r:Value×aF):Prop:= ∀e,qQ (k e) r
theorem Ki {B:(Ex->K (Value×aF))->K (Value×aF)}{r:Value×aF}(hB: ∀k,MonoE k r->qQ (B k) r): ∀(n:Nat)(k:Ex->K (Value×aF)),MonoE k r->qQ (aL n B k) r
 |0,_,_=>λt H h=>by cases h
 |n+1,k,hk=>hB _ λe=>by
  cases e with
  |normal=>exact Ki hB n k hk
  |exit id=>exact hk _
  |ret=>exact hk _
theorem MonoE.clr {k:Ex->K (Value×aF)}{r:Value×aF}(h:MonoE k r)(m:Nat):MonoE (iO m k) r:=λe t H hh=>h e _ _ hh
theorem Kk (P:Program){O:aH}(hO:pO O)(n m:Nat){r:Value×aF}: ∀(c:Code)(k:Ex->K (Value×aF)),MonoE k r->qQ (eI P O (aL n) m c k) r:=by
 intro c;induction c with
 |skip=>exact λk hk=>hk _
 |ret=>exact λk hk=>hk _
 |exit id=>exact λk hk=>hk _
 |region id ops draw=>
  intro k hk;simp only[eI];split
  ·intro t H h
   simp only at h
   split at h
   ·exact D9 P hO _ _ _ _ _ _ _ (hk _) _ _ h
   ·cases h
  ·exact Kl P hO _ _ _ (hk _)
 |seq a b iha ihb=>
  intro k hk;simp only[eI];refine iha _ λe=> ?_
  cases e with
  |normal=>exact ihb k hk
  |exit id=>exact hk _
  |ret=>exact hk _
 |cond c a b iha ihb=>
  intro k hk t H h;simp only[eI] at h
  split at h
  ·split at h
   ·exact iha k hk t H h
   ·exact ihb k hk t H h
  ·cases h
 |block id c ih=>
  intro k hk;simp only[eI];refine ih _ λe=> ?_
  cases e with
  |normal=>exact hk _
  |exit j=>simp only;split<;>exact hk _
  |ret=>exact hk _
 |loop c ih=>
  intro k hk;simp only[eI];exact λt H h=>Ki (λk hk=>ih _ (hk.clr m)) n k hk _ _ h
 |scope c ih=>
  intro k hk;simp only[eI];exact ih k hk
 |label l=>exact λk hk=>hk _
 |_=>intro k hk t H h;simp only[eI] at h;cases h
section
variable {P : Program} {ρ : Ren} {H H' : aF} {w : World}
def Looked (ρ:Ren)(t:cY)(a:Act)(ss:List Tmp):Prop:= ∀s∈ss,Vo ρ (gT t s) (a.tmps.getD s undef)
theorem Looked.Bb {t:cY}{a:Act}(h:Srs ρ t a.tmps.toList)(ss:List Tmp):Looked ρ t a ss:=by
 intro s _;unfold gT;rw[aUh,aUK];cases ht:t[s]? with
 |none=>
  have:a.tmps[s]? =none:=by
   rw[Array.getElem?_eq_none_iff];have:=List.getElem?_eq_none_iff.1 ht;have h1:=h.1;simp at h1;omega
  rw[this];exact λu hu=>by cases hu;exact .tF ρ
 |some v=>
  obtain⟨v',h1,h2⟩:=h.aEP ht;rw[Array.getElem?_toList] at h1;rw[h1];exact h2
theorem Vq {ops:List Oper}{o:Oper}{t:cY}{a:Act}(h:Looked ρ t a (rQ ops o)):yW ρ t a o.op.operands.toList:=by
 intro x hx v hv;cases x with
 |tmp s=>
  simp only[opv] at hv;exact h s (by simp only[rQ,List.mem_append,List.mem_filterMap];left;exact⟨.tmp s,hx,rfl⟩) v hv
 |const c=>
  simp only[opv] at hv
  split at hv
  ·injection hv with hv;subst hv;rename_i hl;exact .mL hl
  ·cases hv
 |global g=>simp[opv] at hv
 |func f=>
  simp only[opv,aUE] at hv;subst hv;exact .func rfl rfl (λi u v h=>by simp at h) (λi u v h=>by simp at h)
theorem Ea {v v':Value}(h:Vr ρ v v'):(∀b,v= .bool b->v'= .bool b)/\(∀b,v'= .bool b->v= .bool b):=by
 constructor
 ·rintro b rfl;exact h.gW rfl
 ·rintro b rfl
  cases h with
  |same _=>rfl
theorem Vu {O:aH}(hO:uL P O){ops:Array Oper}{t:cY}{o:Oper}{a:Act}{r:Value}(hr:Rel P ρ (cF H) w)(hl:Looked ρ t a (rQ ops.toList o))
  (hf: ∀b,H.length<=b->b<H'.length->ρ b=none)(h:fN P O ops.toList t o H=some (r,H')){K:Act->World->Prop}{Q:Exit->Act->World->Prop}
  (hK: ∀v w',Post P ρ H w r H' v w'->K (a.put o.dst v) w'):
  if Region.wanted o (yielded ops a.tmps) then o.wp P a w K Q∨(o.asks P a w/\LetsOut Q) else K (a.put o.dst undef) w:=by
 have main:aOp P O t o H=some (r,H')->o.wp P a w K Q:=λh=>
  (aFD hO hr (Vq hl) hf h).aFk hK
 unfold fN at h;cases hg:o.guard with
 |none=>
  rw[hg] at h;simp only at h;simp only[Region.wanted,hg,if_true];exact .inl (main h)
 |some g=>
  obtain⟨j,want⟩:=g;rw[hg] at h;simp only at h;have undef_case:fN P O ops.toList t o H=some (undef,H)->r=undef->H'=H->K (a.put o.dst undef) w:=by
   rintro _ rfl rfl
   exact hK _ _ ⟨ρ,.tF ρ,Step.pK hr⟩
  cases hd:Ay ops.toList j with
  |none=>
   rw[hd] at h;simp only[aX] at h;injection h with h;injection h with h1 h2;have hy:yielded ops a.tmps j=none:=by
    unfold Ay at hd;unfold yielded;rw[mO,hd];rfl
   have:Region.wanted o (yielded ops a.tmps)=false:=by simp[Region.wanted,hg,hy]
   rw[this];simp only[Bool.false_eq_true,if_false];exact hK _ _ (by rw[<-h1,<-h2];exact⟨ρ,.tF ρ,Step.pK hr⟩)
  |some d=>
   rw[hd] at h;simp only at h;have hv:=hl d (by simp only[rQ,hg,hd,List.mem_append];right;simp)
   have hyield:yielded ops a.tmps j=match a.tmps[d]? with|some (.bool b)=>some b|_=>none:=by
    unfold Ay at hd;unfold yielded;rw[mO ops j,hd];rfl
   rw[aUK] at hv
   generalize ht:gT t d=x0 at h hv
   cases x0 with
   |none=>cases h
   |some x=>
   replace hv:=hv x rfl;simp only at h;unfold gd at h
   split at h
   ·rename_i b
    have hb:a.tmps[d]? =some (.bool b):=by
     cases ha:a.tmps[d]? with
     |none=>rw[ha] at hv;have:=(Ea hv).1 b rfl;cases this
     |some y=>rw[ha] at hv;have:=(Ea hv).1 b rfl;simp at this;rw[this]
    rw[hb] at hyield;simp only at hyield
    split at h
    ·rename_i hbw
     have:Region.wanted o (yielded ops a.tmps)=true:=by simp[Region.wanted,hg,hyield,hbw]
     rw[this];simp only[if_true];exact .inl (main h)
    ·rename_i hbw
     have:Region.wanted o (yielded ops a.tmps)=false:=by
      simp only[Region.wanted,hg,hyield];simpa using hbw
     rw[this];simp only[Bool.false_eq_true,if_false];injection h with h;injection h with h1 h2;exact hK _ _ (by rw[<-h1,<-h2];exact⟨ρ,.tF ρ,Step.pK hr⟩)
   ·rename_i hnb
    have hyn:yielded ops a.tmps j=none:=by
     rw[hyield];cases ha:a.tmps[d]? with
     |none=>rfl
     |some y=>
      cases y<;>try rfl
      rename_i b;rw[ha] at hv;have:=(Ea hv).2 b rfl;exact absurd this (hnb b)
    have:Region.wanted o (yielded ops a.tmps)=false:=by simp[Region.wanted,hg,hyn]
    rw[this];simp only[Bool.false_eq_true,if_false];injection h with h;injection h with h1 h2;exact hK _ _ (by rw[<-h1,<-h2];exact⟨ρ,.tF ρ,Step.pK hr⟩)
theorem Srs.aF9 {ρ':Ren}{t:cY}{a:Act}{v v':Value}(h:Srs ρ' t a.tmps.toList)(hv:Vr ρ' v v')(d:Option Tmp):Srs ρ' (qP t d v) (a.put d v').tmps.toList:=by
 cases d with
 |none=>exact h
 |some d=>simp only[qP,Act.put,Array.toList_setIfInBounds];exact h.aER (λu hu=>by cases hu;exact hv) d
theorem Vs (a:Act)(d:Option Tmp)(v:Value):(a.put d v).defers=a.defers:=by cases d<;>rfl
def KGood (P:Program)(ρ:Ren)(H:aF)(w:World)(r:Value×aF)(k:K (Value×aF))(Q:Act->World->Prop):Prop:=
 ∀ρ' t' H' w' a',k t' H'=some r->Step P ρ H w ρ' H' w'->Srs ρ' t' a'.tmps.toList->a'.defers=[]->Q a' w'
theorem KGood.Vp {ρ':Ren}{w':World}{r:Value×aF}{k:K (Value×aF)}{Q:Act->World->Prop}(h:KGood P ρ H w r k Q)(hs:Step P ρ H w ρ' H' w'):KGood P ρ' H' w' r k Q:=
 λρ'' t' H'' w'' a' hk hs' hv hd=>h ρ'' t' H'' w'' a' hk (hs.aES hs') hv hd
def Free (ρ:Ren)(H:aF)(r:Value×aF):Prop:= ∀b,H.length<=b->b<r.2.length->ρ b=none
theorem Free.Kn {ρ':Ren}{w':World}{r:Value×aF}(h:Free ρ H r)(hs:Step P ρ H w ρ' H' w'):Free ρ' H' r:=by
 intro b h1 h2;cases hb:ρ' b with
 |none=>rfl
 |some pl=>
  rcases hs.new b (by rw[hb];simp) with h3|⟨h3,h4⟩
  ·exact absurd (h b (aUt hs.len h1) h2) h3
  ·omega
theorem Vt {O:aH}(hO:uL P O)(hM:pO O)(ops:Array Oper){r:Value×aF}{k:K (Value×aF)}(hk:qQ k r){Q:Exit->Act->World->Prop}:
  ∀(l:List Oper)(i:Nat)(ρ:Ren)(t:cY)(H:aF)(w:World)(a:Act),ops.toList.drop i=l->uJ P O ops.toList l k t H=some r->Rel P ρ (cF H) w->Srs ρ t a.tmps.toList->a.defers=[]->Free ρ H r->
   KGood P ρ H w r k (Q .normal)->wpOps P ops Q (List.range' i l.length) a w
 |[],i,ρ,t,H,w,a,_,h,hr,ht,hd,_,hq=>hq ρ t H w a h (Step.pK hr) ht hd
 |o::l,i,ρ,t,H,w,a,hi,h,hr,ht,hd,hf,hq=>by
  have ho:ops[i]? =some o:=by
   rw[mO];have:=congrArg (λl:List Oper=>l[0]?) hi
   simpa using this
  have hi':ops.toList.drop (i+1)=l:=by
   have:=congrArg List.tail hi;simpa using this
  simp only[uJ] at h
  split at h
  ·cases h
  ·rename_i x hx
   have hlen:=Kl P hM ops.toList l k hk _ _ h;simp only[aUz,List.range'_succ,wpOps,ho];refine Vu hO hr (Looked.Bb ht _) (λb h1 h2=>hf b h1 U) hx λv w' ⟨ρ',hv,hs⟩=> ?_
   refine Vt hO hM ops hk l (i+1) ρ' _ _ w' _ hi' h hs.rel ((ht.aEQ hs.le).aF9 hv o.dst) (by rw[Vs];exact hd) (hf.Kn hs) (hq.Vp hs)
end
theorem Ko {f:Value->Value->Bool}: ∀{xs ys:List Value},(∀x y,f x y=true->x=y)->pJ f xs ys=true->xs=ys
 |[],[],_,_=>rfl
 |[],_::_,_,h=>by simp[pJ] at h
 |_::_,[],_,h=>by simp[pJ] at h
 |x::xs,y::ys,hf,h=>by
  simp only[pJ,aUl] at h;rw[hf x y h.1,Ko hf h.2]
theorem Kp: ∀(n:Nat)(v w:Value),veq n v w=true->v=w
 |0,_,_,h=>by simp[veq] at h
 |n+1,v,w,h=>by
  unfold veq at h
  split at h<;>(try (cases h;done))
  ·simp at h;rw[h]
  ·simp at h;rw[h.1,h.2]
  ·rename_i a b
   simp only[beq_iff_eq] at h;obtain⟨⟨x⟩⟩:=a;obtain⟨⟨y⟩⟩:=b;simp at h;rw[h]
  ·simp at h;rw[h]
  ·simp at h;rw[h.1.1,h.1.2,h.2]
  ·simp at h;rw[h]
  ·rfl
  ·rfl
  ·have:=Ko (λx y=>Kp n x y) h
   rw[Array.ext' this]
  ·have:=Ko (λx y=>Kp n x y) h
   rw[Array.ext' this]
theorem Vv {x:Option (Value×aF)}{v:Value}(h:chk x v=true): ∃G,x=some (v,G):=by
 unfold chk at h
 split at h
 ·rename_i r
  have:=Kp 4 _ _ h
  exact⟨r.2,by rw[this]⟩
 ·cases h
theorem Vw: ∀(l:List Oper)(acc:List Nat),(l.foldl (λacc o=>acc++[pI acc o]) acc).length=acc.length+l.length/\(l.foldl (λacc o=>acc++[pI acc o]) acc).take acc.length=acc/\
  ∀(j:Nat)(o:Oper),l[j]? =some o->(l.foldl (λacc o=>acc++[pI acc o]) acc)[acc.length+j]? =some (pI ((l.foldl (λacc o=>acc++[pI acc o]) acc).take (acc.length+j)) o)
 |[],acc=>⟨by simp,by simp,λj o h=>by simp at h⟩
 |x::l,acc=>by
  obtain⟨h1,h2,h3⟩:=Vw l (acc++[pI acc x]);simp only[List.foldl_cons]
  generalize l.foldl (λacc o=>acc++[pI acc o]) (acc++[pI acc x])=R at h1 h2 h3
  simp only[aUp,aUz,List.length_nil] at h1 h2 h3;have h4:R.take acc.length=acc:=by
   have:=congrArg (List.take acc.length) h2;rw[List.take_take] at this;simpa using this
  refine⟨by simp;omega,h4,λj o hj=> ?_⟩
  cases j with
  |zero=>
   simp at hj;subst hj;simp only[Nat.add_zero];rw[h4];have:=congrArg (λl:List Nat=>l[acc.length]?) h2
   simp only[List.getElem?_take,List.getElem?_append] at this;simpa using this
  |succ j=>
   have:=h3 j o (by simpa using hj)
   rw[show acc.length+(0+1)+j=acc.length+(j+1) by omega] at this
   exact this
theorem aGd {l:List Oper}{i:Nat}{o:Oper}(h:l[i]? =some o):(mK l).getD i 0=pI ((mK l).take i) o:=by
 have:=(Vw l []).2.2 i o h;simp only[List.length_nil,aUy] at this;rw[aUh]
 show((mK l)[i]?).getD 0=_
 rw[show(mK l)[i]? =some (pI ((mK l).take i) o) from this]
 rfl
theorem Vx (acc:List Nat)(j:Nat): ∀(es:List Edge)(s:Nat),(es.foldl (λs e=>if Region.binds .any e then s|||(1<<<e.on)|||acc.getD e.on 0 else s) s).testBit j=true↔
  s.testBit j=true∨ ∃e∈es,Region.binds .any e=true/\(e.on=j∨(acc.getD e.on 0).testBit j=true)
 |[],s=>by simp
 |e::es,s=>by
  simp only[List.foldl_cons];rw[Vx acc j es];by_cases hb:Region.binds .any e=true
  ·rw[if_pos hb]
   simp only[Nat.testBit_or,Bool.or_eq_true,Nat.one_shiftLeft,Nat.testBit_two_pow,decide_eq_true_eq,aUw,exists_eq_or_imp,hb,true_and];constructor
   ·rintro (((h|h)|h)|h)
    ·exact .inl h
    ·exact .inr (.inl (.inl h))
    ·exact .inr (.inl (.inr h))
    ·exact .inr (.inr h)
   ·rintro (h|(h|h)|h)
    ·exact .inl (.inl (.inl h))
    ·exact .inl (.inl (.inr h))
    ·exact .inl (.inr h)
    ·exact .inr h
  ·rw[if_neg hb]
   simp[hb]
theorem aGe {l:List Oper}{i:Nat}{o:Oper}(h:l[i]? =some o)(hlt: ∀e∈o.after.toList,Region.binds .any e=true->e.on<i)(j:Nat)(hj:((mK l).getD i 0).testBit j=true):
  ∃e∈o.after.toList,Region.binds .any e=true/\(e.on=j∨((mK l).getD e.on 0).testBit j=true):=by
 rw[aGd h] at hj;unfold pI at hj;rw[Vx] at hj;rcases hj with hj|⟨e,he,hb,hj⟩
 ·simp at hj
 ·refine⟨e,he,hb,?_⟩
  rcases hj with hj|hj
  ·exact .inl hj
  ·right
   rw[aUh,List.getElem?_take,if_pos (hlt e he hb),<-aUh] at hj;exact hj
def Fixed (m:M Value)(H:aF)(v:Value):Prop:= ∀G:aF,m G=some (v,G)
def y6 (m:M Value)(H:aF)(v:Value):Prop:= ∀G:aF,(∀(b:Nat)(x:Blk),H[b]? =some x->G[b]? =some x)->m G=some (v,G)
def aGb (m:M Value)(H:aF)(v:Value)(H':aF):Prop:= ∃x:Blk,wr (some x)=true/\H'=H++[x]/\ ∀G:aF,G.length=H.length->m G=some (v,G++[x])
theorem aGc {x:Option Value}{H H':aF}{v:Value}(h:aP x H=some (v,H')):H'=H/\Fixed (aP x) H v:=by
 obtain⟨rfl,rfl⟩:=j8 h
 exact⟨rfl,λG=>rfl⟩
theorem Vz {sz:Nat}{g:Bool}{a v:Value}{H H':aF}(h:(if g=true then ldN sz a else ld1 a) H=some (v,H')):H'=H/\y6 (if g=true then ldN sz a else ld1 a) H v:=by
 cases g with
 |true=>
  simp only[if_true] at h⊢;obtain⟨rfl,b,o,cs,e,k,rfl,hb,hn,rfl⟩:=J2 h
  exact⟨rfl,λG hG=>by simp[ldN,hG b _ hb,hn]⟩
 |false=>
  simp only[Bool.false_eq_true,if_false] at h⊢;obtain⟨rfl,b,o,cs,e,k,rfl,hb,hx⟩:=J1 h
  exact⟨rfl,λG hG=>by simp[ld1,hG b _ hb,hx]⟩
theorem aGq {a v:Value}{H H':aF}(h:oN a H=some (v,H')):H'=H/\y6 (oN a) H v:=by
 unfold oN at h
 split at h
 ·injection h with h;injection h with h1 h2;subst h1;subst h2
  exact⟨rfl,λG hG=>rfl⟩
 ·rename_i b o n c
  split at h
  ·rename_i h0
   injection h with h;injection h with h1 h2;subst h1;subst h2;subst h0
   exact⟨rfl,λG hG=>by simp[oN]⟩
  rename_i h0
  split at h
  ·rename_i cs e k hb
   split at h
   ·rename_i hl
    split at h
    ·rename_i bs hbs
     injection h with h;injection h with h1 h2;subst h1;subst h2
     exact⟨rfl,λG hG=>by simp[oN,hG b _ hb,hl,hbs,h0]⟩
    ·cases h
   ·cases h
  ·cases h
 ·cases h
theorem aGo {P:Program}{sz:Nat}{a v:Value}{lo hi mx:Option Value}{H H':aF}(h:slc P sz a lo hi mx H=some (v,H')):H'=H/\y6 (slc P sz a lo hi mx) H v:=by
 unfold slc at h
 split at h
 ·split at h
  ·rename_i e1 e2 e3
   injection h with h;injection h with h1 h2;subst h1;subst h2
   exact⟨rfl,λG hG=>by simp[slc,e1,e2,e3]⟩
  ·cases h
 ·rename_i b o n c
  split at h
  ·rename_i cs e k hb
   split at h
   ·rename_i l h' m e1 e2 e3
    split at h
    ·rename_i hc
     injection h with h;injection h with h1 h2;subst h1;subst h2;refine⟨rfl,λG hG=> ?_⟩
     simp only[slc,hG b _ hb,e1,e2,e3];rw[if_pos hc]
    ·cases h
   ·cases h
  ·cases h
 ·cases h
theorem aGp {n sz:Nat}{a v:Value}{lo hi:Option Value}{H H':aF}(h:pG n sz a lo hi H=some (v,H')):H'=H/\y6 (pG n sz a lo hi) H v:=by
 unfold pG at h
 split at h
 ·rename_i b o
  split at h
  ·rename_i cs e k hb
   split at h
   ·rename_i l h' e1 e2
    split at h
    ·rename_i hc
     injection h with h;injection h with h1 h2;subst h1;subst h2;refine⟨rfl,λG hG=> ?_⟩
     simp only[pG,hG b _ hb,e1,e2];rw[if_pos hc]
    ·cases h
   ·cases h
  ·cases h
 ·cases h
theorem Fixed.aGa {m:M Value}{H:aF}{v:Value}(h:Fixed m H v):y6 m H v:=λG _=>h G
def nV (look:Bool)(m:M Value):Prop:= ∀H v H',m H=some (v,H')->H'=H/\y6 m H v/\(look=false->Fixed m H v)
theorem pP (l:Bool):nV l cH:=λH v H' h=>by cases h
theorem y7 (l:Bool)(x:Option Value):nV l (aP x):=λH v H' h=>by
 obtain⟨h1,h2⟩:=aGc h;exact⟨h1,h2.aGa,λ_=>h2⟩
theorem y8 (l:Bool)(x:Value):nV l (aX x):=λH v H' h=>by
 injection h with h;injection h with h1 h2;subst h1;subst h2;exact⟨rfl,λG _=>rfl,λ_ G=>rfl⟩
theorem aGg (a:Value):nV true (ld1 a):=λH v H' h=>by
 obtain⟨h1,h2⟩:=Vz (g:=false) (sz:=0) h;exact⟨h1,h2,λh=>by cases h⟩
theorem aGh (n:Nat)(a:Value):nV true (ldN n a):=λH v H' h=>by
 obtain⟨h1,h2⟩:=Vz (g:=true) (sz:=n) h;exact⟨h1,h2,λh=>by cases h⟩
theorem aGn (a:Value):nV true (oN a):=λH v H' h=>by
 obtain⟨h1,h2⟩:=aGq h;exact⟨h1,h2,λh=>by cases h⟩
theorem aGk (P:Program)(sz:Nat)(a:Value)(lo hi mx:Option Value):nV true (slc P sz a lo hi mx):=λH v H' h=>by
 obtain⟨h1,h2⟩:=aGo h;exact⟨h1,h2,λh=>by cases h⟩
theorem aGl (n sz:Nat)(a:Value)(lo hi:Option Value):nV true (pG n sz a lo hi):=λH v H' h=>by
 obtain⟨h1,h2⟩:=aGp h;exact⟨h1,h2,λh=>by cases h⟩
theorem aGj (kt:KeyT)(z:Value)(ok:Bool)(m k:Value):nV true (jE kt z ok m k):=λH v H' h=>by
 unfold jE at h
 split at h
 ·rename_i hk
  split at h
  ·injection h with h;injection h with h1 h2;subst h1;subst h2
   exact⟨rfl,λG _=>by simp[jE,hk],λh=>by cases h⟩
  ·rename_i b
   split at h
   ·rename_i es c hb
    split at h
    ·cases h
    ·rename_i hf
     injection h with h;injection h with h1 h2;subst h1;subst h2
     exact⟨rfl,λG hG=>by simp[jE,hk,hG b _ hb,hf],λh=>by cases h⟩
    ·rename_i hf
     injection h with h;injection h with h1 h2;subst h1;subst h2
     exact⟨rfl,λG hG=>by simp[jE,hk,hG b _ hb,hf],λh=>by cases h⟩
   ·cases h
  ·cases h
 ·cases h
theorem aGi (m:Value):nV true (oM m):=λH v H' h=>by
 unfold oM at h
 split at h
 ·injection h with h;injection h with h1 h2;subst h1;subst h2
  exact⟨rfl,λG _=>rfl,λh=>by cases h⟩
 ·rename_i b
  split at h
  ·rename_i es c hb
   injection h with h;injection h with h1 h2;subst h1;subst h2
   exact⟨rfl,λG hG=>by simp[oM,hG b _ hb],λh=>by cases h⟩
  ·cases h
 ·cases h
theorem aGm (P:Program)(t:TypeId)(x:Value)(lo hi mx:Option Value):nV true (tD P t x lo hi mx):=by
 unfold tD
 repeat' split
 all_goals first|exact pP _|(apply y7;done)|(apply aGk;done)|(apply aGl;done)
theorem aGf (P:Program)(s d:TypeId)(v:Value):nV (Dk P s) (cK P s d v):=by
 unfold cK;split
 ·split
  ·exact y8 _ _
  ·exact pP _
 ·split
  ·exact y8 _ _
  ·exact pP _
 ·rename_i e hs _
  have:Dk P s=true:=by simp[Dk,hs]
  rw[this];split
  ·exact aGn _
  ·exact pP _
 ·exact pP _
theorem Vy (P:Program)(O:aH)(t:cY)(o:Oper)(he:dH o.op=false)(hn:oP o.op=false):nV (oO P o.op) (aOp P O t o):=by
 obtain⟨dst,op,ty0,pos,after,guard⟩:=o;cases op
 case call c=>
  obtain⟨callee,args,ts⟩:=c;cases callee with
  |value f=>simp[dH] at he
  |invoke r m=>
   simp only[aOp]
   split<;>exact pP _
  |builtin b=>
   simp only[aOp];split
   ·exact pP _
   ·rename_i vs _
    cases b<;>simp[dH] at he
    ·cases vs with
     |nil=>exact pP _
     |cons x vs=>
      cases vs with
      |nil=>
       simp only[rK];split
       ·apply y7
       ·apply y7
       ·unfold uG
        split
        ·rename_i p hu
         have:oO P (.call {callee:= .builtin .len,args:=args,argTypes:=ts})=true:=by
          simp only[oO,Uq];cases h0:ts.toList[0]? with
          |none=>simp[h0] at hu
          |some t0=>
           simp[h0] at hu;simp[yX hu]
         rw[this];apply aGi
        ·exact pP _
      |cons y vs=>exact pP _
    ·exact y7 _ _
    ·exact y7 _ _
 all_goals simp only[dH,oP,Bool.true_eq_false,Bool.false_eq_true,reduceCtorEq] at he hn
 all_goals simp only[aOp,oO]
 all_goals (repeat' split)
 all_goals first
  |exact pP _|(apply y7;done)|(apply y8;done)|(apply aGh;done)|(apply aGg;done)|(apply aGf;done)|(apply aGm;done)|(apply aGj;done)|skip
def uN (m:M Value):Prop:= ∀H v H',m H=some (v,H')->aGb m H v H'∨(H'=H/\Fixed m H v)
theorem V3:uN cH:=λH v H' h=>by cases h
theorem Kr (x:Value):uN (aX x):=λH v H' h=>by
 injection h with h;injection h with h1 h2;subst h1;subst h2;exact .inr ⟨rfl,λG=>rfl⟩
theorem aGv (e:TypeId)(cs:List Value)(k:Kind)(hk:k≠ .ro):uN (aZ e cs k):=λH v H' h=>by
 simp only[aZ] at h;injection h with h;injection h with h1 h2;subst h1;subst h2;exact .inl ⟨.cells cs e k,by simpa[wr] using hk,rfl,λG hG=>by simp[aZ,hG]⟩
theorem aGw:uN lV:=λH v H' h=>by
 simp only[lV] at h;injection h with h;injection h with h1 h2;subst h1;subst h2;exact .inl ⟨.map [] 0,rfl,rfl,λG hG=>by simp[lV,hG]⟩
theorem aGu (e:TypeId)(sz by':Nat)(z:List Value)(n c:Value):uN (gU e sz by' z n c):=λH v H' h=>by
 unfold gU at h
 split at h
 ·split at h
  ·rename_i hc
   injection h with h;injection h with h1 h2;subst h1;subst h2;refine .inl ⟨_,by simp[wr],rfl,λG hG=> ?_⟩
   simp only[gU,if_pos hc,hG]
  ·cases h
 ·cases h
theorem aGt (e:TypeId)(sz n:Nat)(z:List Value)(ps:List (Nat×Value)):uN (b9 e sz n z ps):=λH v H' h=>by
 unfold b9 at h
 split at h
 ·rename_i cs hc
  injection h with h;injection h with h1 h2;subst h1;subst h2;refine .inl ⟨_,by simp[wr],rfl,λG hG=> ?_⟩
  simp only[b9,hc,hG]
 ·cases h
theorem V2 (P:Program)(O:aH)(t:cY)(o:Oper)(hn:oP o.op=true):uN (aOp P O t o):=by
 obtain⟨dst,op,ty0,pos,after,guard⟩:=o;cases op<;>simp only[oP,Bool.false_eq_true] at hn<;>simp only[aOp]
 all_goals (repeat' split)
 all_goals first|exact V3|(apply aGv;simp;done)|(apply aGu;done)|(apply aGt;done)|exact aGw
theorem V5 (P:Program)(O:aH)(ops:List Oper)(t:cY)(o:Oper)(he:dH o.op=false)(hn:oP o.op=false):nV (oO P o.op) (fN P O ops t o):=by
 unfold fN;split
 ·exact Vy P O t o he hn
 ·split
  ·split
   ·unfold gd
    split
    ·split
     ·exact Vy P O t o he hn
     ·exact y8 _ _
    ·exact y8 _ _
   ·exact pP _
  ·exact y8 _ _
theorem V4 (P:Program)(O:aH)(ops:List Oper)(t:cY)(o:Oper)(hn:oP o.op=true):uN (fN P O ops t o):=by
 unfold fN;split
 ·exact V2 P O t o hn
 ·split
  ·split
   ·unfold gd
    split
    ·split
     ·exact V2 P O t o hn
     ·exact Kr _
    ·exact Kr _
   ·exact V3
  ·exact Kr _
theorem V1 {op:Op}(h:oP op=true):dH op=false:=by cases op<;>simp_all [oP,dH]
structure Trace (P:Program)(O:aH)(ops:List Oper)(ms:List Nat)(l:List Oper)(i:Nat)(rs:List Rd)(es:List Ef)(t:cY)(H:aF)(T:Nat->cY)(HH:Nat->aF)(V:Nat->Value):Prop where
 t0:T 0=t
 h0:HH 0=H
 st: ∀(j:Nat)(o:Oper),l[j]? =some o->fN P O ops (T j) o (HH j)=some (V j,HH (j+1))/\T (j+1)=qP (T j) o.dst (V j)
 rs: ∀(j:Nat)(o:Oper),l[j]? =some o->dH o.op=true-> ∀q∈rs,(ms.getD (i+j) 0).testBit q.i=true∨chk (fN P O ops q.t q.o (HH (j+1))) q.v=true
 es: ∀(j:Nat)(o:Oper),l[j]? =some o->dH o.op=false->oO P o.op=true-> ∀e∈es,(ms.getD (i+j) 0).testBit e.i=true∨chk (fN P O ops (T j) o e.h) (V j)=true
 le: ∀(j:Nat)(o:Oper),l[j]? =some o->dH o.op=true-> ∀(j':Nat)(o':Oper),j'<j->l[j']? =some o'->dH o'.op=false->oO P o'.op=true->
  (ms.getD (i+j) 0).testBit (i+j')=true∨chk (fN P O ops (T j') o' (HH (j+1))) (V j')=true
 el: ∀(j:Nat)(o:Oper),l[j]? =some o->dH o.op=false->oO P o.op=true-> ∀(j':Nat)(o':Oper),j'<j->l[j']? =some o'->dH o'.op=true->
  (ms.getD (i+j) 0).testBit (i+j')=true∨chk (fN P O ops (T j) o (HH j')) (V j)=true
def y9 {α:Type}(x:α)(f:Nat->α):Nat->α
 |0=>x
 |n+1=>f n
theorem V6 {P:Program}{O:aH}{ops:List Oper}{ms:List Nat}{r:Value×aF}{k:K (Value×aF)}: ∀(l:List Oper)(i:Nat)(rs:List Rd)(es:List Ef)(t:cY)(H:aF),
  oQ P O ops ms l i rs es k t H=some r-> ∃T HH V,Trace P O ops ms l i rs es t H T HH V/\k (T l.length) (HH l.length)=some r
 |[],i,rs,es,t,H,h=>⟨λ_=>t,λ_=>H,λ_=>undef,⟨rfl,rfl,by simp,by simp,by simp,by simp,by simp⟩,h⟩
 |o::l,i,rs,es,t,H,h=>by
  simp only[oQ] at h
  split at h
  ·cases h
  ·rename_i x hx
   have key: ∀(rs':List Rd)(es':List Ef),(∀q∈rs,q∈rs')->(∀e∈es,e∈es')->(dH o.op=true->(⟨i,H⟩:Ef)∈es')->(dH o.op=false->oO P o.op=true->(⟨i,o,t,x.1⟩:Rd)∈rs')->
     (dH o.op=true-> ∀q∈rs,(ms.getD i 0).testBit q.i=true∨chk (fN P O ops q.t q.o x.2) q.v=true)->
     (dH o.op=false->oO P o.op=true-> ∀e∈es,(ms.getD i 0).testBit e.i=true∨chk (fN P O ops t o e.h) x.1=true)->
     oQ P O ops ms l (i+1) rs' es' k (qP t o.dst x.1) x.2=some r-> ∃T HH V,Trace P O ops ms (o::l) i rs es t H T HH V/\k (T (o::l).length) (HH (o::l).length)=some r:=by
    intro rs' es' hrs hes hef hrd hc1 hc2 h';obtain⟨T,HH,V,tr,hk⟩:=V6 l (i+1) rs' es' _ _ h';refine⟨y9 t T,y9 H HH,y9 x.1 V,⟨rfl,rfl,?_,?_,?_,?_,?_⟩,hk⟩
    ·intro j o' hj
     cases j with
     |zero=>simp at hj;subst hj;exact⟨by simp only[y9];rw[tr.h0];exact hx,by simp only[y9];exact tr.t0⟩
     |succ j=>exact tr.st j o' (by simpa using hj)
    ·intro j o' hj he q hq
     cases j with
     |zero=>simp at hj;subst hj;simp only[y9];rw[tr.h0];exact hc1 he q hq
     |succ j=>have:=tr.rs j o' (by simpa using hj) he q (hrs q hq);rw[show i+1+j=i+(j+1) by omega] at this;exact this
    ·intro j o' hj he hl e hee
     cases j with
     |zero=>simp at hj;subst hj;exact hc2 he hl e hee
     |succ j=>have:=tr.es j o' (by simpa using hj) he hl e (hes e hee);rw[show i+1+j=i+(j+1) by omega] at this;exact this
    ·intro j o' hj he j' o'' hlt hj' he' hl'
     cases j with
     |zero=>omega
     |succ j=>
      cases j' with
      |zero=>
       simp at hj';subst hj';have:=tr.rs j o' (by simpa using hj) he _ (hrd he' hl')
       rw[show i+1+j=i+(j+1) by omega] at this;exact this
      |succ j'=>
       have:=tr.le j o' (by simpa using hj) he j' o'' U (by simpa using hj') he' hl'
       rw[show i+1+j=i+(j+1) by omega,show i+1+j'=i+(j'+1) by omega] at this;exact this
    ·intro j o' hj he hl j' o'' hlt hj' he'
     cases j with
     |zero=>omega
     |succ j=>
      cases j' with
      |zero=>
       simp at hj';subst hj';have:=tr.es j o' (by simpa using hj) he hl _ (hef he')
       rw[show i+1+j=i+(j+1) by omega] at this;exact this
      |succ j'=>
       have:=tr.el j o' (by simpa using hj) he hl j' o'' U (by simpa using hj') he'
       rw[show i+1+j=i+(j+1) by omega,show i+1+j'=i+(j'+1) by omega] at this;exact this
   split at h
   ·rename_i he
    split at h
    ·rename_i hc
     simp only[aUS,Bool.or_eq_true] at hc;exact key rs _ (λ_ h=>h) (λ_ h=>aUu _ h) (λ_=>aUm ..) (λh0=>by rw[he] at h0;cases h0) (λ_=>hc) (λh0=>by rw[he] at h0;cases h0) h
    ·cases h
   ·rename_i he
    have he':dH o.op=false:=by simpa using he
    split at h
    ·rename_i hl
     split at h
     ·rename_i hc
      simp only[aUS,Bool.or_eq_true] at hc;exact key _ es (λ_ h=>aUu _ h) (λ_ h=>h) (λh0=>by rw[he'] at h0;cases h0) (λ_ _=>aUm ..) (λh0=>by rw[he'] at h0;cases h0) (λ_ _=>hc) h
     ·cases h
    ·rename_i hl
     exact key rs es (λ_ h=>h) (λ_ h=>h) (λh0=>by rw[he'] at h0;cases h0) (λ_ h0=>absurd h0 hl) (λh0=>by rw[he'] at h0;cases h0) (λ_ h0=>absurd h0 hl) h
structure StepN (P:Program)(W N:Nat->Prop)(ρ:Ren)(G:Nat->Option Blk)(w:World)(ρ':Ren)(G':Nat->Option Blk)(w':World):Prop where
 rel:Rel P ρ' G' w'
 le:ρ.jH ρ'
 sub: ∀b,N b->W b
 new: ∀b:Nat,ρ' b≠none->ρ b≠none∨N b
 size:w.heap.size<=w'.heap.size
 frame: ∀c:Nat,c<w.heap.size->(∀(b:Nat)(pl:Pl),ρ b=some pl->wr (G b)=true->pl.c≠c)->w'.heap[c]? =w.heap[c]?
 un: ∀b:Nat,¬W b->ρ b=none->G' b=G b
 dead: ∀b:Nat,¬W b->G b=some .dead->G' b=some .dead
 kd: ∀b:Nat,¬W b->wr (G' b)=true->wr (G b)=true
 fresh: ∀(b:Nat)(pl:Pl),ρ b=none->ρ' b=some pl->w.heap.size<=pl.c∨ ∃b0 p0,ρ b0=some p0/\wr (G b0)=true/\p0.c=pl.c
 os:w'.os=w.os
 tape:w'.tape=w.tape
 output:w'.output=w.output
theorem StepN.aGs {P:Program}{W N1 N2:Nat->Prop}{ρ ρ' ρ'':Ren}{G G' G'':Nat->Option Blk}{w w' w'':World}(hW: ∀b,W b->ρ b=none)
  (h:StepN P W N1 ρ G w ρ' G' w')(h':StepN P W N2 ρ' G' w' ρ'' G'' w'')(kd2: ∀b pl,ρ b=some pl->wr (G' b)=true->wr (G b)=true):StepN P W (λb=>N1 b∨N2 b) ρ G w ρ'' G'' w'' where
 rel:=h'.rel
 le:=Ren.Dm h.le h'.le
 sub:=λb hb=>hb.elim (h.sub b) (h'.sub b)
 new:=λb hb=>by
  rcases h'.new b hb with h1|h1
  ·rcases h.new b h1 with h2|h2
   ·exact .inl h2
   ·exact .inr (.inl h2)
  ·exact .inr (.inr h1)
 size:=aUt h.size h'.size
 frame:=λc hc hf=>by
  have h1:=h.frame c hc hf;rw[h'.frame c (aUs hc h.size) ?_,h1];intro b pl hb hw;cases hρ:ρ b with
  |some pl0=>
   have:=h.le b pl0 hρ;rw[hb] at this;injection this with e;subst e;exact hf b pl hρ (kd2 b pl hρ hw)
  |none=>
   rcases h.fresh b pl hρ hb with hge|⟨b0,p0,h3,h4,h5⟩
   ·omega
   ·rw[<-h5];exact hf b0 p0 h3 h4
 un:=λb hb hn=>by
  have hn':ρ' b=none:=by
   cases hρ:ρ' b with
   |none=>rfl
   |some pl=>
    rcases h.new b (by simp[hρ]) with h1|h1
    ·exact absurd hn h1
    ·exact absurd (h.sub b h1) hb
  rw[h'.un b hb hn',h.un b hb hn]
 dead:=λb hb hd=>h'.dead b hb (h.dead b hb hd)
 kd:=λb hb hw=>h.kd b hb (h'.kd b hb hw)
 fresh:=λb pl hn hb=>by
  cases hρ:ρ' b with
  |some pl0=>
   have:=h'.le b pl0 hρ;rw[hb] at this;injection this with e;subst e;exact h.fresh b pl hn hρ
  |none=>
   rcases h'.fresh b pl hρ hb with hge|⟨b0,p0,h3,h4,h5⟩
   ·exact .inl (aUt h.size hge)
   ·cases h0:ρ b0 with
    |some p1=>
     have:=h.le b0 p1 h0;rw[h3] at this;injection this with e;subst e;exact .inr ⟨b0,p0,h0,kd2 b0 p0 h0 h4,h5⟩
    |none=>
     rw[<-h5];exact h.fresh b0 p0 h0 h3
 os:=h'.os.trans h.os
 tape:=h'.tape.trans h.tape
 output:=h'.output.trans h.output
def eJ (ini:Nat->Option Blk)(C:aF):Nat->Option Blk:=λb=>if b<C.length then C[b]? else ini b
def Kq (ini:Nat->Option Blk):Prop:= ∀b x,ini b=some x->wr (some x)=true
theorem fU {ini:Nat->Option Blk}{C:aF}{b:Nat}(h:b<C.length):eJ ini C b=C[b]? :=by simp[eJ,h]
theorem iC {ini:Nat->Option Blk}{C:aF}{b:Nat}(h: ¬b<C.length):eJ ini C b=ini b:=by simp[eJ,h]
theorem Rel.aGr {P:Program}{ρ:Ren}{ini:Nat->Option Blk}{C:aF}{w:World}(hi:Kq ini)(h:Rel P ρ (eJ ini C) w):Rel P ρ (cF C) w:=by
 refine⟨h.lt,λb pl x hb hx=> ?_,λb1 b2 p1 p2 hne h1 h2 hw hd=> ?_,λg hg=>⟨(h.tab g hg).1,λb pl hb hw=>(h.tab g hg).2 b pl hb (by
  obtain⟨x,hx,_⟩:=vZ hw;rw[fU (nD hx)];exact hw)⟩⟩
 ·have hlt:=nD hx
  exact h.blk b pl x hb (by rw[fU hlt];exact hx)
 ·obtain⟨x,hx,_⟩:=vZ hw
  have hlt:=nD hx;refine h.sep b1 b2 p1 p2 hne h1 h2 (by rw[fU hlt];exact hw) ?_
  by_cases h2':b2<C.length
  ·rw[fU h2'];exact hd
  ·rw[iC h2']
   intro e;have:=hi b2 _ e;cases this
theorem Step.V0 {P:Program}{W:Nat->Prop}{ρ ρ':Ren}{ini:Nat->Option Blk}{C C':aF}{w w':World}(hi:Kq ini)(hr:Rel P ρ (eJ ini C) w)(h:Step P ρ C w ρ' C' w')
  (hW: ∀b,C.length<=b->b<C'.length->W b):StepN P W (λb=>C.length<=b/\b<C'.length) ρ (eJ ini C) w ρ' (eJ ini C') w':=by
 have wrC: ∀b,wr C[b]? =true->wr (eJ ini C b)=true:=by
  intro b hb;obtain⟨x,hx,_⟩:=vZ hb;rw[fU (nD hx)];exact hb
 have iniwr: ∀b x,ini b=some x->wr (ini b)=true:=by
  intro b x hx;rw[hx];exact hi b x hx
 have inind: ∀b,ini b≠some .dead:=by
  intro b e;have:=hi b _ e;cases this
 have pend: ∀b p,¬b<C'.length->ρ' b=some p->ρ b=some p:=by
  intro b p hb hp;cases hρ:ρ b with
  |some p0=>have:=h.le b p0 hρ;rw[hp] at this;exact this.symm▸rfl
  |none=>
   rcases h.new b (by rw[hp];simp) with h1|⟨_,h2⟩
   ·exact absurd hρ h1
   ·exact absurd h2 hb
 have geC: ∀b,¬b<C'.length-> ¬b<C.length:=λb hb hc=>hb (aUs hc h.len)
 have apart: ∀b1 b2 p1 p2,¬b1<C'.length->b2<C'.length->ρ' b1=some p1->ρ' b2=some p2->ini b1≠none->C'[b2]? ≠some .dead->p1.c≠p2.c:=by
  intro b1 b2 p1 p2 hb1 hb2 h1 h2 hini hd;have hρ1:=pend b1 p1 hb1 h1;obtain⟨x1,hx1⟩:=Option.ne_none_iff_exists'.1 hini;have hg1:eJ ini C b1=ini b1:=iC (geC b1 hb1);cases hρ2:ρ b2 with
  |some p20=>
   have:=h.le b2 p20 hρ2;rw[h2] at this;injection this with e;subst e;refine hr.sep b1 b2 p1 p2 U hρ1 hρ2 (by rw[hg1];exact iniwr b1 x1 hx1) ?_
   by_cases hc:b2<C.length
   ·rw[fU hc];intro hdd;exact hd (h.dead b2 hdd)
   ·rw[iC hc];exact inind b2
  |none=>
   rcases h.fresh b2 p2 hρ2 h2 with hge|⟨b0,p0,h3,h4,h5⟩
   ·have:=hr.lt b1 p1 hρ1;omega
   ·rw[<-h5]
    have hne:b0≠b1:=by
     rintro rfl
     obtain⟨x,hx,_⟩:=vZ h4;exact geC b0 hb1 (nD hx)
    exact λe=>hr.sep b0 b1 p0 p1 hne h3 hρ1 (wrC b0 h4) (by rw[hg1];exact inind b1) e.symm
 have htb:Tab P ρ' (eJ ini C') w':=λg hg=>⟨(h.rel.tab g hg).1,λb pl hb hw=>by
  by_cases hl:b<C'.length
  ·rw[fU hl] at hw
   exact(h.rel.tab g hg).2 b pl hb hw
  ·rw[iC hl] at hw
   exact(hr.tab g hg).2 b pl (pend b pl hl hb) (by rw[iC (geC b hl)];exact hw)⟩
 refine⟨⟨h.rel.lt,?_,?_,htb⟩,h.le,λb hb=>hW b hb.1 hb.2,h.new,h.size,?_,?_,?_,?_,?_,h.os,h.tape,h.output⟩
 ·intro b p x hp hx
  by_cases hb:b<C'.length
  ·rw[fU hb] at hx;exact h.rel.blk b p x hp hx
  ·rw[iC hb] at hx
   have hρ:=pend b p hb hp;have hg:eJ ini C b=some x:=by rw[iC (geC b hb)];exact hx
   have hB:=hr.blk b p x hρ hg;rw[h.frame p.c (hr.lt b p hρ) ?_]
   ·exact hB.Az h.le
   ·intro b0 p0 h0 hw0
    have hne:b0≠b:=by
     rintro rfl
     obtain⟨y,hy,_⟩:=vZ hw0;exact geC b0 hb (nD hy)
    exact hr.sep b0 b p0 p hne h0 hρ (wrC b0 hw0) (by rw[hg];intro h;have:=hi b x hx;cases h;cases this)
 ·intro b1 b2 p1 p2 hne h1 h2 hw hd
  by_cases hb1:b1<C'.length
  ·rw[fU hb1] at hw
   by_cases hb2:b2<C'.length
   ·rw[fU hb2] at hd;exact h.rel.sep b1 b2 p1 p2 hne h1 h2 hw hd
   ·exact h.rel.sep b1 b2 p1 p2 hne h1 h2 hw (by simp only[cF];rw[aUo U];simp)
  ·rw[iC hb1] at hw
   have hini:ini b1≠none:=by intro e;rw[e] at hw;simp[wr] at hw
   by_cases hb2:b2<C'.length
   ·rw[fU hb2] at hd;exact apart b1 b2 p1 p2 hb1 hb2 h1 h2 hini hd
   ·refine hr.sep b1 b2 p1 p2 hne (pend b1 p1 hb1 h1) (pend b2 p2 hb2 h2) (by rw[iC (geC b1 hb1)];exact hw) (by rw[iC (geC b2 hb2)];exact inind b2)
 ·intro c hc hf
  exact h.frame c hc λb p hb hw=>hf b p hb (wrC b hw)
 ·intro b hb hn
  by_cases h1:b<C.length
  ·rw[fU h1,fU (aUs h1 h.len)];exact h.un b h1 hn
  ·by_cases h2:b<C'.length
   ·exact absurd (hW b U h2) hb
   ·rw[iC h1,iC h2]
 ·intro b hb hd
  by_cases h1:b<C.length
  ·rw[fU h1] at hd
   rw[fU (aUs h1 h.len)];exact h.dead b hd
  ·rw[iC h1] at hd;exact absurd hd (inind b)
 ·intro b hb hw
  by_cases h1:b<C.length
  ·rw[fU (aUs h1 h.len)] at hw
   rw[fU h1];exact h.kd b h1 hw
  ·by_cases h2:b<C'.length
   ·exact absurd (hW b U h2) hb
   ·rw[iC h2] at hw;rw[iC h1];exact hw
 ·intro b p hn hp
  rcases h.fresh b p hn hp with h1|⟨b0,p0,h3,h4,h5⟩
  ·exact .inl h1
  ·exact .inr ⟨b0,p0,h3,wrC b0 h4,h5⟩
theorem Step.aGx {P:Program}{W:Nat->Prop}{ρ ρ':Ren}{G:Nat->Option Blk}{m:Nat}{x:Blk}{w w':World}(hr:Rel P ρ G w)
  (h:Step P ρ (List.replicate m .dead) w ρ' (List.replicate m .dead++[x]) w')(hG:G m=some x)(hW:W m):StepN P W (λb=>b=m) ρ G w ρ' G w':=by
 have nowr: ∀b:Nat,wr (List.replicate m Blk.dead)[b]? =false:=by
  intro b;rw[aUU]
  split<;>rfl
 have old: ∀b p,b≠m->ρ' b=some p->ρ b=some p:=by
  intro b p hne hp;cases hρ:ρ b with
  |some p0=>have:=h.le b p0 hρ;rw[hp] at this;exact this.symm▸rfl
  |none=>
   rcases h.new b (by rw[hp];simp) with h1|⟨h1,h2⟩
   ·exact absurd hρ h1
   ·simp at h1 h2;omega
 have same: ∀c,c<w.heap.size->w'.heap[c]? =w.heap[c]? :=λc hc=>h.frame c hc λb p _ hw=>by rw[nowr] at hw;cases hw
 have hfree:ρ m=none:=h.free m (by simp) (by simp)
 have new: ∀p,ρ' m=some p->w.heap.size<=p.c:=by
  intro p hp;rcases h.fresh m p hfree hp with h1|⟨b0,p0,_,h4,_⟩
  ·exact h1
  ·rw[nowr] at h4;cases h4
 have htb:Tab P ρ' G w':=hr.tab.Do (λc hc _=>same c hc) λb p hb hw=>by
  by_cases hbm:b=m
  ·subst hbm
   exact .inl (new p hb)
  ·exact .inr ⟨b,p,old b p hbm hb,hw,rfl⟩
 refine⟨⟨h.rel.lt,?_,?_,htb⟩,h.le,?_,?_,h.size,λc hc _=>same c hc,λ_ _ _=>rfl,λ_ _ h=>h,λ_ _ h=>h,?_,h.os,h.tape,h.output⟩
 ·intro b p y hp hy
  by_cases hb:b=m
  ·subst hb
   rw[hG] at hy;injection hy with hy;subst hy;exact h.rel.blk b p x hp (by simp[cF])
  ·have hρ:=old b p hb hp
   rw[same _ (hr.lt b p hρ)]
   exact(hr.blk b p y hρ hy).Az h.le
 ·intro b1 b2 p1 p2 hne h1 h2 hw hd
  by_cases e1:b1=m
  ·have e2:b2≠m:=λe=>hne (e1.trans e.symm)
   subst e1;have:=new p1 h1;have:=hr.lt b2 p2 (old b2 p2 e2 h2);omega
  ·by_cases e2:b2=m
   ·subst e2
    have:=new p2 h2;have:=hr.lt b1 p1 (old b1 p1 e1 h1);omega
   ·exact hr.sep b1 b2 p1 p2 hne (old b1 p1 e1 h1) (old b2 p2 e2 h2) hw hd
 ·rintro b rfl;exact hW
 ·intro b hb
  rcases h.new b hb with h1|⟨h1,h2⟩
  ·exact .inl h1
  ·right;simp at h1 h2;omega
 ·intro b p hn hp
  by_cases hb:b=m
  ·subst hb;exact .inl (new p hp)
  ·rw[old b p hb hp] at hn;cases hn
theorem aGz {P:Program}{ρ:Ren}{G:Nat->Option Blk}{w:World}(h:Rel P ρ G w)(m:Nat):Rel P ρ (cF (List.replicate m .dead)) w:=by
 have nowr: ∀b:Nat,(List.replicate m Blk.dead)[b]? =none∨(List.replicate m Blk.dead)[b]? =some .dead:=by
  intro b;rw[aUU]
  split<;>simp
 refine⟨h.lt,λb p x hp hx=> ?_,λb1 b2 p1 p2 _ _ _ hw _=> ?_,λg hg=>⟨(h.tab g hg).1,λb pl _ hw=> ?_⟩⟩
 rotate_left 2
 ·rcases nowr b with e|e<;>simp only[cF] at hw<;>rw[e] at hw<;>simp[wr] at hw
 ·rcases nowr b with e|e<;>simp only[cF] at hx<;>rw[e] at hx<;>cases hx
  trivial
 ·rcases nowr b1 with e|e<;>simp only[cF] at hw<;>rw[e] at hw<;>simp[wr] at hw
theorem Eb (p:Nat->Prop): ∀n,(∃j,j<n/\p j)-> ∃j,j<n/\p j/\ ∀j',j<j'->j'<n-> ¬p j'
 |0,⟨j,h,_⟩=>by omega
 |n+1,⟨j,h,hp⟩=>by
  by_cases hn:p n
  ·exact⟨n,by omega,hn,λj' h1 h2=>by omega⟩
  ·have:j<n:=by
    rcases Nat.lt_or_ge j n with h1|h1
    ·exact h1
    ·have:j=n:=U
     subst this;exact absurd hp hn
   obtain⟨j0,h1,h2,h3⟩:=Eb p n ⟨j,this,hp⟩;refine⟨j0,by omega,h2,λj' h4 h5=> ?_⟩
   rcases Nat.lt_or_ge j' n with h6|h6
   ·exact h3 j' h4 h6
   ·have:j'=n:=U
    subst this;exact hn
theorem Ks (p:Nat->Prop): ∀(d i n:Nat),n-i=d->i<=n-> ∃q,i<=q/\q<=n/\(q=n∨p q)/\ ∀j,i<=j->j<q-> ¬p j
 |0,i,n,hd,hi=>⟨n,by omega,aUi _,.inl rfl,λj h1 h2=>by omega⟩
 |d+1,i,n,hd,hi=>by
  by_cases h:p i
  ·exact⟨i,aUi _,hi,.inr h,λj h1 h2=>by omega⟩
  ·obtain⟨q,h1,h2,h3,h4⟩:=Ks p d (i+1) n U U
   refine⟨q,by omega,h2,h3,λj h5 h6=> ?_⟩
   rcases Nat.lt_or_ge i j with h7|h7
   ·exact h4 j U h6
   ·have:j=i:=U
    subst this;exact h
section
variable {P : Program} {ρ : Ren} {H : aF} {w : World}
set_option maxHeartbeats 8000000 in
theorem aGy {O:aH}(hO:uL P O)(hM:pO O)(ops:Array Oper){r:Value×aF}{k:K (Value×aF)}(hk:qQ k r){Q:Exit->Act->World->Prop}{t:cY}{a:Act}
  (hok:Jq ops.toList t.length=true)(h:oQ P O ops.toList (mK ops.toList) ops.toList 0 [] [] k t H=some r)(hr:Rel P ρ (cF H) w)(ht:Srs ρ t a.tmps.toList)(hd:a.defers=[])
  (hf:Free ρ H r)(hq:KGood P ρ H w r k (Q .normal)):wpAny P .any ops Q ops.size (Array.replicate ops.size false) a w:=by
 obtain⟨T,HH,V,tr,hkn⟩:=V6 ops.toList 0 [] [] t H h;clear h
 generalize hL:ops.toList=L at*
 have hn:ops.size=L.length:=by rw[<-hL];simp
 have hget: ∀i:Nat,ops[i]? =L[i]? :=by intro i;rw[mO,hL]
 have okAll: ∀(i:Nat)(o:Oper),L[i]? =some o->(∀e∈o.after.toList,Region.binds .any e=true->e.on<i)/\(∀d,o.dst=some d->d<t.length)/\
   ∀(j:Nat)(o':Oper),L[j]? =some o'->i≠j->(dH o.op=true->dH o'.op=true->tE (mK L) i j=true)/\(∀d,o'.dst=some d->(d∈rQ L o∨o.dst=some d)->tE (mK L) i j=true):=by
  intro i o hi;simp only[Jq,aUS] at hok;have h1:=hok (o,i) (List.mk_mem_zipIdx_iff_getElem?.2 hi);simp only[aUl,aUS] at h1;obtain⟨⟨h1,h2⟩,h3⟩:=h1;refine⟨λe he hb=> ?_,λd hd=> ?_,λj o' hj hne=> ?_⟩
  ·have:=h1 e he
   simpa[hb] using this
  ·rw[hd] at h2;simpa using h2
  ·have:=h3 (o',j) (List.mk_mem_zipIdx_iff_getElem?.2 hj)
   simp only[Bool.or_eq_true,beq_iff_eq,aUl] at this;rcases this with this|⟨h4,h5⟩
   ·exact absurd this hne
   ·refine⟨λe1 e2=> ?_,λd hd hdl=> ?_⟩
    ·simpa[e1,e2] using h4
    ·rw[hd] at h5
     simp only[Bool.or_eq_true,aUl,Bool.not_eq_true',bne_iff_ne,ne_eq] at h5;rcases h5 with⟨h6,h7⟩|h6
     ·rcases hdl with h8|h8
      ·exfalso;simp at h6;exact h6 h8
      ·exact absurd h8 h7
     ·exact h6
 have lenT: ∀i,i<=L.length->(T i).length=t.length:=by
  intro i;induction i with
  |zero=>intro _;rw[tr.t0]
  |succ i ih=>
   intro hi;have hi':L[i]? =some L[i]:=by simp[show i<L.length by omega]
   rw[(tr.st i _ hi').2];cases (L[i]).dst<;>simp[qP,ih U]
 have lenStep: ∀(i:Nat)(o:Oper),L[i]? =some o->(HH i).length<=(HH (i+1)).length:=λi o hi=>Km P hM _ _ _ _ _ _ (tr.st i o hi).1
 have lenMono: ∀d i,i+d<=L.length->(HH i).length<=(HH (i+d)).length:=by
  intro d;induction d with
  |zero=>intro i _;exact aUi _
  |succ d ih=>
   intro i hi;exact aUt (ih i U) (lenStep (i+d) _ (show L[i+d]? =some L[i+d] by simp[show i+d<L.length by omega]))
 have lenLe: ∀i j,i<=j->j<=L.length->(HH i).length<=(HH j).length:=λi j h1 h2=>by
  have:=lenMono (j-i) i U;rwa [show i+(j-i)=j by omega] at this
 have inter: ∀i j b,i<L.length->j<L.length->(HH i).length<=b->b<(HH (i+1)).length->(HH j).length<=b->b<(HH (j+1)).length->i=j:=by
  intro i j b hi hj h1 h2 h3 h4;rcases Nat.lt_trichotomy i j with hlt|heq|hgt
  ·have:=lenLe (i+1) j U U;omega
  ·exact heq
  ·have:=lenLe (j+1) i U U;omega
 let OwS:Nat->Nat->Prop:=λb i=> ∃o,L[i]? =some o/\oP o.op=true/\(HH i).length=b/\(HH (i+1)).length=b+1
 have ownU: ∀b i j,OwS b i->OwS b j->i=j:=by
  rintro b i j ⟨o,h1,_,h2,h3⟩ ⟨o',h4,_,h5,h6⟩
  exact inter i j b (aUd.1 h1).1 (aUd.1 h4).1 U U U U
 classical
 let ini:Nat->Option Blk:=λb=>if hb: ∃i,OwS b i then(HH (Classical.choose hb+1))[b]? else none
 have iniOwn: ∀b i,OwS b i->ini b=(HH (i+1))[b]? :=by
  intro b i hi;have hb: ∃i,OwS b i:=⟨i,hi⟩
  show(if hb: ∃i,OwS b i then(HH (Classical.choose hb+1))[b]? else none)=_
  rw[dif_pos hb,ownU b _ i (Classical.choose_spec hb) hi]
 have iniSome: ∀b x,ini b=some x-> ∃i,OwS b i/\(HH (i+1))[b]? =some x:=by
  intro b x hx;by_cases hb: ∃i,OwS b i
  ·obtain⟨i,hi⟩:=hb
   exact⟨i,hi,by rw[<-iniOwn b i hi];exact hx⟩
  ·have:ini b=none:=dif_neg hb
   rw[this] at hx;cases hx
 have noEff: ∀(i:Nat)(o:Oper),L[i]? =some o->dH o.op=false->HH (i+1)=HH i∨ ∃x:Blk,wr (some x)=true/\HH (i+1)=HH i++[x]/\oP o.op=true:=by
  intro i o hi he;have hst:=(tr.st i o hi).1;cases hn':oP o.op with
  |false=>exact .inl (V5 P O L (T i) o he hn' _ _ _ hst).1
  |true=>
   rcases V4 P O L (T i) o hn' _ _ _ hst with⟨xb,h1,h2,_⟩|⟨h1,_⟩
   ·exact .inr ⟨xb,h1,h2,rfl⟩
   ·exact .inl h1
 have iniOk:Kq ini:=by
  intro b x hx;obtain⟨i,⟨o,h1,h2,h3,h4⟩,h5⟩:=iniSome b x hx;rcases noEff i o h1 (V1 h2) with h6|⟨xb,h6,h7,_⟩
  ·rw[h6] at h4;omega
  ·rw[h7,<-h3] at h5
   have:xb=x:=by simpa using h5
   rw[<-this];exact h6
 have ext1: ∀(i:Nat)(o:Oper),L[i]? =some o->dH o.op=false->eJ ini (HH (i+1))=eJ ini (HH i):=by
  intro i o hi he;rcases noEff i o hi he with h1|⟨xb,h1,h2,h3⟩
  ·rw[h1]
  ·have hown:OwS (HH i).length i:=⟨o,hi,h3,rfl,by rw[h2];simp⟩
   funext b
   by_cases hb:b<(HH i).length
   ·rw[fU hb,fU (by rw[h2];simp;omega),h2,aUg hb]
   ·by_cases hb2:b=(HH i).length
    ·rw[iC hb,fU (by rw[h2,hb2];simp),hb2,iniOwn _ i hown]
    ·rw[iC hb,iC (by rw[h2];simp;omega)]
 have extR: ∀d i,i+d<=L.length->(∀j o,i<=j->j<i+d->L[j]? =some o->dH o.op=false)->eJ ini (HH (i+d))=eJ ini (HH i):=by
  intro d;induction d with
  |zero=>intro i _ _;rfl
  |succ d ih=>
   intro i hi hno;have hg:L[i+d]? =some L[i+d]:=by simp[show i+d<L.length by omega]
   rw[<-ih i U (λj o h1 h2 h3=>hno j o h1 U h3)]
   exact ext1 (i+d) _ hg (hno (i+d) _ U U hg)
 have ext: ∀i j,i<=j->j<=L.length->(∀m o,i<=m->m<j->L[m]? =some o->dH o.op=false)->eJ ini (HH j)=eJ ini (HH i):=by
  intro i j h1 h2 h3;have:=extR (j-i) i U (λm o h4 h5 h6=>h3 m o h4 U h6)
  rwa [show i+(j-i)=j by omega] at this
 have extGet: ∀i j,i<=j->j<=L.length->(∀m o,i<=m->m<j->L[m]? =some o->dH o.op=false)-> ∀(b:Nat)(x:Blk),(HH i)[b]? =some x->(HH j)[b]? =some x:=by
  intro i j h1 h2 h3 b x hx;have hlt:=nD hx;have:=congrFun (ext i j h1 h2 h3) b;rw[fU hlt,fU (aUs hlt (lenLe i j h1 h2))] at this;rw[this];exact hx
 have hnL:(HH L.length).length<=r.2.length:=hk _ _ hkn
 let W:Nat->Prop:=λb=>H.length<=b/\b<(HH L.length).length
 have hW: ∀b,W b->ρ b=none:=λb hb=>hf b hb.1 (aUs hb.2 hnL)
 have hWi: ∀i,i<L.length-> ∀b,(HH i).length<=b->b<(HH (i+1)).length->W b:=by
  intro i hi b h1 h2;have h3:=lenLe 0 i U U
  rw[tr.h0] at h3
  exact⟨by omega,aUs h2 (lenLe (i+1) L.length U (aUi _))⟩
 have TC: ∀i,i<=L.length-> ∀s,((∀j o,j<i->L[j]? =some o->o.dst≠some s)->gT (T i) s=gT t s)/\
   (∀j o,j<i->L[j]? =some o->o.dst=some s->(∀j' o',j<j'->j'<i->L[j']? =some o'->o'.dst≠some s)->gT (T i) s=some (V j)):=by
  intro i;induction i with
  |zero=>intro _ s;exact⟨λ_=>by rw[tr.t0],λj o hj=>by omega⟩
  |succ i ih=>
   intro hi s;have hg:L[i]? =some L[i]:=by simp[show i<L.length by omega]
   have hput:=(tr.st i _ hg).2;obtain⟨ih1,ih2⟩:=ih U s
   have hlen:=lenT i U
   have putNe:(L[i]).dst≠some s->gT (T (i+1)) s=gT (T i) s:=by
    intro hne;rw[hput];cases hdst:(L[i]).dst with
    |none=>rfl
    |some d=>
     have:d≠s:=λe=>hne (by rw[hdst,e])
     simp[qP,gT,aUh,aUe this]
   have putEq:(L[i]).dst=some s->gT (T (i+1)) s=some (V i):=by
    intro he;rw[hput,he];have:=(okAll i _ hg).2.1 s he;simp[qP,gT,aUh,hlen,this]
   refine⟨λhno=> ?_,λj o hj hjo hjd hno=> ?_⟩
   ·rw[putNe (hno i _ U hg)]
    exact ih1 λj o h1 h2=>hno j o U h2
   ·rcases Nat.lt_or_ge j i with h1|h1
    ·rw[putNe (hno i _ h1 U hg)]
     exact ih2 j o h1 hjo hjd λj' o' h2 h3 h4=>hno j' o' h2 U h4
    ·have:j=i:=U
     subst this;rw[hg] at hjo;injection hjo with e;exact putEq (by rw[e];exact hjd)
 let S:Array Bool->Nat->Prop:=λlisted i=>listed.getD i false=true
 have main: ∀(fuel:Nat)(l:List Nat)(listed:Array Bool)(a:Act)(w':World)(ρ':Ren)(p:Nat)(N:Nat->Prop),
   listed.size=L.length->(∀i,i<L.length->S listed i∨i∈l)->l.length<=fuel->
   (∀i,S listed i-> ∀j,((mK L).getD i 0).testBit j=true->S listed j)->
   p<=L.length->(p=L.length∨ ∃o,L[p]? =some o/\dH o.op=true)->(∀i o,L[i]? =some o->dH o.op=true->(S listed i↔i<p))->
   StepN P W N ρ (cF H) w ρ' (eJ ini (HH p)) w'->(∀b,N b-> ∃i,i<L.length/\S listed i/\(HH i).length<=b/\b<(HH (i+1)).length)->
   (∀b x,ini b=some x->ρ' b=none->eJ ini (HH p) b=some x)->
   a.defers=[]->a.tmps.size=t.length->
   (∀s,(∀j o,L[j]? =some o->o.dst=some s-> ¬S listed j)->Vo ρ' (gT t s) (a.tmps.getD s undef))->
   (∀s j o,L[j]? =some o->o.dst=some s->S listed j->(∀j' o',j<j'->L[j']? =some o'->o'.dst=some s-> ¬S listed j')->Vr ρ' (V j) (a.tmps.getD s undef))->
   wpAny P .any ops Q fuel listed a w':=by
  intro fuel;have readyI: ∀(listed:Array Bool)(i:Nat),i∈Region.ready .any ops listed↔(i<L.length/\listed.getD i true=false/\ ∃o,L[i]? =some o/\ ∀e∈o.after.toList,Region.binds .any e=true->listed.getD e.on false=true):=by
   intro listed i;simp only[Region.ready,List.mem_filter,aUR,hn,aUl,Bool.not_eq_true',hget];constructor
   ·rintro ⟨h1,h2,h3⟩
    cases hi:L[i]? with
    |none=>rw[hi] at h3;simp at h3
    |some o=>
     rw[hi] at h3;simp only[Option.map_some,aUG] at h3;refine⟨h1,h2,o,rfl,λe he hb=> ?_⟩
     have:=Array.all_eq_true'.1 h3 e (by simpa using he)
     simpa[hb] using this
   ·rintro ⟨h1,h2,o,hi,h3⟩
    refine⟨h1,h2,?_⟩;rw[hi];simp only[Option.map_some,aUG];refine Array.all_eq_true'.2 λe he=> ?_
    cases hb:Region.binds .any e with
    |false=>simp
    |true=>simpa using h3 e (by simpa using he) hb
  have allDone: ∀(listed:Array Bool),listed.size=L.length->Region.ready .any ops listed=[]-> ∀i,i<L.length->S listed i:=by
   intro listed hsz hrd i;induction i using Nat.strongRecOn with
   |_ i ih=>
    intro hi;by_cases hs:S listed i
    ·exact hs
    ·exfalso
     have hg:L[i]? =some L[i]:=by simp[hi]
     have:i∈Region.ready .any ops listed:=by
      rw[readyI];refine⟨hi,?_,_,hg,λe he hb=> ?_⟩
      ·simp only[S] at hs
       have hi':i<listed.size:=U
       simp only[aUK,Array.getElem?_eq_getElem hi',aUG] at hs⊢;simpa using hs
      ·exact ih e.on ((okAll i _ hg).1 e he hb) (by have:=(okAll i _ hg).1 e he hb;omega)
     rw[hrd] at this;cases this
  have fin: ∀(listed:Array Bool)(a:Act)(w':World)(ρ':Ren)(p:Nat)(N:Nat->Prop),(∀i,i<L.length->S listed i)->p<=L.length->(p=L.length∨ ∃o,L[p]? =some o/\dH o.op=true)->(∀i o,L[i]? =some o->dH o.op=true->(S listed i↔i<p))->
    StepN P W N ρ (cF H) w ρ' (eJ ini (HH p)) w'->a.defers=[]->a.tmps.size=t.length->
    (∀s,(∀j o,L[j]? =some o->o.dst=some s-> ¬S listed j)->Vo ρ' (gT t s) (a.tmps.getD s undef))->
    (∀s j o,L[j]? =some o->o.dst=some s->S listed j->(∀j' o',j<j'->L[j']? =some o'->o'.dst=some s-> ¬S listed j')->Vr ρ' (V j) (a.tmps.getD s undef))->Q .normal a w':=by
   intro listed a w' ρ' p N hall hp hpe heff hst hdf hasz ht1 ht2;have hpn:p=L.length:=by
    rcases hpe with h1|⟨o,h1,h2⟩
    ·exact h1
    ·exfalso
     have:=(heff p o h1 h2).1 (hall p (aUd.1 h1).1);omega
   subst hpn;have hG:eJ ini (HH L.length)=cF (HH L.length):=by
    funext b
    by_cases hb:b<(HH L.length).length
    ·rw[fU hb]
    ·rw[iC hb]
     simp only[cF];rw[aUo U]
     cases hi:ini b with
     |none=>rfl
     |some x=>
      obtain⟨i,⟨o,h1,h2,h3,h4⟩,_⟩:=iniSome b x hi;have:=lenLe (i+1) L.length (by have:=(aUd.1 h1).1;omega) (aUi _)
      omega
   rw[hG] at hst;have h0n:=lenLe 0 L.length U (aUi _)
   rw[tr.h0] at h0n;refine hq ρ' (T L.length) (HH L.length) w' a hkn ⟨hst.rel,hst.le,λb hb=> ?_,h0n,λb h1 h2=>hW b ⟨h1,h2⟩,hst.size,hst.frame,λb hb hn=>hst.un b (λh1=>by have:=h1.1;omega) hn,
    λb hb=>hst.dead b (λh1=>by have:=h1.1;have:=nD hb;omega) hb,λb hb hw=>hst.kd b (λh1=>by have:=h1.1;omega) hw,hst.fresh,hst.os,hst.tape,hst.output⟩ ?_ hdf
   ·rcases hst.new b hb with h1|h1
    ·exact .inl h1
    ·exact .inr (hst.sub b h1)
   ·refine⟨by rw[lenT _ (aUi _)];simpa using hasz.symm,λs u v hu hv=> ?_⟩
    have hu':gT (T L.length) s=u:=by unfold gT;rw[aUh,hu];rfl
    have hv':a.tmps.getD s undef=v:=by
     rw[Array.getElem?_toList] at hv;rw[aUK,hv];rfl
    rw[<-hu',<-hv'];obtain⟨c1,c2⟩:=TC L.length (aUi _) s;by_cases hex: ∃j,j<L.length/\ ∃o,L[j]? =some o/\o.dst=some s
    ·obtain⟨j,h1,⟨o,h2,h3⟩,h4⟩:=Eb _ _ hex
     rw[c2 j o h1 h2 h3 λj' o' h5 h6 h7 h8=>h4 j' h5 h6 ⟨o',h7,h8⟩]
     refine λu hu=> ?_
     cases hu;exact ht2 s j o h2 h3 (hall j h1) λj' o' h5 h6 h7 _=>h4 j' h5 (aUd.1 h6).1 ⟨o',h6,h7⟩
    ·rw[c1 λj o h1 h2 h3=>hex ⟨j,h1,o,h2,h3⟩]
     exact ht1 s λj o h1 h2 _=>hex ⟨j,(aUd.1 h1).1,o,h1,h2⟩
  induction fuel with
  |zero=>
   intro l listed a w' ρ' p N hsz hcov hl hdc hp hpe heff hst hN hpd hdf hasz ht1 ht2;have hl0:l=[]:=by cases l<;>simp_all
   subst hl0;have hall: ∀i,i<L.length->S listed i:=λi hi=>(hcov i hi).resolve_right (by simp)
   refine⟨?_,fin listed a w' ρ' p N hall hp hpe heff hst hdf hasz ht1 ht2⟩;cases hrd:Region.ready .any ops listed with
   |nil=>rfl
   |cons i rest=>
    exfalso;have:i∈Region.ready .any ops listed:=by rw[hrd];simp
    rw[readyI] at this;obtain⟨h1,h2,_⟩:=this;have h3:=hall i h1;simp only[S] at h3;have hi':i<listed.size:=U
    simp only[aUK,Array.getElem?_eq_getElem hi',aUG] at h2 h3;rw[h2] at h3;cases h3
  |succ fuel ih=>
   intro l listed a w' ρ' p N hsz hcov hl hdc hp hpe heff hst hN hpd hdf hasz ht1 ht2;refine⟨λhrd=>fin listed a w' ρ' p N (allDone listed hsz hrd) hp hpe heff hst hdf hasz ht1 ht2,λi hi=> ?_⟩
   rw[readyI] at hi;obtain⟨hiL,hil,o,hio,hie⟩:=hi;have hiS: ¬S listed i:=by
    intro h3;simp only[S] at h3;have hi':i<listed.size:=U
    simp only[aUK,Array.getElem?_eq_getElem hi',aUG] at hil h3;rw[hil] at h3;cases h3
   obtain⟨ok1,ok2,ok3⟩:=okAll i o hio;have hpre: ∀j,((mK L).getD i 0).testBit j=true->S listed j:=by
    intro j hj;obtain⟨e,he,hb,hj'⟩:=aGe hio ok1 j hj;have hS:=hie e he hb;rcases hj' with rfl|hj'
    ·exact hS
    ·exact hdc e.on hS j hj'
   have hnot: ∀j,S listed j->((mK L).getD j 0).testBit i=true->False:=λj hj hb=>hiS (hdc j hj i hb)
   have hlook:Looked ρ' (T i) a (rQ L o):=by
    intro s hs;obtain⟨c1,c2⟩:=TC i U s
    have ordW: ∀j o',L[j]? =some o'->o'.dst=some s->j≠i->tE (mK L) i j=true:=λj o' h1 h2 h3=>(ok3 j o' h1 (Ne.symm h3)).2 s h2 (.inl hs)
    have later: ∀j o',L[j]? =some o'->o'.dst=some s->i<j-> ¬S listed j:=by
     intro j o' h1 h2 h3 h4;have:=ordW j o' h1 h2 U
     rw[tE,if_neg U] at this
     exact hnot j h4 this
    have earlier: ∀j o',L[j]? =some o'->o'.dst=some s->j<i->S listed j:=by
     intro j o' h1 h2 h3;have:=ordW j o' h1 h2 U
     rw[tE,if_pos h3] at this;exact hpre j this
    by_cases hex: ∃j,j<i/\ ∃o',L[j]? =some o'/\o'.dst=some s
    ·obtain⟨j,h1,⟨o',h2,h3⟩,h4⟩:=Eb _ _ hex
     rw[c2 j o' h1 h2 h3 λj' o'' h5 h6 h7 h8=>h4 j' h5 h6 ⟨o'',h7,h8⟩]
     refine λu hu=> ?_
     cases hu;refine ht2 s j o' h2 h3 (earlier j o' h2 h3 h1) λj' o'' h5 h6 h7 h8=> ?_
     rcases Nat.lt_trichotomy j' i with h9|h9|h9
     ·exact h4 j' h5 h9 ⟨o'',h6,h7⟩
     ·subst h9;exact hiS h8
     ·exact later j' o'' h6 h7 h9 h8
    ·rw[c1 λj o' h1 h2 h3=>hex ⟨j,h1,o',h2,h3⟩]
     refine ht1 s λj o' h1 h2 h3=> ?_
     rcases Nat.lt_trichotomy j i with h9|h9|h9
     ·exact hex ⟨j,h9,o',h1,h2⟩
     ·subst h9;exact hiS h3
     ·exact later j o' h1 h2 h9 h3
   have hFR: ∀b,(HH i).length<=b->b<(HH (i+1)).length->ρ' b=none:=by
    intro b h1 h2;cases hb:ρ' b with
    |none=>rfl
    |some pl=>
     exfalso;rcases hst.new b (by rw[hb];simp) with h3|h3
     ·exact h3 (hW b (hWi i hiL b h1 h2))
     ·obtain⟨i',h4,h5,h6,h7⟩:=hN b h3
      have:=inter i i' b hiL h4 h1 h2 h6 h7;subst this;exact hiS h5
   have S': ∀j,S (listed.setIfInBounds i true) j↔(S listed j∨j=i):=by
    intro j;simp only[S,aUK,Array.getElem?_setIfInBounds];by_cases hj:i=j
    ·subst hj;simp[show i<listed.size by omega]
    ·simp[hj,Ne.symm hj]
   have next: ∀(v':Value)(w'':World)(ρ'':Ren)(p':Nat)(N2:Nat->Prop),Vr ρ'' (V i) v'->p'<=L.length->(p'=L.length∨ ∃o,L[p']? =some o/\dH o.op=true)->
     (∀j o',L[j]? =some o'->dH o'.op=true->((S listed j∨j=i)↔j<p'))->StepN P W N2 ρ' (eJ ini (HH p)) w' ρ'' (eJ ini (HH p')) w''->(∀b,N2 b->(HH i).length<=b/\b<(HH (i+1)).length)->
     (∀b x,ini b=some x->ρ'' b=none->eJ ini (HH p) b=some x->eJ ini (HH p') b=some x)->
     wpAny P .any ops Q fuel (listed.setIfInBounds i true) (a.put o.dst v') w'':=by
    intro v' w'' ρ'' p' N2 hv hp' hpe' heff' hst2 hN2 hpd2;have kd2: ∀b pl,ρ b=some pl->wr (eJ ini (HH p) b)=true->wr (cF H b)=true:=λb pl hb hw=>hst.kd b (λhWb=>by rw[hW b hWb] at hb;cases hb) hw
    refine ih (l.erase i) _ _ w'' ρ'' p' _ (by simpa using hsz) ?_ ?_ ?_ hp' hpe' ?_ (hst.aGs hW hst2 kd2) ?_ ?_ (by rw[Vs];exact hdf) ?_ ?_ ?_
    ·intro j hj
     rw[S'];by_cases hji:j=i
     ·exact .inl (.inr hji)
     ·rcases hcov j hj with h1|h1
      ·exact .inl (.inl h1)
      ·exact .inr ((List.mem_erase_of_ne hji).2 h1)
    ·have:i∈l:=(hcov i hiL).resolve_left hiS
     rw[List.length_erase_of_mem this];omega
    ·intro j hj m hm
     rw[S'] at hj⊢;rcases hj with hj|rfl
     ·exact .inl (hdc j hj m hm)
     ·exact .inl (hpre m hm)
    ·intro j o' h1 h2
     rw[S'];exact heff' j o' h1 h2
    ·intro b hb
     rcases hb with hb|hb
     ·obtain⟨j,h1,h2,h3⟩:=hN b hb
      exact⟨j,h1,(S' j).2 (.inl h2),h3⟩
     ·obtain⟨h1,h2⟩:=hN2 b hb
      exact⟨i,hiL,(S' i).2 (.inr rfl),h1,h2⟩
    ·intro b x hx hb
     refine hpd2 b x hx hb (hpd b x hx ?_);cases hρ:ρ' b with
     |none=>rfl
     |some pl=>rw[hst2.le b pl hρ] at hb;cases hb
    ·cases o.dst<;>simp[Act.put,hasz]
    ·intro s hno
     have hne:o.dst≠some s:=λe=>hno i o hio e ((S' i).2 (.inr rfl))
     have:(a.put o.dst v').tmps.getD s undef=a.tmps.getD s undef:=by
      cases hdst:o.dst with
      |none=>rfl
      |some d=>
       have:d≠s:=λe=>hne (by rw[hdst,e])
       simp[Act.put,aUK,Array.getElem?_setIfInBounds_ne this]
     rw[this];exact Vo.aEU hst2.le (ht1 s λj o' h1 h2 h3=>hno j o' h1 h2 ((S' j).2 (.inl h3)))
    ·intro s j o' hj hjd hjS hno
     rw[S'] at hjS;by_cases hd:o.dst=some s
     ·
      have hji:j=i:=by
       rcases hjS with hjS|hjS
       ·exfalso
        have hne:j≠i:=λe=>hiS (e▸hjS)
        have hord:=(ok3 j o' hj (Ne.symm hne)).2 s hjd (.inr hd);rcases Nat.lt_or_ge j i with h1|h1
        ·exact hno i o h1 hio hd ((S' i).2 (.inr rfl))
        ·rw[tE,if_neg U] at hord
         exact hnot j hjS hord
       ·exact hjS
      subst hji;have:(a.put o.dst v').tmps.getD s undef=v':=by
       have hs:=ok2 s hd;rw[hd];simp[Act.put,aUK,hasz,hs]
      rw[this];exact hv
     ·have:(a.put o.dst v').tmps.getD s undef=a.tmps.getD s undef:=by
       cases hdst:o.dst with
       |none=>rfl
       |some d=>
        have:d≠s:=λe=>hd (by rw[hdst,e])
        simp[Act.put,aUK,Array.getElem?_setIfInBounds_ne this]
      rw[this];have hjS':S listed j:=by
       rcases hjS with h1|rfl
       ·exact h1
       ·rw[hio] at hj;injection hj with e;subst e;exact absurd hjd hd
      exact(ht2 s j o' hj hjd hjS' λj' o'' h1 h2 h3 h4=>hno j' o'' h1 h2 h3 ((S' j').2 (.inl h4))).pL hst2.le
   have hrelC:Rel P ρ' (cF (HH p)) w':=hst.rel.aGr iniOk;have hio':ops[i]? =some o:=by rw[hget];exact hio
   have hop: ∀{H1 H2:aF}{v:Value},Rel P ρ' (cF H1) w'->(∀b,H1.length<=b->b<H2.length->ρ' b=none)->fN P O L (T i) o H1=some (v,H2)->
     (∀v' w'',Post P ρ' H1 w' v H2 v' w''->wpAny P .any ops Q fuel (listed.setIfInBounds i true) (a.put o.dst v') w'')->wpOp P ops Q i (wpAny P .any ops Q fuel (listed.setIfInBounds i true)) a w':=by
    intro H1 H2 v hrel hfr hstp hK;unfold wpOp;rw[hio'];rw[<-hL] at hlook hstp;exact Vu hO hrel hlook hfr hstp hK
   have hsti:=(tr.st i o hio).1;have quiet:dH o.op=false->fN P O L (T i) o (HH p)=some (V i,HH p)->wpOp P ops Q i (wpAny P .any ops Q fuel (listed.setIfInBounds i true)) a w':=by
    intro he hs;refine hop hrelC (λb h1 h2=>by omega) hs λv' w'' ⟨ρ'',hv,hstep⟩=> ?_
    have hl:=hstep.V0 (W:=W) iniOk hst.rel (λb h1 h2=>by omega)
    refine next v' w'' ρ'' p _ hv hp hpe (λj o' h1 h2=> ?_) hl (λb hb=>by omega) (λb x _ _ h3=>h3)
    rw[<-heff j o' h1 h2];constructor
    ·rintro (h3|rfl)
     ·exact h3
     ·rw[hio] at h1;injection h1 with e;subst e;rw[he] at h2;cases h2
    ·exact .inl
   by_cases he:dH o.op=true
   ·
    have hip:i=p:=by
     have h1: ¬i<p:=λh1=>hiS ((heff i o hio he).2 h1)
     rcases Nat.lt_or_ge p i with h2|h2
     ·exfalso
      rcases hpe with h3|⟨o',h3,h4⟩
      ·omega
      ·have:=(ok3 p o' h3 U).1 he h4
       rw[tE,if_pos h2] at this;have:=(heff p o' h3 h4).1 (hpre p this);omega
     ·omega
    subst hip;refine hop hrelC hFR hsti λv' w'' ⟨ρ'',hv,hstep⟩=> ?_
    have hl:=hstep.V0 (W:=W) iniOk hst.rel (hWi i hiL);obtain⟨q,hq1,hq2,hq3,hq4⟩:=Ks (λj=> ∃o,L[j]? =some o/\dH o.op=true) _ (i+1) L.length rfl U
    have hGq:eJ ini (HH q)=eJ ini (HH (i+1)):=ext (i+1) q hq1 hq2 λm o' h1 h2 h3=>by
     cases hm:dH o'.op with
     |false=>rfl
     |true=>exact absurd ⟨o',h3,hm⟩ (hq4 m h1 h2)
    rw[<-hGq] at hl;refine next v' w'' ρ'' q _ hv hq2 hq3 (λj o' h1 h2=> ?_) hl (λb hb=>hb) (λb x hx hb h3=> ?_)
    ·constructor
     ·rintro (h3|rfl)
      ·have:=(heff j o' h1 h2).1 h3;omega
      ·omega
     ·intro h3
      rcases Nat.lt_trichotomy j i with h4|h4|h4
      ·exact .inl ((heff j o' h1 h2).2 h4)
      ·exact .inr h4
      ·exact absurd ⟨o',h1,h2⟩ (hq4 j h4 h3)
    ·rw[hGq]
     have hb':ρ' b=none:=by
      cases hρ:ρ' b with
      |none=>rfl
      |some pl=>rw[hstep.le b pl hρ] at hb;cases hb
     by_cases hbl:b<(HH i).length
     ·rw[fU hbl] at h3
      rw[fU (aUs hbl hstep.len),hstep.un b hbl hb'];exact h3
     ·rw[iC hbl] at h3
      by_cases hbl2:b<(HH (i+1)).length
      ·exfalso
       obtain⟨i',⟨o',h4,h5,h6,h7⟩,_⟩:=iniSome b x hx;have:=inter i i' b hiL (aUd.1 h4).1 U hbl2 U U
       subst this;rw[hio] at h4;injection h4 with e;subst e;rw[V1 h5] at he;cases he
      ·rw[iC hbl2];exact h3
   ·have he':dH o.op=false:=by simpa using he
    by_cases hnw:oP o.op=true
    ·rcases V4 P O L (T i) o hnw _ _ _ hsti with⟨xb,hkk,hH1,hmk⟩|⟨h1,h2⟩
     ·
      have hlen1:(HH (i+1)).length=(HH i).length+1:=by rw[hH1];simp
      have hown:OwS (HH i).length i:=⟨o,hio,hnw,rfl,hlen1⟩;have hini:ini (HH i).length=some xb:=by rw[iniOwn _ i hown,hH1];simp
      have hfree:=hFR (HH i).length (aUi _) U
      have hG:=hpd _ _ hini hfree;have hs:=hmk (List.replicate (HH i).length .dead) (by simp)
      refine hop (aGz hst.rel (HH i).length) (λb h1 h2=> ?_) hs λv' w'' ⟨ρ'',hv,hstep⟩=> ?_
      ·simp at h1 h2
       exact hFR b h1 U
      ·have hl:=Step.aGx (W:=W) hst.rel hstep hG (hWi i hiL _ (aUi _) U)
       refine next v' w'' ρ'' p _ hv hp hpe (λj o' h1 h2=> ?_) hl (λb hb=>by omega) (λb x _ _ h3=>h3)
       rw[<-heff j o' h1 h2];constructor
       ·rintro (h3|rfl)
        ·exact h3
        ·rw[hio] at h1;injection h1 with e;subst e;rw[he'] at h2;cases h2
       ·exact .inl
     ·exact quiet he' (h2 (HH p))
    ·have hnw':oP o.op=false:=by simpa using hnw
     have hps:=V5 P O L (T i) o he' hnw';obtain⟨h1,h2,h3⟩:=hps _ _ _ hsti;refine quiet he' ?_;cases hlk:oO P o.op with
     |false=>exact h3 hlk (HH p)
     |true=>
      by_cases hex: ∃j,j<p/\(i<j/\ ∃o',L[j]? =some o'/\dH o'.op=true)
      ·obtain⟨j,hj1,⟨hj2,o',hj3,hj4⟩,hj5⟩:=Eb _ _ hex
       have hc:=tr.le j o' hj3 hj4 i o hj2 hio he' hlk;simp only[aUy] at hc;rcases hc with hc|hc
       ·exact(hnot j ((heff j o' hj3 hj4).2 hj1) hc).elim
       ·obtain⟨G,hG⟩:=Vv hc
        obtain⟨g1,g2,_⟩:=hps _ _ _ hG;subst g1;exact g2 (HH p) (extGet (j+1) p U hp λm o'' m1 m2 m3=>by
         cases hm:dH o''.op with
         |false=>rfl
         |true=>exact absurd ⟨by omega,o'',m3,hm⟩ (hj5 m U m2))
      ·rcases Nat.lt_or_ge i p with hip|hip
       ·exact h2 (HH p) (extGet i p U hp λm o'' m1 m2 m3=>by
         cases hm:dH o''.op with
         |false=>rfl
         |true=>
          exfalso;rcases Nat.lt_or_ge i m with m4|m4
          ·exact hex ⟨m,m2,m4,o'',m3,hm⟩
          ·have:m=i:=U
           subst this;rw[hio] at m3;injection m3 with e;subst e;rw[he'] at hm;cases hm)
       ·rcases hpe with hpe|⟨o',hp1,hp2⟩
        ·omega
        ·have hne:p≠i:=by
          rintro rfl
          rw[hio] at hp1;injection hp1 with e;subst e;rw[he'] at hp2;cases hp2
         have hc:=tr.el i o hio he' hlk p o' U hp1 hp2
         simp only[aUy] at hc;rcases hc with hc|hc
         ·have:=(heff p o' hp1 hp2).1 (hpre p hc);omega
         ·obtain⟨G,hG⟩:=Vv hc
          obtain⟨g1,_⟩:=hps _ _ _ hG;subst g1;exact hG
 obtain⟨p,hp1,hp2,hp3,hp4⟩:=Ks (λj=> ∃o,L[j]? =some o/\dH o.op=true) _ 0 L.length rfl U
 have hGp:eJ ini (HH p)=eJ ini (HH 0):=ext 0 p U hp2 λm o' h1 h2 h3=>by
  cases hm:dH o'.op with
  |false=>rfl
  |true=>exact absurd ⟨o',h3,hm⟩ (hp4 m h1 h2)
 have hS0: ∀i,¬S (Array.replicate ops.size false) i:=by
  intro i;simp only[S,aUK,Array.getElem?_replicate]
  split<;>simp
 have hini0: ∀b x,ini b=some x-> ¬b<H.length:=by
  intro b x hx hb;obtain⟨i,⟨o,h1,h2,h3,h4⟩,_⟩:=iniSome b x hx;have:=lenLe 0 i U (by have:=(aUd.1 h1).1;omega)
  rw[tr.h0] at this;omega
 have iniW: ∀b x,ini b=some x->W b:=by
  intro b x hx;obtain⟨i,⟨o,h1,h2,h3,h4⟩,_⟩:=iniSome b x hx;exact hWi i (aUd.1 h1).1 b U U
 have hstart:StepN P W (λ_=>False) ρ (cF H) w ρ (eJ ini (HH p)) w:=by
  rw[hGp,tr.h0];have mapped: ∀b pl,ρ b=some pl->eJ ini H b=cF H b:=by
   intro b pl hb;by_cases hbl:b<H.length
   ·rw[fU hbl]
   ·rw[iC hbl]
    simp only[cF];rw[aUo U]
    cases hi:ini b with
    |none=>rfl
    |some x=>rw[hW b (iniW b x hi)] at hb;cases hb
  have same: ∀b,¬W b->eJ ini H b=cF H b:=by
   intro b hb;by_cases hbl:b<H.length
   ·rw[fU hbl]
   ·rw[iC hbl]
    simp only[cF];rw[aUo U]
    cases hi:ini b with
    |none=>rfl
    |some x=>exact absurd (iniW b x hi) hb
  refine⟨⟨hr.lt,λb pl x hb hx=>hr.blk b pl x hb (by rw[<-mapped b pl hb];exact hx),λb1 b2 p1 p2 hne h1 h2 hw hd=>hr.sep b1 b2 p1 p2 hne h1 h2 (by rw[<-mapped b1 p1 h1];exact hw) (by rw[<-mapped b2 p2 h2];exact hd),λg hg=>⟨(hr.tab g hg).1,λb pl hb hw=>(hr.tab g hg).2 b pl hb (by rw[<-mapped b pl hb];exact hw)⟩⟩,
   Ren.rR _,λ_ h=>h.elim,λb hb=> .inl hb,aUi _,λ_ _ _=>rfl,λb hb _=>same b hb,λb hb hdd=>by rw[same b hb];exact hdd,λb hb hw=>by rw[<-same b hb];exact hw,λb pl h h'=>(by rw[h] at h';cases h'),rfl,rfl,rfl⟩
 have hlt: ∀s,Vo ρ (gT t s) (a.tmps.getD s undef):=λs=>Looked.Bb ht [s] s (by simp)
 refine main ops.size (List.range L.length) _ a w ρ p (λ_=>False) (by simp[hn]) (λi hi=> .inr (by simpa using hi)) (by simp[hn]) (λi hi=>absurd hi (hS0 i)) hp2 hp3 (λi o h1 h2=>⟨λh3=>absurd h3 (hS0 i),λh3=>absurd ⟨o,h1,h2⟩ (hp4 i U h3)⟩)
  hstart (λb hb=>hb.elim) ?_ hd (by have:=ht.1;simpa using this.symm) (λs _=>hlt s) (λs j o _ _ hj=>absurd hj (hS0 j))
 intro b x hx hb;rw[hGp,tr.h0,iC (hini0 b x hx)];exact hx
end
end Go.Abs
