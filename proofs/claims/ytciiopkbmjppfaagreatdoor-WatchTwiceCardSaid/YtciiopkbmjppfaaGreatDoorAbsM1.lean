/-
  PARTS OF THIS CLAIM'S PROOF, laid together by a program of mine.
-/
import Derived.Calls
import Derived.LoopN
import Derived.Orders
import Derived.Laws.Sem
import Derived.Laws.Tables
import Derived.Laws.Cells
import Derived.Laws.StructEq
import Derived.Laws.Append
import Derived.Laws.MakeOwn
import Derived.Laws.Slices
import Derived.Lib.UnsafeStr
import Derived.Laws.BytesString
import Derived.Laws.BytesArg
import Derived.Laws.Pointers
import Derived.Lib.SliceRun
import Derived.Laws.Cover3
import Derived.MapKept
import Derived.WideKeyRuns
set_option linter.unusedVariables false
set_option linter.unusedSimpArgs false
set_option linter.unusedSectionVars false
namespace Go
theorem aSW:type_of% @List.getElem?_eq_some_iff:=@List.getElem?_eq_some_iff
theorem aSX:type_of% @List.getElem?_set_ne:=@List.getElem?_set_ne
theorem aSY:type_of% @List.getElem?_eq_getElem:=@List.getElem?_eq_getElem
theorem aSZ:type_of% @List.getElem?_append_left:=@List.getElem?_append_left
theorem aS0:type_of% @List.getD_eq_getElem?_getD:=@List.getD_eq_getElem?_getD
theorem aS1:type_of% @Nat.le_refl:=@Nat.le_refl
theorem aS2:type_of% @List.getElem?_set_self:=@List.getElem?_set_self
theorem aS3:type_of% @List.append_assoc:=@List.append_assoc
theorem aS4:type_of% @Bool.and_eq_true:=@Bool.and_eq_true
theorem aS5:type_of% @List.mem_cons_self:=@List.mem_cons_self
theorem aS6:type_of% @List.mem_of_getElem?:=@List.mem_of_getElem?
theorem aS7:type_of% @List.getElem?_eq_none:=@List.getElem?_eq_none
theorem aS8:type_of% @List.length_append:=@List.length_append
theorem aS9:type_of% @List.getElem?_map:=@List.getElem?_map
theorem aTa:type_of% @List.length_map:=@List.length_map
theorem aTb:type_of% @Nat.lt_of_lt_of_le:=@Nat.lt_of_lt_of_le
theorem aTc:type_of% @Nat.le_trans:=@Nat.le_trans
theorem aTd:type_of% @List.mem_cons_of_mem:=@List.mem_cons_of_mem
theorem aTe:type_of% @List.length_eq_zero_iff:=@List.length_eq_zero_iff
theorem aTf:type_of% @List.mem_cons:=@List.mem_cons
theorem aTg:type_of% @List.getElem?_append_right:=@List.getElem?_append_right
theorem aTh:type_of% @Nat.zero_add:=@Nat.zero_add
theorem aTi:type_of% @List.length_cons:=@List.length_cons
theorem aTj:type_of% @Bool.true_and:=@Bool.true_and
theorem aTk:type_of% @Result.andThen_ok:=@Result.andThen_ok
theorem aTl:type_of% @Array.getElem?_eq_some_iff:=@Array.getElem?_eq_some_iff
theorem aTm:type_of% @List.not_mem_nil:=@List.not_mem_nil
theorem aTn:type_of% @Option.some.injEq:=@Option.some.injEq
theorem aTo:type_of% @Int.toNat_natCast:=@Int.toNat_natCast
theorem aTp:type_of% @Option.getD_some:=@Option.getD_some
theorem aTq:type_of% @List.length_range:=@List.length_range
theorem aTr:type_of% @List.map_cons:=@List.map_cons
theorem aTs:type_of% @Option.map_eq_some_iff:=@Option.map_eq_some_iff
theorem aTt:type_of% @Array.getD_eq_getD_getElem?:=@Array.getD_eq_getD_getElem?
theorem aTu:type_of% @Nat.mod_eq_of_lt:=@Nat.mod_eq_of_lt
theorem aTv:type_of% @List.range_succ:=@List.range_succ
theorem aTw:type_of% @List.flatten_cons:=@List.flatten_cons
theorem aTx:type_of% @List.ext_getElem?:=@List.ext_getElem?
theorem aTy:type_of% @Option.some.inj:=@Option.some.inj
theorem aTz:type_of% @List.mem_map:=@List.mem_map
theorem aTA:type_of% @List.mem_range:=@List.mem_range
theorem aTB:type_of% @List.all_eq_true:=@List.all_eq_true
theorem aTC:type_of% @List.length_replicate:=@List.length_replicate
theorem aTD:type_of% @List.getElem?_replicate:=@List.getElem?_replicate
theorem aTE:type_of% @List.getElem?_range:=@List.getElem?_range
theorem aTF:type_of% @List.drop_drop:=@List.drop_drop
theorem aTG:type_of% @decide_eq_true:=@decide_eq_true
theorem aTH:type_of% @decide_eq_false:=@decide_eq_false
theorem aA{i:Nat}(h:i<4611686018427387904):IntKind.i64.wrap ((i:Int)+1)=((i+1:Nat):Int):=by
 simp[IntKind.wrap,IntKind.bits,IntKind.signed];omega
theorem aB(k:Nat)(h:0<k): ∃n,k=n+1:=⟨k-1,by omega⟩
theorem U{p:Prop}(h:p:=by omega):p:=h
theorem aC{p:Prop}(h:p:=by decide):p:=h
theorem aD{α:Sort _}(a:α): ∃b,b=a:=⟨a,rfl⟩
abbrev Value.I(n:Int):Value:=.int .i64 n
abbrev Value.N:Value:=.slice none 0 0
abbrev Value.Q(b o:Nat):Value:=.pointer (some ⟨b,o,none⟩)
end Go
namespace Go.Abs
inductive Kind where
 |ro|fix|row
 deriving DecidableEq
structure Ent where
 key:Value
 val:Value
 born:Nat
inductive Blk where
 |cells (cs:List Value)(elem:TypeId)(k:Kind)
 |map (es:List Ent)(clock:Nat)
 |dead
abbrev aG:=List Blk
def M (α:Type):Type:=aG->Option (α×aG)
namespace M
variable {α β : Type}
def aU (a:α):M α:=λH=>some (a,H)
def cG:M α:=λ_=>none
def qC (m:M α)(H:aG):Option (α×aG):=m H
def aP:Option α->M α
 |none=>cG
 |some a=>aU a
end M

open M
abbrev adr (b o:Nat):Value:= .pointer (some ⟨b,o,none⟩)
def pur {α:Type}(P:Program):Sem α->Option α
 | .pure a=>some a
 | .program k=>pur P (k P)
 |_=>none
def ld1 (v:Value):M Value:=λH=>
 match v with
 | .pointer (some ⟨b,o,none⟩)=>
  match H[b]? with
  |some (.cells cs _ _)=>
   match cs[o]? with
   |some x=>some (x,H)
   |none=>none
  |_=>none
 |_=>none
def ldN (n:Nat)(v:Value):M Value:=λH=>
 match v with
 | .pointer (some ⟨b,o,none⟩)=>
  match H[b]? with
  |some (.cells cs _ _)=>if o+n<=cs.length then some (.agg ((cs.drop o).take n).toArray,H) else none
  |_=>none
 |_=>none
def cT (cs:List Value)(o:Nat):List Value->List Value
 |[]=>cs
 |x::xs=>cT (cs.set o x) (o+1) xs
def cA (vs:List Value):Bool:=vs.all (·.oneCell')
def stN (n:Nat)(a v:Value):M Value:=λH=>
 match a with
 | .pointer (some ⟨b,o,none⟩)=>
  match H[b]? with
  |some (.cells cs e k)=>
   if k≠ .ro/\v.cells.toList.length=n/\o+n<=cs.length/\cA v.cells.toList=true then
    some (undef,H.set b (.cells (cT cs o v.cells.toList) e k))
   else none
  |_=>none
 |_=>none
def aX (e:TypeId)(cs:List Value)(k:Kind):M Value:=λH=>some (adr H.length 0,H++[.cells cs e k])
def oE (v:Value):Option Value:=
 match v with
 | .pointer (some a)=>some (.pointer (some a))
 | .func (.func f) x y=>some (.func (.func f) x y)
 | .func (.yield f) x y=>some (.func (.yield f) x y)
 |_=>none
def nJ (off:Nat)(v:Value):Option Value:=
 match v with
 | .pointer (some ⟨b,o,none⟩)=>some (adr b (o+off))
 |_=>none
def cQ (sz:Nat)(v i:Value):Option Value:=
 match v,i with
 | .slice (some ⟨b,o,none⟩) n _,.int _ i=>if 0<=i/\i<(n:Int) then some (adr b (o+i.toNat*sz)) else none
 |_,_=>none
def o8 (len sz:Nat)(v i:Value):Option Value:=
 match v,i with
 | .pointer (some ⟨b,o,none⟩),.int _ i=>if 0<=i/\i<(len:Int) then some (adr b (o+i.toNat*sz)) else none
 |_,_=>none
def pA (off:Nat)(v:Value):Option Value:=
 match v with
 | .agg cs=>cs.toList[off]?
 |_=>none
def Iy (off n:Nat)(v:Value):Option Value:=
 match v with
 | .agg cs=>some (.agg ((cs.toList.drop off).take n).toArray)
 |_=>none
def ext (i:Nat)(v:Value):Option Value:=
 match v with
 | .tuple vs=>vs.toList[i]?
 |_=>none
def bnd (d:Nat):Option Value->Option Nat
 |none=>some d
 |some (.int _ i)=>if 0<=i then some i.toNat else none
 |_=>none
def slc (P:Program)(sz:Nat)(v:Value)(lo hi mx:Option Value):M Value:=λH=>
 match v with
 | .slice none 0 0=>
  match bnd 0 lo,bnd 0 hi,bnd 0 mx with
  |some 0,some 0,some 0=>some (.slice none 0 0,H)
  |_,_,_=>none
 | .slice (some ⟨b,o,none⟩) len cap=>
  match H[b]? with
  |some (.cells _ e k)=>
   match bnd 0 lo,bnd len hi,bnd cap mx with
   |some l,some h,some m=>
    if l<=h/\h<=m/\m<=cap/\(k= .row->P.cellsOf e=sz) then some (.slice (some ⟨b,o+l*sz,none⟩) (h-l) (m-l),H) else none
   |_,_,_=>none
  |_=>none
 |_=>none
def pB (n sz:Nat)(v:Value)(lo hi:Option Value):M Value:=λH=>
 match v with
 | .pointer (some ⟨b,o,none⟩)=>
  match H[b]? with
  |some (.cells _ _ k)=>
   match bnd 0 lo,bnd n hi with
   |some l,some h=>if l<=h/\h<=n/\k= .fix then some (.slice (some ⟨b,o+l*sz,none⟩) (h-l) (n-l),H) else none
   |_,_=>none
  |_=>none
 |_=>none
def rF (s:ByteArray):List Value:=s.data.toList.map λb=> .int .u8 b.toNat
def dW (sz:Nat)(v:Value)(n:Nat)(H:aG):Option (List Value):=
 match v with
 | .slice none 0 0=>if n=0 then some [] else none
 | .slice (some ⟨b,o,none⟩) len _=>
  if n=0 then some [] else
  match H[b]? with
  |some (.cells cs _ _)=>if n<=len/\o+n*sz<=cs.length then some ((cs.drop o).take (n*sz)) else none
  |_=>none
 | .string s=>if n<=s.size/\sz=1 then some ((rF s).take n) else none
 |_=>none
def iR (v:Value):Option Nat:=
 match v with
 | .slice none 0 0=>some 0
 | .slice (some _) n _=>some n
 | .string s=>some s.size
 |_=>none
def eF (n bytes:Nat):Bool:=decide ((2*n+256)*bytes<=2 ^ 48)&&decide (n<=2 ^ 60)
def app (e:TypeId)(sz bytes:Nat)(v w:Value):M Value:=λH=>
 match iR w with
 |none=>none
 |some n=>
  match dW sz w n H with
  |none=>none
  |some new=>
   match v with
   | .slice none 0 0=>
    if n=0 then some (.slice none 0 0,H)
    else if eF n bytes=true then some (.slice (some ⟨H.length,0,none⟩) n n,H++[.cells new e .row]) else none
   | .slice (some ⟨b,o,none⟩) len cap=>
    match H[b]? with
    |some (.cells cs e' k)=>
     if len+n<=cap then
      if new=[] then some (.slice (some ⟨b,o,none⟩) (len+n) cap,H)
      else if k≠ .ro/\o+len*sz+n*sz<=cs.length/\cA new=true then
       some (.slice (some ⟨b,o,none⟩) (len+n) cap,H.set b (.cells (cT cs (o+len*sz) new) e' k))
      else none
     else if k= .row/\e'=e/\o+len*sz<=cs.length/\eF (len+n) bytes=true/\cA new=true then
      some (.slice (some ⟨H.length,0,none⟩) (len+n) (len+n),H.set b .dead++[.cells ((cs.drop o).take (len*sz)++new) e .row])
     else none
    |_=>none
   |_=>none
def cpy (sz:Nat)(d s:Value):M Value:=λH=>
 match iR s with
 |none=>none
 |some sn=>
  match d with
  | .slice none 0 0=>some (.int .i64 0,H)
  | .slice (some ⟨b,o,none⟩) dn _=>
   match dW sz s (min sn dn) H with
   |none=>none
   |some new=>
    match H[b]? with
    |some (.cells cs e k)=>
     if k≠ .ro/\o+min sn dn*sz<=cs.length/\cA new=true then
      some (.int .i64 (min sn dn:Nat),H.set b (.cells (cT cs o new) e k))
     else none
    |_=>none
  |_=>none
def clr (sz:Nat)(zero:List Value)(v:Value):M Value:=λH=>
 match v with
 | .slice none 0 0=>some (.tuple #[],H)
 | .slice (some ⟨b,o,none⟩) n _=>
  if n=0 then some (.tuple #[],H) else
  match H[b]? with
  |some (.cells cs e k)=>
   if k≠ .ro/\o+n*sz<=cs.length/\zero.length=sz/\cA zero=true then
    some (.tuple #[],H.set b (.cells (cT cs o (List.replicate n zero).flatten) e k))
   else none
  |_=>none
 |_=>none
def gZ (e:TypeId)(sz bytes:Nat)(zero:List Value)(n c:Value):M Value:=λH=>
 match n,c with
 | .int _ n,.int _ c=>
  if 0<=n/\n<=c/\(bytes:Int)*c<=2 ^ 48/\c<2 ^ 62/\(zero.length=sz) then
   some (.slice (some ⟨H.length,0,none⟩) n.toNat c.toNat,H++[.cells (List.replicate c.toNat zero).flatten e .row])
  else none
 |_,_=>none
def yB:List Value->Option (List UInt8)
 |[]=>some []
 | .int .u8 n::r=>(yB r).map (UInt8.ofNat n.toNat:: ·)
 |_=>none
def oF (v:Value):M Value:=λH=>
 match v with
 | .slice none 0 0=>some (.string .empty,H)
 | .slice (some ⟨b,o,none⟩) n _=>
  if n=0 then some (.string .empty,H) else
  match H[b]? with
  |some (.cells cs _ _)=>
   if o+n<=cs.length then
    match yB ((cs.drop o).take n) with
    |some bs=>some (.string ⟨bs.toArray⟩,H)
    |none=>none
   else none
  |_=>none
 |_=>none
def cK:Value->Bool
 | .bool _| .int _ _| .string _=>true
 |_=>false
def eT (P:Program)(s:Sem Value):Option Value:=
 match pur P s with
 |some r=>if cK r=true then some r else none
 |none=>none
def eqT:List Bool->List Value->List Value->Option Bool
 |[],[],[]=>some true
 |true::ks,.int k a::xs,.int k' b::ys=>if k=k' then(eqT ks xs ys).map λr=>(a==b)&&r else none
 |false::ks,.bool a::xs,.bool b::ys=>(eqT ks xs ys).map λr=>(a==b)&&r
 |_,_,_=>none
def eqV (v w:Value):Option Bool:=
 match v,w with
 | .pointer none,.pointer none=>some true
 | .pointer none,.pointer (some _)=>some false
 | .pointer (some _),.pointer none=>some false
 | .slice none 0 0,.slice none 0 0=>some true
 | .slice (some _) _ _,.slice none 0 0=>some false
 | .slice none 0 0,.slice (some _) _ _=>some false
 | .map none,.map none=>some true
 | .map (some _),.map none=>some false
 | .nilFunc,.nilFunc=>some true
 | .func _ _ _,.nilFunc=>some false
 |_,_=>none
def qE (P:Program):Nat->List Field->Option (List Bool)
 |_,[]=>some []
 |i,f::fs=>
  if f.offset=i/\f.name≠ "_" then
   match P.underlying f.type with
   |some (.int _)=>(qE P (i+1) fs).map (true:: ·)
   |some .bool=>(qE P (i+1) fs).map (false:: ·)
   |_=>none
  else none
def qF (P:Program)(t:TypeId):Option (List Bool):=
 match P.underlying t with
 |some (.struct fs)=>if P.stoodInHeld t=false/\P.eqGuardType P.depth t=false then qE P 0 fs.toList else none
 |_=>none
def hP (P:Program)(t:TypeId)(v:Value):Bool:=
 match P.underlying t,v with
 |some (.pointer _),.pointer _=>true
 |some (.slice _),.slice _ _ _=>true
 |some (.map _ _),.map _=>true
 |some (.func _ _ _),.nilFunc=>true
 |some (.func _ _ _),.func _ _ _=>true
 |_,_=>false
def jI (P:Program)(t:TypeId)(x y:Value):Option Bool:=
 match x,y with
 | .agg xs,.agg ys=>
  match qF P t with
  |some ks=>eqT ks xs.toList ys.toList
  |none=>none
 |x,y=>if hP P t x&&hP P t y then eqV x y else none
def bin (P:Program)(op:BinOp)(t:TypeId)(x y:Value):Option Value:=
 if cK x&&cK y then eT P (binOp op t x y) else
 match op with
 | .eql=>(jI P t x y).map .bool
 | .neq=>(jI P t x y).map λb=> .bool !b
 |_=>none
def un (P:Program)(op:UnOp)(x:Value):Option Value:=if cK x=true then eT P (Op.unary op x) else none
def yE (c a b:Value):Option Value:=
 match c with
 | .bool c=>some (if c then a else b)
 |_=>none
inductive KeyT where
 |num
 |str (ks:List Bool)
def o9 (P:Program)(t:TypeId):Option KeyT:=
 match P.underlying t with
 |some (.int _)=>some .num
 |some (.struct _)=>(qF P t).map .str
 |_=>none
def fX (kt:KeyT)(v w:Value):Option Bool:=
 match kt,v,w with
 | .num,.int k a,.int k' b=>if k=k' then some (a==b) else none
 | .str ks,.agg xs,.agg ys=>eqT ks xs.toList ys.toList
 |_,_,_=>none
def jJ (kt:KeyT)(k:Value):List Ent->Nat->Option (Option (Nat×Ent))
 |[],_=>some none
 |e::es,i=>
  match fX kt k e.key with
  |none=>none
  |some true=>some (some (i,e))
  |some false=>jJ kt k es (i+1)
def jK (kt:KeyT)(zero:Value)(ok:Bool)(m k:Value):M Value:=λH=>
 if fX kt k k=some true then
  match m with
  | .map none=>some (if ok then .tuple #[zero,.bool false] else zero,H)
  | .map (some b)=>
   match H[b]? with
   |some (.map es _)=>
    match jJ kt k es 0 with
    |none=>none
    |some none=>some (if ok then .tuple #[zero,.bool false] else zero,H)
    |some (some (_,e))=>some (if ok then .tuple #[e.val,.bool true] else e.val,H)
   |_=>none
  |_=>none
 else none
def kS (kt:KeyT)(m k v:Value):M Value:=λH=>
 if fX kt k k=some true then
  match m with
  | .map (some b)=>
   match H[b]? with
   |some (.map es c)=>
    match jJ kt k es 0 with
    |none=>none
    |some none=>some (undef,H.set b (.map (es++[⟨k,v,c⟩]) (c+1)))
    |some (some (i,e))=>some (undef,H.set b (.map (es.set i ⟨k,v,e.born⟩) c))
   |_=>none
  |_=>none
 else none
def qG (kt:KeyT)(zero:Value)(m k:Value):M Value:=λH=>
 if fX kt k k=some true then
  match m with
  | .map (some b)=>
   match H[b]? with
   |some (.map es c)=>
    match jJ kt k es 0 with
    |none=>none
    |some none=>some (.tuple #[zero,.int .i64 c],H.set b (.map (es++[⟨k,zero,c⟩]) (c+1)))
    |some (some (i,e))=>some (.tuple #[e.val,.int .i64 e.born],H.set b (.map (es.set i ⟨k,e.val,e.born⟩) c))
   |_=>none
  |_=>none
 else none
def qD (m s v:Value):M Value:=λH=>
 match m,s with
 | .map (some b),.int _ s=>
  match H[b]? with
  |some (.map es c)=>
   match es.findIdx? (λe=>(e.born:Int)==s) with
   |some i=>
    match es[i]? with
    |some e=>some (undef,H.set b (.map (es.set i ⟨e.key,v,e.born⟩) c))
    |none=>none
   |none=>none
  |_=>none
 |_,_=>none
def rE (kt:KeyT)(m k:Value):M Value:=λH=>
 if fX kt k k=some true then
  match m with
  | .map (some b)=>
   match H[b]? with
   |some (.map es c)=>
    match jJ kt k es 0 with
    |none=>none
    |some none=>some (.tuple #[],H)
    |some (some (i,_))=>some (.tuple #[],H.set b (.map (es.eraseIdx i) c))
   |_=>none
  |_=>none
 else none
def cY (v:Value):Option Value:=
 match v with
 | .slice none 0 0=>some (.int .i64 0)
 | .slice (some _) n _=>some (.int .i64 n)
 |_=>none
def oD (v:Value):M Value:=λH=>
 match v with
 | .map none=>some (.int .i64 0,H)
 | .map (some b)=>
  match H[b]? with
  |some (.map es _)=>some (.int .i64 (es.length:Nat),H)
  |_=>none
 |_=>none
def lU:M Value:=λH=>some (.map (some H.length),H++[.map [] 0])
def Iv (v:Value):Option Value:=
 match v with
 | .string s=>some (.int .i64 s.size)
 |_=>none
def dH:Value->Bool
 | .bool _| .int _ _| .string _| .pointer none| .slice none 0 0| .map none| .nilFunc| .nilIface=>true
 |_=>false
def C0:Value->Bool
 | .agg cs=>cs.toList.all dH
 | .tuple cs=>cs.toList.all dH
 |v=>dH v
abbrev cU:=List (Option Value)
def gY (t:cU)(s:Nat):Option Value:=t.getD s (some undef)
def opv (t:cU):Operand->Option Value
 | .tmp i=>gY t i
 | .const v=>if C0 v then some v else none
 | .func f=>some (.func (.func f) #[] #[])
 | .global _=>none
def vO (t:cU):List Operand->Option (List Value)
 |[]=>some []
 |x::xs=>match opv t x,vO t xs with
  |some v,some vs=>some (v::vs)
  |_,_=>none
def yC (t:cU):Option Operand->Option (Option Value)
 |none=>some none
 |some x=>(opv t x).map some
abbrev aH:=Fn->List Value->aG->Option (Value×aG)
def lI (P:Program)(t:TypeId):Option Bool:=
 match P.underlying t with
 |some (.struct _)|some (.array _ _)=>some true
 |some _=>some false
 |none=>none
def nK (P:Program)(t:TypeId):Option Value:=(P.info? t).bind (·.zero)
def pC (P:Program)(t:TypeId):Option Value:=
 match nK P t with
 |some z=>if z.cells.toList.all dH=true then some z else none
 |none=>none
def eS (P:Program)(t:TypeId):Option (Nat×Nat):=(P.info? t).map λi=>(i.size,i.bytes)
def kQ (O:aH)(f:Value)(args:List Value):M Value:=
 match f with
 | .func fn first cap=>O fn (first.toList++args++cap.toList)
 |_=>cG
def iX (P:Program)(mx:Bool)(vs:List Value):Option Value:=
 if vs.all cK=true then(if mx=true then eT P (Builtin.max_ #[] 0 vs.toArray) else eT P (Builtin.min_ #[] 0 vs.toArray)) else none
def tY (P:Program)(t:TypeId):Option (TypeId×TypeId):=
 match P.underlying t with
 |some (.map k e)=>some (k,e)
 |_=>none
def tX (P:Program)(ts:Array TypeId)(v:Value):M Value:=
 match (ts.toList[0]?).bind (tY P) with
 |some _=>oD v
 |none=>cG
def tW (P:Program)(ts:Array TypeId)(m k:Value):M Value:=
 match (ts.toList[0]?).bind (tY P) with
 |some p=>
  match o9 P p.1 with
  |some kt=>rE kt m k
  |none=>cG
 |none=>cG
def Cz (P:Program)(ts:Array TypeId)(vs:List Value):M Value:=
 match vs with
 |[m,k]=>tW P ts m k
 |_=>cG
def vN (P:Program)(b:Builtin)(ts:Array TypeId)(vs:List Value):M Value:=
 match b with
 | .delete=>Cz P ts vs
 |_=>cG
def rC (P:Program)(b:Builtin)(ts:Array TypeId)(vs:List Value):M Value:=
 match b,vs with
 | .len,[v]=>
  match (ts.toList[0]?).bind P.underlying with
  |some .string=>aP (Iv v)
  |some (.slice _)=>aP (cY v)
  |_=>tX P ts v
 | .append,[v,w]=>
  match (ts.toList[0]?).bind P.underlying with
  |some (.slice e)=>
   match eS P e,nK P e,(ts.toList[1]?).bind P.underlying with
   |some (sz,bytes),some z,some (.slice _)=>if z.cells.size=sz then app e sz bytes v w else cG
   |some (sz,bytes),some z,some .string=>if z.cells.size=sz then app e sz bytes v w else cG
   |_,_,_=>cG
  |_=>cG
 | .copy,[d,s]=>
  match (ts.toList[0]?).bind P.underlying with
  |some (.slice e)=>
   match eS P e with
   |some (sz,_)=>cpy sz d s
   |none=>cG
  |_=>cG
 | .clear,[v]=>
  match (ts.toList[0]?).bind P.underlying with
  |some (.slice e)=>
   match eS P e,pC P e with
   |some (sz,_),some z=>clr sz z.cells.toList v
   |_,_=>cG
  |_=>cG
 | .min,vs=>aP (iX P false vs)
 | .max,vs=>aP (iX P true vs)
 |b,vs=>vN P b ts vs
def bld (P:Program)(t:TypeId)(ps:List (Nat×Value)):Option Value:=
 match pC P t with
 |some _=>(P.built t ps).map .agg
 |none=>none
def bV (e:TypeId)(sz n:Nat)(zero:List Value)(ps:List (Nat×Value)):M Value:=λH=>
 match Instr.fill (λi=>some (i*sz,sz)) (List.replicate n zero).flatten.toArray ps with
 |some cs=>some (.slice (some ⟨H.length,0,none⟩) n n,H++[.cells cs.toList e .row])
 |none=>none
def yD (t:cU):List (Nat×Operand)->Option (List (Nat×Value))
 |[]=>some []
 |(i,x)::xs=>match opv t x,yD t xs with
  |some v,some vs=>some ((i,v)::vs)
  |_,_=>none
def cH (P:Program)(s d:TypeId)(v:Value):M Value:=
 match P.underlying s,P.underlying d with
 |some (.int _),some (.int k)=>match v with
  | .int _ n=>aU (.int k (k.wrap n))
  |_=>cG
 |some .string,some .string=>match v with
  | .string s=>aU (.string s)
  |_=>cG
 |some (.slice e),some .string=>match P.underlying e with
  |some (.int .u8)=>oF v
  |_=>cG
 |_,_=>cG
def sS (P:Program)(ty:TypeId)(x:Value)(lo hi mx:Option Value):M Value:=
 match P.underlying ty with
 |some (.slice e)=>
  match eS P e with
  |some (sz,_)=>if mx.isNone=true∨hi.isSome=true then slc P sz x lo hi mx else cG
  |none=>cG
 |some (.array n e)=>
  match eS P e,mx with
  |some (sz,_),none=>pB n sz x lo hi
  |_,_=>cG
 |some .string=>
  if cK x=true/\lo.all cK=true/\hi.all cK=true/\mx.isNone=true then aP (eT P (Instr.slice ty x lo hi none)) else cG
 |_=>cG
def aOp (P:Program)(O:aH)(t:cU)(o:Oper):M Value:=
 match o.op with
 | .move x| .assign x=>aP (opv t x)
 | .pick c a b=>
  match opv t c,opv t a,opv t b with
  |some c,some a,some b=>aP (yE c a b)
  |_,_,_=>cG
 | .alloc e=>
  match pC P e with
  |some z=>aX e z.cells.toList .fix
  |none=>cG
 | .box e x=>
  match opv t x with
  |some v=>aX e v.cells.toList .fix
  |none=>cG
 | .build ty ps=>
  match yD t ps.toList with
  |some ps=>aP (bld P ty ps)
  |none=>cG
 | .buildSlice ty n ps=>
  match P.underlying ty with
  |some (.slice e)=>
   match eS P e,pC P e,yD t ps.toList with
   |some (sz,_),some z,some ps=>if n*sz<=2 ^ 24/\z.cells.toList.length=sz then bV e sz n z.cells.toList ps else cG
   |_,_,_=>cG
  |_=>cG
 | .load ty a=>
  match opv t a,eS P ty,lI P ty with
  |some a,some (sz,_),some g=>if g=true then ldN sz a else ld1 a
  |_,_,_=>cG
 | .store ty a x=>
  match opv t a,opv t x,eS P ty with
  |some a,some v,some (sz,_)=>stN sz a v
  |_,_,_=>cG
 | .nilCheck x=>
  match opv t x with
  |some v=>aP (oE v)
  |none=>cG
 | .binOp op ty x y _=>
  match opv t x,opv t y with
  |some x,some y=>aP (bin P op ty x y)
  |_,_=>cG
 | .unOp op _ x=>
  match opv t x with
  |some x=>aP (un P op x)
  |none=>cG
 | .convert s d x=>
  match opv t x with
  |some x=>cH P s d x
  |none=>cG
 | .makeFunc fn a c=>
  match fn,vO t a.toList,vO t c.toList with
  | .func f,some a,some c=>aU (.func (.func f) a.toArray c.toArray)
  |_,_,_=>cG
 | .makeSlice ty n c=>
  match P.underlying ty with
  |some (.slice e)=>
   match eS P e,pC P e,opv t n,opv t c with
   |some (sz,bytes),some z,some n,some c=>gZ e sz bytes z.cells.toList n c
   |_,_,_,_=>cG
  |_=>cG
 | .slice ty x lo hi mx=>
  match opv t x,yC t lo,yC t hi,yC t mx with
  |some x,some lo,some hi,some mx=>sS P ty x lo hi mx
  |_,_,_,_=>cG
 | .fieldAddr ty x f=>
  match opv t x,P.underlying ty with
  |some x,some (.struct fs)=>
   match fs.toList[f]? with
   |some f=>if P.cellsOf f.type=0 then cG else aP (nJ f.offset x)
   |none=>cG
  |_,_=>cG
 | .field ty x f=>
  match opv t x,P.underlying ty with
  |some x,some (.struct fs)=>
   match fs.toList[f]? with
   |some f=>
    match eS P f.type,lI P f.type with
    |some (sz,_),some g=>aP (if g=true then Iy f.offset sz x else pA f.offset x)
    |_,_=>cG
   |none=>cG
  |_,_=>cG
 | .indexAddr ty x i=>
  match opv t x,opv t i,P.underlying ty with
  |some x,some i,some (.slice e)=>
   match eS P e with
   |some (sz,_)=>aP (cQ sz x i)
   |none=>cG
  |some x,some i,some (.array n e)=>
   match eS P e with
   |some (sz,_)=>aP (o8 n sz x i)
   |none=>cG
  |_,_,_=>cG
 | .index ty x i=>
  match opv t x,opv t i,P.underlying ty with
  |some x,some i,some .string=>if cK x=true/\cK i=true then aP (eT P (Instr.index ty x i)) else cG
  |_,_,_=>cG
 | .extract x i=>
  match opv t x with
  |some v=>aP (ext i v)
  |none=>cG
 | .call c=>
  match vO t c.args.toList with
  |none=>cG
  |some vs=>
   match c.callee with
   | .value f=>
    match opv t f with
    |some f=>kQ O f vs
    |none=>cG
   | .builtin b=>rC P b c.argTypes vs
   | .invoke _ _=>cG
 | .makeMap ty r=>
  match r,tY P ty with
  |none,some _=>lU
  |_,_=>cG
 | .lookup ty x i ok=>
  match opv t x,opv t i,tY P ty with
  |some m,some k,some p=>
   match o9 P p.1,pC P p.2 with
   |some kt,some z=>jK kt z ok m k
   |_,_=>cG
  |_,_,_=>cG
 | .mapUpdate ty x i y=>
  match opv t x,opv t i,opv t y,tY P ty with
  |some m,some k,some v,some p=>
   match o9 P p.1 with
   |some kt=>kS kt m k v
   |none=>cG
  |_,_,_,_=>cG
 | .mapEntry ty x i=>
  match opv t x,opv t i,tY P ty with
  |some m,some k,some p=>
   match o9 P p.1,pC P p.2 with
   |some kt,some z=>qG kt z m k
   |_,_=>cG
  |_,_,_=>cG
 | .entryStore ty x s y=>
  match opv t x,opv t s,opv t y with
  |some m,some s,some v=>qD m s v
  |_,_,_=>cG
 |_=>cG
abbrev K (α:Type):=cU->aG->Option α
def qH (t:cU)(dst:Option Tmp)(v:Value):cU:=
 match dst with
 |some d=>t.set d (some v)
 |none=>t
def gd (b:Value)(want:Bool)(m:M Value):M Value:=
 match b with
 | .bool b=>if b=want then m else aU undef
 |_=>aU undef
def Ae (ops:List Oper)(j:Nat):Option Tmp:=(ops[j]?).bind (·.dst)
def fP (P:Program)(O:aH)(ops:List Oper)(t:cU)(o:Oper):M Value:=
 match o.guard with
 |none=>aOp P O t o
 |some (j,want)=>
  match Ae ops j with
  |some d=>match gY t d with
   |some g=>gd g want (aOp P O t o)
   |none=>cG
  |none=>aU undef
def uA {α:Type}(P:Program)(O:aH)(ops:List Oper):List Oper->K α->K α
 |[],k=>k
 |o::l,k=>λt H=>
  match fP P O ops t o H with
  |none=>none
  |some r=>uA P O ops l k (qH t o.dst r.1) r.2
def rH (f:Value->Value->Bool):List Value->List Value->Bool
 |[],[]=>true
 |x::xs,y::ys=>f x y&&rH f xs ys
 |_,_=>false
def veq:Nat->Value->Value->Bool
 |0,_,_=>false
 |n+1,v,w=>
  match v,w with
  | .bool a,.bool b=>a==b
  | .int k a,.int k' b=>k==k'&&a==b
  | .string a,.string b=>a.data.toList==b.data.toList
  | .pointer a,.pointer b=>a==b
  | .slice a n c,.slice a' n' c'=>a==a'&&n==n'&&c==c'
  | .map a,.map b=>a==b
  | .nilFunc,.nilFunc=>true
  | .nilIface,.nilIface=>true
  | .agg xs,.agg ys=>rH (veq n) xs.toList ys.toList
  | .tuple xs,.tuple ys=>rH (veq n) xs.toList ys.toList
  |_,_=>false
def chk (x:Option (Value×aG))(v:Value):Bool:=
 match x with
 |some r=>veq 4 v r.1
 |none=>false
def dG:Op->Bool
 | .store .. | .mapUpdate .. | .mapEntry .. | .entryStore .. =>true
 | .call {callee:= .builtin b,..}=>match b with
  | .len| .min| .max=>false
  |_=>true
 | .call _=>true
 |_=>false
def oH:Op->Bool
 | .alloc _| .box .. | .makeSlice .. | .buildSlice .. | .makeMap .. =>true
 |_=>false
def C1 (P:Program)(t:TypeId):Bool:=
 match P.underlying t with
 |some (.slice _)=>true
 |_=>false
def Tf (P:Program)(ts:Array TypeId):Bool:=
 match (ts.toList[0]?).bind P.underlying with
 |some (.map _ _)=>true
 |_=>false
def oG (P:Program):Op->Bool
 | .load .. | .slice .. | .lookup .. =>true
 | .convert s _ _=>C1 P s
 | .call {callee:= .builtin .len,argTypes:=ts,..}=>Tf P ts
 |_=>false
def pD (acc:List Nat)(o:Oper):Nat:=
 o.after.toList.foldl (λs e=>if Region.binds .any e then s|||(1<<<e.on)|||acc.getD e.on 0 else s) 0
def mI (ops:List Oper):List Nat:=ops.foldl (λacc o=>acc++[pD acc o]) []
def rG (ops:List Oper)(o:Oper):List Tmp:=
  (o.op.operands.toList.filterMap λ| .tmp t=>some t|_=>none)++
  (match o.guard with
   |some (g,_)=>(Ae ops g).toList
   |none=>[])
def sT (ms:List Nat)(i j:Nat):Bool:=if j<i then(ms.getD i 0).testBit j else(ms.getD j 0).testBit i
def I0 (ops:List Oper)(n:Nat):Bool:=
  let ms:=mI ops
  ops.zipIdx.all λ(o,i)=>
    o.after.toList.all (λe=> !Region.binds .any e||decide (e.on<i))&&
    (match o.dst with|some d=>decide (d<n)|none=>true)&&
    ops.zipIdx.all λ(o',j)=>
      i==j||
      ((!(dG o.op && dG o'.op) || sT ms i j) &&
       (match o'.dst with
        |some d=>(!(rG ops o).contains d&&o.dst !=some d)||sT ms i j
        |none=>true))
structure Rd where
 i:Nat
 o:Oper
 t:cU
 v:Value
structure Ef where
 i:Nat
 h:aG
def oI {α:Type}(P:Program)(O:aH)(ops:List Oper)(ms:List Nat):List Oper->Nat->List Rd->List Ef->K α->K α
 |[],_,_,_,k=>k
 |o::l,i,rs,es,k=>λt H=>
  match fP P O ops t o H with
  |none=>none
  |some r=>
   if dG o.op=true then
    if rs.all (λq=>(ms.getD i 0).testBit q.i||chk (fP P O ops q.t q.o r.2) q.v)=true then
     oI P O ops ms l (i+1) rs (⟨i,H⟩::es) k (qH t o.dst r.1) r.2
    else none
   else if oG P o.op=true then
    if es.all (λe=>(ms.getD i 0).testBit e.i||chk (fP P O ops t o e.h) r.1)=true then
     oI P O ops ms l (i+1) (⟨i,o,t,r.1⟩::rs) es k (qH t o.dst r.1) r.2
    else none
   else oI P O ops ms l (i+1) rs es k (qH t o.dst r.1) r.2
inductive Ex where
 |normal
 |exit (id:Nat)
 |ret
abbrev aI (α:Type):=((Ex->K α)->K α)->(Ex->K α)->K α
def aF:Nat->cU->cU
 |0,l=>l
 |n+1,l=>none::aF n l
def clS:Nat->cU->cU
 |_,[]=>[]
 |m,x::xs=>(match m%2 with|0=>none|_=>x)::clS (m/2) xs
def jL {α:Type}(m:Nat)(k:Ex->K α):Ex->K α:=λe t H=>k e (clS m t) H
def Iz (l:List Tmp):Nat:=l.foldl (λm s=>m|||(1<<<s)) 0
def C2 (s:Nat×Nat)(R:Nat):Nat×Nat:=(s.1,s.2|||(R^^^(R&&&s.1)))
def aEl (ops:List Oper)(s:Nat×Nat)(o:Oper):Nat×Nat:=
 match o.dst with
 |some d=>((C2 s (Iz (rG ops o))).1|||(1<<<d),(C2 s (Iz (rG ops o))).2)
 |none=>C2 s (Iz (rG ops o))
def tZ:Code->Nat×Nat->Nat×Nat
 | .region _ ops _,s=>ops.toList.foldl (aEl ops.toList) s
 | .seq a b,s=>tZ b (tZ a s)
 | .cond c a b,s=>
  let s0:=C2 s (match c with| .tmp t=>1<<<t|_=>0)
  let s1:=tZ a s0
  let s2:=tZ b (s0.1,s1.2)
  (s1.1&&&s2.1,s2.2)
 | .block _ c,s=>let s1:=tZ c s;(s.1&&&s1.1,s1.2)
 | .loop c,s=>(0,(tZ c (0,s.2)).2)
 | .scope c,s=>tZ c s
 |_,s=>s
def I1:List ResultVar->Nat
 |[]=>0
 | .tmp i::r=>(1<<<i)|||I1 r
 | .cell a _::r=>(1<<<a)|||I1 r
def aEm (fn:Func):Nat:=match fn.body with
 |some c=>(tZ c (2 ^ fn.ntmps-1,0)).2|||I1 fn.results.toList
 |none=>0
structure CC where
 m:Nat
 c:Code
def eG {α:Type}(P:Program)(O:aH)(L:aI α)(m:Nat):Code->(Ex->K α)->K α
 | .skip,k=>k .normal
 | .region _ ops draw,k=>
  if draw=true then λt H=>
   if I0 ops.toList t.length=true then oI P O ops.toList (mI ops.toList) ops.toList 0 [] [] (k .normal) t H else none
  else uA P O ops.toList ops.toList (k .normal)
 | .seq a b,k=>eG P O L m a λe=>match e with
  | .normal=>eG P O L m b k
  | .exit id=>k (.exit id)
  | .ret=>k .ret
 | .cond c a b,k=>λt H=>
  match opv t c with
  |some (.bool x)=>if x=true then eG P O L m a k t H else eG P O L m b k t H
  |_=>none
 | .block id c,k=>eG P O L m c λe=>match e with
  | .normal=>k .normal
  | .exit j=>if j=id then k .normal else k (.exit j)
  | .ret=>k .ret
 | .loop c,k=>λt H=>L (λk'=>eG P O L m c (jL m k')) k (clS m t) H
 | .scope c,k=>eG P O L m c k
 | .label _,k=>k .normal
 | .exit id,k=>k (.exit id)
 | .ret,k=>k .ret
 |_,_=>λ_ _=>none
def aO {α:Type}(P:Program)(O:aH)(L:aI α)(c:CC)(k:Ex->K α):K α:=eG P O L c.m c.c (jL c.m k)
def aL {α:Type}:Nat->aI α
 |0,_,_=>λ_ _=>none
 |n+1,B,k=>B λe=>match e with
  | .normal=>aL n B k
  | .exit id=>k (.exit id)
  | .ret=>k .ret
structure Pl where
 c:Nat
 base:Nat
 room:Option (Nat×Nat)
abbrev Ren:=Nat->Option Pl
inductive Vr (ρ:Ren):Value->Value->Prop where
 |same {v:Value} (h:dH v=true):Vr ρ v v
 |ptr {b o:Nat} {pl:Pl} (h:ρ b=some pl):Vr ρ (.pointer (some ⟨b,o,none⟩)) (.pointer (some ⟨pl.c,pl.base+o,none⟩))
 |slice {b o n cap cap':Nat} {pl:Pl} (h:ρ b=some pl) (hn:n<=cap) (hc:cap<=cap') (hr: ∀e T,pl.room=some (e,T)->pl.base+o+cap'*e<=T):
   Vr ρ (.slice (some ⟨b,o,none⟩) n cap) (.slice (some ⟨pl.c,pl.base+o,none⟩) n cap')
 |slice0 {b o:Nat} {pl:Pl} {a:Addr} (h:ρ b=some pl):Vr ρ (.slice (some ⟨b,o,none⟩) 0 0) (.slice (some a) 0 0)
 |map {b:Nat} {pl:Pl} (h:ρ b=some pl):Vr ρ (.map (some b)) (.map (some pl.c))
 |func {f:FuncId} {x x' y y':Array Value} (hx:x.toList.length=x'.toList.length) (hy:y.toList.length=y'.toList.length)
   (h1: ∀(i:Nat)(u v:Value),x.toList[i]? =some u->x'.toList[i]? =some v->Vr ρ u v) (h2: ∀(i:Nat)(u v:Value),y.toList[i]? =some u->y'.toList[i]? =some v->Vr ρ u v):
   Vr ρ (.func (.func f) x y) (.func (.func f) x' y')
 |agg {x x':Array Value} (hx:x.toList.length=x'.toList.length) (h1: ∀(i:Nat)(u v:Value),x.toList[i]? =some u->x'.toList[i]? =some v->Vr ρ u v):Vr ρ (.agg x) (.agg x')
 |tuple {x x':Array Value} (hx:x.toList.length=x'.toList.length) (h1: ∀(i:Nat)(u v:Value),x.toList[i]? =some u->x'.toList[i]? =some v->Vr ρ u v):Vr ρ (.tuple x) (.tuple x')
def Vrs (ρ:Ren)(xs ys:List Value):Prop:=xs.length=ys.length/\ ∀(i:Nat)(u v:Value),xs[i]? =some u->ys[i]? =some v->Vr ρ u v
def Ren.pE (ρ ρ':Ren):Prop:= ∀(b:Nat)(pl:Pl),ρ b=some pl->ρ' b=some pl
theorem Ren.C3 (ρ:Ren):ρ.pE ρ:=λ_ _ h=>h
theorem Ren.Tg {ρ ρ' ρ'':Ren}(h:ρ.pE ρ')(h':ρ'.pE ρ''):ρ.pE ρ'':=λb pl e=>h' b pl (h b pl e)
theorem Vr.sU {ρ ρ':Ren}(hle:ρ.pE ρ'){v v':Value}(h:Vr ρ v v'):Vr ρ' v v':=by
 induction h with
 |same h=>exact .same h
 |ptr h=>exact .ptr (hle _ _ h)
 |slice h hn hc hr=>exact .slice (hle _ _ h) hn hc hr
 |slice0 h=>exact .slice0 (hle _ _ h)
 |map h=>exact .map (hle _ _ h)
 |func hx hy _ _ ih1 ih2=>exact .func hx hy ih1 ih2
 |agg hx _ ih=>exact .agg hx ih
 |tuple hx _ ih=>exact .tuple hx ih
theorem Vrs.nL (ρ:Ren):Vrs ρ [] []:=⟨rfl,λi u v h=>by simp at h⟩
theorem Vrs.mV {ρ:Ren}{x y:Value}{xs ys:List Value}(h:Vr ρ x y)(hs:Vrs ρ xs ys):Vrs ρ (x::xs) (y::ys):=by
 refine⟨by simp[hs.1],λi u v hu hv=> ?_⟩
 cases i with
 |zero=>simp at hu hv;subst hu;subst hv;exact h
 |succ i=>exact hs.2 i u v (by simpa using hu) (by simpa using hv)
def Vo (ρ:Ren)(x:Option Value)(v:Value):Prop:= ∀u,x=some u->Vr ρ u v
theorem Vo.aEt {ρ ρ':Ren}(hle:ρ.pE ρ'){x:Option Value}{v:Value}(h:Vo ρ x v):Vo ρ' x v:=λu hu=>(h u hu).sU hle
def Srs (ρ:Ren)(t:cU)(ys:List Value):Prop:=t.length=ys.length/\ ∀(i:Nat)(x:Option Value)(v:Value),t[i]? =some x->ys[i]? =some v->Vo ρ x v
theorem Srs.aEp {ρ ρ':Ren}(hle:ρ.pE ρ'){t:cU}{ys:List Value}(h:Srs ρ t ys):Srs ρ' t ys:=⟨h.1,λi x v hx hv u hu=>(h.2 i x v hx hv u hu).sU hle⟩
theorem Vrs.srs {ρ:Ren}{xs ys:List Value}(h:Vrs ρ xs ys):Srs ρ (xs.map some) ys:=⟨by simp[h.1],λi x v hx hv u hu=>by
 subst hu;simp only[aS9,aTs,aTn,exists_eq_right] at hx;exact h.2 i u v hx hv⟩
theorem Srs.aEo {ρ:Ren}{t:cU}{ys:List Value}(h:Srs ρ t ys){i:Nat}{u:Option Value}(hu:t[i]? =some u): ∃v,ys[i]? =some v/\Vo ρ u v:=by
 have hi:i<ys.length:=by rw[<-h.1];exact(aSW.1 hu).1
 exact⟨ys[i],by simp[hi],h.2 i u _ hu (by simp[hi])⟩
theorem Srs.aEq {ρ:Ren}{t:cU}{ys:List Value}(h:Srs ρ t ys){x:Option Value}{v:Value}(hx:Vo ρ x v)(d:Nat):Srs ρ (t.set d x) (ys.set d v):=by
 refine⟨by simp[h.1],λi y w hy hw=> ?_⟩
 rw[List.getElem?_set] at hy hw;by_cases hd:d=i
 ·subst hd
  rw[if_pos rfl] at hy hw
  split at hy
  ·split at hw
   ·cases hy;cases hw;exact hx
   ·cases hw
  ·cases hy
 ·rw[if_neg hd] at hy hw
  exact h.2 i y w hy hw
theorem Tk: ∀(t:cU)(m i:Nat)(x:Option Value),(clS m t)[i]? =some x->x=none∨t[i]? =some x
 |[],_,_,_,h=>by cases h
 |y::t,m,0,x,h=>by
  simp only[clS,List.getElem?_cons_zero,aTn] at h;subst h;split
  ·exact .inl rfl
  ·exact .inr rfl
 |y::t,m,i+1,x,h=>by
  simp only[clS,List.getElem?_cons_succ] at h;exact Tk t _ i x h
theorem Tl: ∀(t:cU)(m:Nat),(clS m t).length=t.length
 |[],_=>rfl
 |y::t,m=>by simp[clS,Tl t]
theorem Srs.clr {ρ:Ren}{t:cU}{ys:List Value}(h:Srs ρ t ys)(m:Nat):Srs ρ (clS m t) ys:=
 ⟨by rw[Tl,h.1],λi x v hx hv=>by
  rcases Tk t m i x hx with rfl|hx
  ·exact λu hu=>by cases hu
  ·exact h.2 i x v hx hv⟩
theorem Vrs.Ti {ρ:Ren}{x y:Value}{xs ys:List Value}(h:Vrs ρ (x::xs) (y::ys)):Vr ρ x y:=h.2 0 x y rfl rfl
theorem Vrs.Tj {ρ:Ren}{x y:Value}{xs ys:List Value}(h:Vrs ρ (x::xs) (y::ys)):Vrs ρ xs ys:=
 ⟨by have:=h.1;simpa using this,λi u v hu hv=>h.2 (i+1) u v (by simpa using hu) (by simpa using hv)⟩
theorem Vrs.nM {ρ:Ren}{ys:List Value}(h:Vrs ρ [] ys):ys=[]:=by have:=h.1;cases ys<;>simp_all
theorem Vrs.oJ {ρ:Ren}{x:Value}{xs ys:List Value}(h:Vrs ρ (x::xs) ys): ∃y ys',ys=y::ys'/\Vr ρ x y/\Vrs ρ xs ys':=by
 cases ys with
 |nil=>have:=h.1;simp at this
 |cons y ys=>exact⟨y,ys,rfl,h.Ti,h.Tj⟩
theorem Vrs.C5 {ρ:Ren}{xs ys xs' ys':List Value}(h:Vrs ρ xs ys)(h':Vrs ρ xs' ys'):Vrs ρ (xs++xs') (ys++ys'):=by
 induction xs generalizing ys with
 |nil=>rw[h.nM];simpa using h'
 |cons x xs ih=>obtain⟨y,ys',rfl,hy,hs⟩:=h.oJ;exact .mV hy (ih hs)
theorem Vrs.yF {ρ:Ren}{xs ys:List Value}(h:Vrs ρ xs ys){i:Nat}{u:Value}(hu:xs[i]? =some u): ∃v,ys[i]? =some v/\Vr ρ u v:=by
 have hi:i<ys.length:=by rw[<-h.1];exact(aSW.1 hu).1
 exact⟨ys[i],by simp[hi],h.2 i u _ hu (by simp[hi])⟩
theorem Vrs.aEv {ρ:Ren}{xs ys:List Value}(h:Vrs ρ xs ys)(n:Nat):Vrs ρ (xs.drop n) (ys.drop n):=
 ⟨by simp[h.1],λi u v hu hv=>h.2 (n+i) u v (by simpa using hu) (by simpa using hv)⟩
theorem Vrs.aEw {ρ:Ren}{xs ys:List Value}(h:Vrs ρ xs ys)(n:Nat):Vrs ρ (xs.take n) (ys.take n):=by
 refine⟨by simp[h.1],λi u v hu hv=> ?_⟩
 rw[List.getElem?_take] at hu hv
 split at hu<;>simp_all
 exact h.2 i u v hu hv
theorem Vr.mJ {ρ:Ren}{v:Value}(h:C0 v=true):Vr ρ v v:=by
 cases v with
 |agg cs=>
  refine .agg rfl λi u v hu hv=> ?_
  rw[hu] at hv;injection hv with e;subst e;simp only[C0,aTB] at h;exact .same (h u (aS6 hu))
 |tuple cs=>
  refine .tuple rfl λi u v hu hv=> ?_
  rw[hu] at hv;injection hv with e;subst e;simp only[C0,aTB] at h;exact .same (h u (aS6 hu))
 |_=>exact .same h
theorem Vr.sV (ρ:Ren):Vr ρ Go.undef Go.undef:= .mJ rfl
theorem Vr.hZ {ρ:Ren}{v w:Value}(h:Vr ρ v w)(hf:Abs.cK v=true):w=v:=by
 cases h<;>simp_all [Abs.cK]
theorem Vr.rI {ρ:Ren}{v:Value}(hf:Abs.cK v=true):Vr ρ v v:=by
 refine .same ?_;cases v<;>simp_all [Abs.cK,dH]
theorem Vr.Ag {ρ:Ren}{v w:Value}(h:Vr ρ v w):Vrs ρ v.cells.toList w.cells.toList:=by
 have one: ∀{x y:Value},Vr ρ x y->Vrs ρ [x] [y]:=λh=> .mV h (.nL ρ)
 cases h with
 |agg hx h1=>exact⟨hx,h1⟩
 | @same v hl=>cases v<;>first|exact one (.same hl)|simp[dH] at hl
 |tuple hx h1=>exact one (.tuple hx h1)
 |ptr h=>exact one (.ptr h)
 |slice h hn hc hr=>exact one (.slice h hn hc hr)
 |slice0 h=>exact one (.slice0 h)
 |map h=>exact one (.map h)
 |func hx hy h1 h2=>exact one (.func hx hy h1 h2)
theorem Vr.aEu {ρ:Ren}{v w:Value}(h:Vr ρ v w):w.oneCell'=v.oneCell':=by
 cases h<;>rfl
theorem Vrs.Th {ρ:Ren}{xs ys:List Value}(h:Vrs ρ xs ys)(hc:Abs.cA xs=true): ∀y∈ys,y.oneCell'=true:=by
 induction xs generalizing ys with
 |nil=>rw[h.nM];simp
 |cons x xs ih=>
  obtain⟨y,ys',rfl,hy,hs⟩:=h.oJ;simp only[Abs.cA,List.all_cons,aS4] at hc;intro z hz;cases aTf.1 hz with
  |inl e=>subst e;rw[hy.aEu];exact hc.1
  |inr e=>exact ih hs hc.2 z e
def wr:Option Blk->Bool
 |some (.cells _ _ k)=>decide (k≠ .ro)
 |some (.map _ _)=>true
 |_=>false
def EntR (ρ:Ren)(e:Ent)(m:MapEntry):Prop:=Vr ρ e.key m.key/\Vr ρ e.val m.val/\m.born=e.born
def EntsR (ρ:Ren)(es:List Ent)(ms:List MapEntry):Prop:=es.length=ms.length/\ ∀(i:Nat)(e:Ent)(m:MapEntry),es[i]? =some e->ms[i]? =some m->EntR ρ e m
def BRel (P:Program)(ρ:Ren)(pl:Pl)(x:Blk)(o:Option Obj):Prop:=
 match x with
 | .cells cs e k=> ∃ccs ce lo hi,o=some (.cells ccs ce (lo,hi))/\(∀(i:Nat)(v:Value),cs[i]? =some v-> ∃v',ccs[pl.base+i]? =some v'/\Vr ρ v v')/\
   (k≠ .ro-> ∀off,off<ccs.size-> ¬(lo<=off/\off<hi))/\(k= .row->pl.room=some (P.cellsOf e,ccs.size))/\(k≠ .row->pl.room=none)
 | .map es clock=> ∃ces,o=some (.map ces clock)/\pl.base=0/\EntsR ρ es ces.toList
 | .dead=>True
def I4 (P:Program):Option Nat:=P.globalNamed "math/bits.deBruijn32tab"
def vP:List Int:=[0,1,28,2,29,14,24,3,30,22,20,15,25,17,4,8,31,27,13,23,21,19,16,7,26,12,18,6,11,5,10,9]
def TabAt (o:Option Obj):Prop:= ∃cs e r,o=some (.cells cs e r)/\cs.toList=vP.map (Value.int .u8)
def Tab (P:Program)(ρ:Ren)(G:Nat->Option Blk)(w:World):Prop:=
 ∀g,I4 P=some g->TabAt w.heap[g]? /\ ∀(b:Nat)(pl:Pl),ρ b=some pl->wr (G b)=true->pl.c≠g
structure Rel (P:Program)(ρ:Ren)(G:Nat->Option Blk)(w:World):Prop where
 lt: ∀(b:Nat)(pl:Pl),ρ b=some pl->pl.c<w.heap.size
 blk: ∀(b:Nat)(pl:Pl)(x:Blk),ρ b=some pl->G b=some x->BRel P ρ pl x w.heap[pl.c]?
 sep: ∀(b1 b2:Nat)(p1 p2:Pl),b1≠b2->ρ b1=some p1->ρ b2=some p2->wr (G b1)=true->G b2≠some .dead->p1.c≠p2.c
 tab:Tab P ρ G w
abbrev cE (H:aG):Nat->Option Blk:=λb=>H[b]?
theorem EntR.aEn {ρ ρ':Ren}(hle:ρ.pE ρ'){e:Ent}{m:MapEntry}(h:EntR ρ e m):EntR ρ' e m:=⟨h.1.sU hle,h.2.1.sU hle,h.2.2⟩
theorem BRel.I2 {P:Program}{ρ ρ':Ren}(hle:ρ.pE ρ'){pl:Pl}{x:Blk}{o:Option Obj}(h:BRel P ρ pl x o):BRel P ρ' pl x o:=by
 cases x with
 |dead=>trivial
 |map es clock=>obtain⟨ces,ho,hb,hl,he⟩:=h;exact⟨ces,ho,hb,hl,λi e m h1 h2=>(he i e m h1 h2).aEn hle⟩
 |cells cs e k=>
  obtain⟨ccs,ce,lo,hi,ho,hv,hrest⟩:=h
  exact⟨ccs,ce,lo,hi,ho,λi v hi=>let⟨v',h1,h2⟩:=hv i v hi;⟨v',h1,h2.sU hle⟩,hrest⟩
structure Step (P:Program)(ρ:Ren)(H:aG)(w:World)(ρ':Ren)(H':aG)(w':World):Prop where
 rel:Rel P ρ' (cE H') w'
 le:ρ.pE ρ'
 new: ∀b:Nat,ρ' b≠none->ρ b≠none∨(H.length<=b/\b<H'.length)
 len:H.length<=H'.length
 free: ∀b:Nat,H.length<=b->b<H'.length->ρ b=none
 size:w.heap.size<=w'.heap.size
 frame: ∀c:Nat,c<w.heap.size->(∀(b:Nat)(pl:Pl),ρ b=some pl->wr H[b]? =true->pl.c≠c)->w'.heap[c]? =w.heap[c]?
 un: ∀b:Nat,b<H.length->ρ b=none->H'[b]? =H[b]?
 dead: ∀b:Nat,H[b]? =some .dead->H'[b]? =some .dead
 kd: ∀b:Nat,b<H.length->wr H'[b]? =true->wr H[b]? =true
 fresh: ∀(b:Nat)(pl:Pl),ρ b=none->ρ' b=some pl->w.heap.size<=pl.c∨ ∃b0 p0,ρ b0=some p0/\wr H[b0]? =true/\p0.c=pl.c
 os:w'.os=w.os
 tape:w'.tape=w.tape
 output:w'.output=w.output
def Af (P:Program)(w:World):Prop:= ∀g,I4 P=some g->TabAt w.heap[g]?
theorem TabAt.aEs {w:World}{g:Nat}(h:TabAt w.heap[g]?):g<w.heap.size:=by
 obtain⟨cs,e,r,h1,_⟩:=h
 exact(aTl.1 h1).1
theorem Rel.I3 {P:Program}{ρ:Ren}{G:Nat->Option Blk}{w:World}(h:Rel P ρ G w):Af P w:=λg hg=>(h.tab g hg).1
theorem Tab.C4 {P:Program}{ρ ρ':Ren}{G G':Nat->Option Blk}{w w':World}(h:Tab P ρ G w)
  (hf: ∀c:Nat,c<w.heap.size->(∀(b:Nat)(pl:Pl),ρ b=some pl->wr (G b)=true->pl.c≠c)->w'.heap[c]? =w.heap[c]?)
  (hn: ∀(b:Nat)(pl:Pl),ρ' b=some pl->wr (G' b)=true->w.heap.size<=pl.c∨ ∃b0 p0,ρ b0=some p0/\wr (G b0)=true/\p0.c=pl.c):Tab P ρ' G' w':=λg hg=>by
 obtain⟨h1,h2⟩:=h g hg;have hlt:=h1.aEs;refine⟨by rw[hf g hlt h2];exact h1,λb pl hb hw=> ?_⟩
 rcases hn b pl hb hw with h3|⟨b0,p0,h3,h4,h5⟩
 ·omega
 ·rw[<-h5]
  exact h2 b0 p0 h3 h4
section
variable {P : Program} {ρ ρ' ρ'' : Ren} {H H' H'' : aG} {w w' w'' : World}
theorem Step.pF (h:Rel P ρ (cE H) w):Step P ρ H w ρ H w:=
 ⟨h,Ren.C3 ρ,λb h=> .inl h,aS1 _,λb h1 h2=>absurd h1 U,aS1 _,λ_ _ _=>rfl,λ_ _ _=>rfl,λ_ h=>h,λ_ _ h=>h,
  λb pl h h'=>by simp[h] at h',rfl,rfl,rfl⟩
theorem Step.aEr (h:Step P ρ H w ρ' H' w')(h':Step P ρ' H' w' ρ'' H'' w''):Step P ρ H w ρ'' H'' w'' where
 rel:=h'.rel
 le:=Ren.Tg h.le h'.le
 new:=λb hb=>by
  rcases h'.new b hb with h1|⟨h1,h2⟩
  ·rcases h.new b h1 with h3|⟨h3,h4⟩
   ·exact .inl h3
   ·exact .inr ⟨h3,aTb h4 h'.len⟩
  ·exact .inr ⟨aTc h.len h1,h2⟩
 len:=aTc h.len h'.len
 free:=λb h1 h2=>by
  rcases Nat.lt_or_ge b H'.length with h3|h3
  ·exact h.free b h1 h3
  ·have:=h'.free b h3 h2
   cases hρ:ρ b with
   |none=>rfl
   |some pl=>rw[h.le b pl hρ] at this;cases this
 size:=aTc h.size h'.size
 frame:=λc hc hf=>by
  have h1:=h.frame c hc hf;rw[h'.frame c (aTb hc h.size) ?_,h1];intro b pl hb hw;cases hρ:ρ b with
  |some pl0=>
   have:=h.le b pl0 hρ;rw[hb] at this;injection this with e;subst e;have hlt:b<H.length:=by
    rcases Nat.lt_or_ge b H.length with hlt|hge
    ·exact hlt
    ·exfalso
     rcases Nat.lt_or_ge b H'.length with h2|h2
     ·rw[h.free b hge h2] at hρ;cases hρ
     ·rw[aS7 h2] at hw;simp[wr] at hw
   exact hf b pl hρ (h.kd b hlt hw)
  |none=>
   rcases h.fresh b pl hρ hb with hge|⟨b0,p0,h3,h4,h5⟩
   ·omega
   ·rw[<-h5];exact hf b0 p0 h3 h4
 un:=λb hb hn=>by
  have hn':ρ' b=none:=by
   cases hρ:ρ' b with
   |none=>rfl
   |some pl=>
    rcases h.new b (by simp[hρ]) with h1|h1
    ·exact absurd hn h1
    ·omega
  rw[h'.un b (aTb hb h.len) hn',h.un b hb hn]
 dead:=λb hb=>h'.dead b (h.dead b hb)
 kd:=λb hb hw=>h.kd b hb (h'.kd b (aTb hb h.len) hw)
 fresh:=λb pl hn hb=>by
  cases hρ:ρ' b with
  |some pl0=>
   have:=h'.le b pl0 hρ;rw[hb] at this;injection this with e;subst e;exact h.fresh b pl hn hρ
  |none=>
   rcases h'.fresh b pl hρ hb with hge|⟨b0,p0,h3,h4,h5⟩
   ·exact .inl (aTc h.size hge)
   ·cases h0:ρ b0 with
    |some p1=>
     have:=h.le b0 p1 h0;rw[h3] at this;injection this with e;subst e;refine .inr ⟨b0,p0,h0,?_,h5⟩;rcases Nat.lt_or_ge b0 H.length with hlt|hge
     ·exact h.kd b0 hlt h4
     ·exfalso
      rcases Nat.lt_or_ge b0 H'.length with h2|h2
      ·rw[h.free b0 hge h2] at h0;cases h0
      ·rw[aS7 h2] at h4;simp[wr] at h4
    |none=>
     rw[<-h5];exact h.fresh b0 p0 h0 h3
 os:=h'.os.trans h.os
 tape:=h'.tape.trans h.tape
 output:=h'.output.trans h.output
end
section
variable {P : Program} {ρ : Ren} {H : aG} {w w' : World}
theorem mW {b:Nat}{x:Blk}(h:H[b]? =some x):b<H.length:=(aSW.1 h).1
theorem vR {o:Option Blk}(h:wr o=true): ∃x,o=some x/\x≠ .dead:=by
 cases o with
 |none=>simp[wr] at h
 |some x=>exact⟨x,rfl,by rintro rfl;simp[wr] at h⟩
theorem Step.I6 (hr:Rel P ρ (cE H) w){b:Nat}{pl:Pl}{x:Blk}(hb:ρ b=some pl)(hw:wr H[b]? =true)
  (hs:w.heap.size<=w'.heap.size)(hsame: ∀c:Nat,c≠pl.c->c<w.heap.size->w'.heap[c]? =w.heap[c]?)(hx:BRel P ρ pl x w'.heap[pl.c]?)
  (hos:w'.os=w.os)(htape:w'.tape=w.tape)(hout:w'.output=w.output):Step P ρ H w ρ (H.set b x) w':=by
 obtain⟨x0,hx0,hnd⟩:=vR hw;have hlt:=mW hx0;have get: ∀b':Nat,(H.set b x)[b']? =if b'=b then some x else H[b']? :=by
  intro b';rw[List.getElem?_set];by_cases h:b=b'
  ·subst h;simp[hlt]
  ·simp[h,Ne.symm h]
 have wmono: ∀b':Nat,wr (H.set b x)[b']? =true->wr H[b']? =true:=by
  intro b' h;rw[get] at h
  split at h
  ·rename_i e;subst e;exact hw
  ·exact h
 have hfr: ∀c:Nat,c<w.heap.size->(∀(b:Nat)(pl:Pl),ρ b=some pl->wr (cE H b)=true->pl.c≠c)->w'.heap[c]? =w.heap[c]? :=λc hc hf=>hsame c (λe=>hf b pl hb hw e.symm) hc
 refine⟨⟨λb' p h=>aTb (hr.lt b' p h) hs,?_,?_,hr.tab.C4 hfr λb' p hp hw'=> .inr ⟨b',p,hp,wmono b' hw',rfl⟩⟩,Ren.C3 _,λb' h=> .inl h,by simp,λb' h1 h2=>absurd h1 (by simp at h2;omega),hs,?_,?_,?_,?_,?_,hos,htape,hout⟩
 ·intro b' p y hp hy
  simp only[cE] at hy;rw[get] at hy
  split at hy
  ·rename_i e;subst e;injection hy with hy;subst hy
   rw[hb] at hp;injection hp with hp;subst hp;exact hx
  ·rename_i hne
   by_cases hd:y= .dead
   ·subst hd;trivial
   ·have:p.c≠pl.c:=λe=>hr.sep b b' pl p (Ne.symm hne) hb hp hw (by simp only[cE];rw[hy];simpa using hd) e.symm
    rw[hsame _ this (hr.lt _ _ hp)];exact hr.blk b' p y hp hy
 ·intro b1 b2 p1 p2 hne h1 h2 hw1 hd2
  refine hr.sep b1 b2 p1 p2 hne h1 h2 (wmono b1 hw1) ?_;simp only[cE] at hd2⊢;rw[get] at hd2
  split at hd2
  ·rename_i e;subst e;rw[hx0];simpa using hnd
  ·exact hd2
 ·intro c hc hf
  exact hsame c (λe=>hf b pl hb hw e.symm) hc
 ·intro b' _ hn
  rw[get];split
  ·rename_i e;subst e;rw[hb] at hn;cases hn
  ·rfl
 ·intro b' hd
  rw[get];split
  ·rename_i e;subst e;rw[hx0] at hd;injection hd with hd;exact absurd hd hnd
  ·exact hd
 ·intro b' _ h;exact wmono b' h
 ·intro b' p hn h;rw[hn] at h;cases h
def Ren.upd (ρ:Ren)(b:Nat)(pl:Pl):Ren:=λb'=>if b'=b then some pl else ρ b'
theorem Ren.nN (ρ:Ren)(b:Nat)(pl:Pl):ρ.upd b pl b=some pl:=by simp[Ren.upd]
theorem Ren.I5 {ρ:Ren}{b:Nat}(pl:Pl)(h:ρ b=none):ρ.pE (ρ.upd b pl):=λb' p hp=>by
 unfold Ren.upd;split
 ·rename_i e;subst e;rw[h] at hp;cases hp
 ·exact hp
theorem Step.I8 (hr:Rel P ρ (cE H) w)(hfree:ρ H.length=none){G:aG}(hlen:G.length=H.length)
    {pl:Pl}{x:Blk}(hG: ∀b:Nat,G[b]? =H[b]? ∨(G[b]? =some .dead/\ ∃p,ρ b=some p/\wr H[b]? =true))
    (hpl:w.heap.size<=pl.c∨ ∃(b0:Nat)(p0:Pl),ρ b0=some p0/\wr H[b0]? =true/\p0.c=pl.c/\G[b0]? =some .dead)
    (hs:w.heap.size<=w'.heap.size)(hlt:pl.c<w'.heap.size)(hsame: ∀c:Nat,c≠pl.c->c<w.heap.size->w'.heap[c]? =w.heap[c]?)
    (hx:BRel P (ρ.upd H.length pl) pl x w'.heap[pl.c]?)(hxd:x≠ .dead)
    (hos:w'.os=w.os)(htape:w'.tape=w.tape)(hout:w'.output=w.output):Step P ρ H w (ρ.upd H.length pl) (G++[x]) w':=by
  have get: ∀b':Nat,(G++[x])[b']? =if b'=H.length then some x else G[b']? :=by
    intro b';rw[List.getElem?_append];by_cases h:b'<G.length
    · have:b'≠H.length:=U
      simp[h,this]
    · by_cases h2:b'=H.length
      · subst h2;simp[hlen]
      · have:G[b']? =none:=aS7 U
        simp[h,h2,this];omega
  have le:=Ren.I5 pl hfree;have old: ∀(b':Nat)(p:Pl),b'≠H.length->ρ.upd H.length pl b'=some p->ρ b'=some p:=by
    intro b' p hne h;simpa[Ren.upd,hne] using h
  have wmono: ∀b':Nat,b'≠H.length->wr (G++[x])[b']? =true->wr H[b']? =true:=by
    intro b' hne h;rw[get,if_neg hne] at h;rcases hG b' with e|⟨_,_,_,e⟩
    · rw[e] at h;exact h
    · exact e
  -- no other living block lies where the new one does
  have apart: ∀(b':Nat)(p:Pl),b'≠H.length->ρ b'=some p->(G++[x])[b']? ≠some .dead->p.c≠pl.c:=by
    intro b' p hne hp hd e;rcases hpl with h|⟨b0,p0,h0,hw0,hc0,hd0⟩
    · have:=hr.lt b' p hp;omega
    · have hne0:b0≠b':=by
        rintro rfl
        apply hd;rw[get,if_neg hne];exact hd0
      refine hr.sep b0 b' p0 p hne0 h0 hp hw0 ?_ (by rw[hc0,e])
      intro hdd;apply hd;rw[get,if_neg hne];rcases hG b' with e'|⟨e',_⟩
      · rw[e'];exact hdd
      · exact e'
  have hfr: ∀c:Nat,c<w.heap.size->(∀(b:Nat)(pl:Pl),ρ b=some pl->wr (cE H b)=true->pl.c≠c)->w'.heap[c]? =w.heap[c]? :=by
    intro c hc hf;refine hsame c ?_ hc;rcases hpl with h|⟨b0,p0,h0,hw0,hc0,_⟩
    · omega
    · exact λe=>hf b0 p0 h0 hw0 (by rw[hc0,e])
  have htb:Tab P (ρ.upd H.length pl) (cE (G++[x])) w':=hr.tab.C4 hfr λb' p hp hw'=>by
    by_cases h:b'=H.length
    · subst h
      rw[Ren.nN] at hp;injection hp with hp;subst hp;rcases hpl with h|⟨b0,p0,h0,hw0,hc0,_⟩
      · exact .inl h
      · exact .inr ⟨b0,p0,h0,hw0,hc0⟩
    · exact .inr ⟨b',p,old b' p h hp,wmono b' h hw',rfl⟩
  refine⟨⟨?_,?_,?_,htb⟩,le,?_,by simp;omega,?_,hs,?_,?_,?_,?_,?_,hos,htape,hout⟩
  · intro b' p hp
    by_cases h:b'=H.length
    · subst h;rw[Ren.nN] at hp;injection hp with hp;subst hp;exact hlt
    · exact aTb (hr.lt b' p (old b' p h hp)) hs
  · intro b' p y hp hy
    simp only[cE] at hy;by_cases h:b'=H.length
    · subst h
      rw[get,if_pos rfl] at hy;injection hy with hy;subst hy;rw[Ren.nN] at hp;injection hp with hp;subst hp;exact hx
    · have hp':=old b' p h hp
      by_cases hd:y= .dead
      · subst hd;trivial
      · have hc:=apart b' p h hp' (by rw[hy];simpa using hd)
        rw[hsame _ hc (hr.lt _ _ hp')];rw[get,if_neg h] at hy;rcases hG b' with e|⟨e,_⟩
        · exact(hr.blk b' p y hp' (by simp only[cE];rw[<-e];exact hy)).I2 le
        · rw[e] at hy;injection hy with hy;exact absurd hy.symm hd
  · intro b1 b2 p1 p2 hne h1 h2 hw1 hd2
    simp only[cE] at hw1 hd2;by_cases e1:b1=H.length
    · subst e1
      rw[Ren.nN] at h1;injection h1 with h1;subst h1;exact λe=>apart b2 p2 (Ne.symm hne) (old b2 p2 (Ne.symm hne) h2) hd2 e.symm
    · have h1':=old b1 p1 e1 h1
      by_cases e2:b2=H.length
      · subst e2
        rw[Ren.nN] at h2;injection h2 with h2;subst h2;refine apart b1 p1 e1 h1' ?_;obtain⟨y,hy,hyd⟩:=vR hw1;rw[hy];simpa using hyd
      · refine hr.sep b1 b2 p1 p2 hne h1' (old b2 p2 e2 h2) (wmono b1 e1 hw1) ?_
        intro hdd;apply hd2;rw[get,if_neg e2];rcases hG b2 with e'|⟨e',_⟩
        · rw[e'];exact hdd
        · exact e'
  · intro b' hb
    by_cases h:b'=H.length
    · right;subst h;simp;omega
    · left;simpa[Ren.upd,h] using hb
  · intro b' h1 h2
    have:b'=H.length:=by simp at h2;omega
    subst this;exact hfree
  · intro c hc hf
    refine hsame c ?_ hc;rcases hpl with h|⟨b0,p0,h0,hw0,hc0,_⟩
    · omega
    · exact λe=>hf b0 p0 h0 hw0 (by rw[hc0,e])
  · intro b' hb hn
    have h:b'≠H.length:=U
    rw[get,if_neg h];rcases hG b' with e|⟨_,p,hp,_⟩
    · exact e
    · rw[hn] at hp;cases hp
  · intro b' hd
    have h:b'≠H.length:=by have:=mW hd;omega
    rw[get,if_neg h];rcases hG b' with e|⟨e,_⟩
    · rw[e];exact hd
    · exact e
  · intro b' hb h
    exact wmono b' U h
  · intro b' p hn hp
    by_cases h:b'=H.length
    · subst h
      rw[Ren.nN] at hp;injection hp with hp;subst hp;rcases hpl with h|⟨b0,p0,h0,hw0,hc0,_⟩
      · exact .inl h
      · exact .inr ⟨b0,p0,h0,hw0,hc0⟩
    · have:=old b' p h hp;rw[hn] at this;cases this
theorem Step.I7 (hr:Rel P ρ (cE H) w)(hfree:ρ H.length=none){pl:Pl}{x:Blk}(hpl:w.heap.size<=pl.c)
  (hs:w.heap.size<=w'.heap.size)(hlt:pl.c<w'.heap.size)(hsame: ∀c:Nat,c<w.heap.size->w'.heap[c]? =w.heap[c]?)
  (hx:BRel P (ρ.upd H.length pl) pl x w'.heap[pl.c]?)(hxd:x≠ .dead)
  (hos:w'.os=w.os)(htape:w'.tape=w.tape)(hout:w'.output=w.output):Step P ρ H w (ρ.upd H.length pl) (H++[x]) w':=
 Step.I8 hr hfree rfl (λ_=> .inl rfl) (.inl hpl) hs hlt (λc _ h=>hsame c h) hx hxd hos htape hout
end
theorem sW (c o n:Nat):(⟨c,o,none⟩:Addr).add n=⟨c,o+n,none⟩:=by
 unfold Addr.add;split<;>simp_all
theorem Ah {w:World}{c:Nat}{ccs:Array Value}{ce:TypeId}{fr:Nat×Nat}(h:w.heap[c]? =some (.cells ccs ce fr))(o:Nat):
  w.cell? ⟨c,o,none⟩=ccs[o]? :=by simp[World.cell?,h]
theorem BRel.C6 {P:Program}{ρ:Ren}{pl:Pl}{cs:List Value}{e:TypeId}{k:Kind}{w:World}(h:BRel P ρ pl (.cells cs e k) w.heap[pl.c]?)
  {o n:Nat}(hn:o+n<=cs.length): ∃ys:List Value,ys.length=n/\Vrs ρ ((cs.drop o).take n) ys/\ ∀(j:Nat)(v:Value),ys[j]? =some v->w.cell? ((⟨pl.c,pl.base+o,none⟩:Addr).add j)=some v:=by
 obtain⟨ccs,ce,lo,hi,ho,hv,_⟩:=h;have hlen: ∀i,i<cs.length->pl.base+i<ccs.size:=by
  intro i hi;obtain⟨v',h1,_⟩:=hv i cs[i] (by simp[hi])
  exact(aTl.1 h1).1
 have hl:((ccs.toList.drop (pl.base+o)).take n).length=n:=by
  rcases Nat.eq_zero_or_pos n with h0|h0
  ·simp[h0]
  ·have:=hlen (o+n-1) U
   simp;omega
 refine⟨(ccs.toList.drop (pl.base+o)).take n,hl,⟨by rw[hl];simp;omega,?_⟩,?_⟩
 ·intro i u v hu hv'
  rw[List.getElem?_take] at hu hv'
  split at hu
  ·rename_i hin
   rw[if_pos hin] at hv';simp only[List.getElem?_drop] at hu hv';obtain⟨v',h1,h2⟩:=hv (o+i) u hu;rw[show pl.base+o+i=pl.base+(o+i) by omega] at hv'
   rw[Array.getElem?_toList] at hv';rw[h1] at hv';injection hv' with e;subst e;exact h2
  ·cases hu
 ·intro j v hj
  rw[sW,Ah ho];rw[List.getElem?_take] at hj
  split at hj
  ·simp only[List.getElem?_drop,Array.getElem?_toList] at hj;exact hj
  ·cases hj
def lJ (ccs:Array Value)(o:Nat):List Value->Array Value
 |[]=>ccs
 |x::xs=>lJ (ccs.setIfInBounds o x) (o+1) xs
theorem C7 (ccs:Array Value)(o:Nat)(vs:List Value):(lJ ccs o vs).size=ccs.size:=by
 induction vs generalizing ccs o with
 |nil=>rfl
 |cons x xs ih=>simp[lJ,ih]
theorem Tm (ccs:Array Value)(o:Nat)(vs:List Value)(ho:o+vs.length<=ccs.size)(j:Nat):
  (lJ ccs o vs)[j]? =if o<=j/\j<o+vs.length then vs[j-o]? else ccs[j]? :=by
 induction vs generalizing ccs o with
 |nil=>simp[lJ];omega
 |cons x xs ih=>
  simp only[aTi] at ho;rw[lJ,ih _ _ (by simp;omega)]
  by_cases h1:o+1<=j/\j<o+1+xs.length
  ·rw[if_pos h1,if_pos ⟨by omega,by simp;omega⟩]
   obtain⟨m,hm⟩: ∃m,j-o=m+1:=⟨j-o-1,by omega⟩
   rw[hm,List.getElem?_cons_succ,show j-(o+1)=m by omega]
  ·rw[if_neg h1]
   by_cases h2:j=o
   ·subst h2
    rw[if_pos (by simp)]
    simp[show j<ccs.size by omega]
   ·rw[if_neg (by simp;omega),Array.getElem?_setIfInBounds_ne U]
theorem Tn (cs:List Value)(o:Nat)(vs:List Value)(ho:o+vs.length<=cs.length)(j:Nat):
  (cT cs o vs)[j]? =if o<=j/\j<o+vs.length then vs[j-o]? else cs[j]? :=by
 induction vs generalizing cs o with
 |nil=>simp[cT];omega
 |cons x xs ih=>
  simp only[aTi] at ho;rw[cT,ih _ _ (by simp;omega)]
  by_cases h1:o+1<=j/\j<o+1+xs.length
  ·rw[if_pos h1,if_pos ⟨by omega,by simp;omega⟩]
   obtain⟨m,hm⟩: ∃m,j-o=m+1:=⟨j-o-1,by omega⟩
   rw[hm,List.getElem?_cons_succ,show j-(o+1)=m by omega]
  ·rw[if_neg h1]
   by_cases h2:j=o
   ·subst h2
    rw[if_pos (by simp)]
    simp[show j<cs.length by omega]
   ·rw[if_neg (by simp;omega),aSX U]
def jM (w:World)(c:Nat)(x:Obj):World:={w with heap:=w.heap.setIfInBounds c x}
theorem vQ (w:World)(c:Nat)(x:Obj)(h:c<w.heap.size)(j:Nat):(jM w c x).heap[j]? =if j=c then some x else w.heap[j]? :=by
 simp only[jM,Array.getElem?_setIfInBounds];by_cases e:c=j
 ·subst e;simp[h]
 ·simp[e,Ne.symm e]
theorem aEx (w:World)(c:Nat)(x y:Obj):jM (jM w c x) c y=jM w c y:=by
 simp[jM,Array.setIfInBounds_setIfInBounds]
theorem aEy {w:World}{c o:Nat}{ccs:Array Value}{ce:TypeId}{fr:Nat×Nat}(h:w.heap[c]? =some (.cells ccs ce fr))(v:Value):
  w.setCell ⟨c,o,none⟩ v=jM w c (.cells (ccs.setIfInBounds o v) ce fr):=by
 have hlt:=(aTl.1 h).1;have e:w.heap[c]= .cells ccs ce fr:=(aTl.1 h).2;have hh: ∀f:Obj->Obj,w.heap.modify c f=w.heap.setIfInBounds c (f (.cells ccs ce fr)):=by
  intro f;apply Array.ext';simp only[Array.toList_modify,Array.toList_setIfInBounds];apply aTx;intro i;rw[List.getElem?_modify,List.getElem?_set];by_cases hi:c=i
  ·subst hi;simp[hlt,e]
  ·simp[hi]
 unfold World.setCell jM;simp only[hh];simp
theorem I9 (P:Program)(c o:Nat)(ce:TypeId)(fr:Nat×Nat): ∀(vs:List Value)(i:Nat)(w:World)(ccs:Array Value),
  w.heap[c]? =some (.cells ccs ce fr)->o+i+vs.length<=ccs.size->(∀off,off<ccs.size-> ¬(fr.1<=off/\off<fr.2))->(∀v∈vs,v.oneCell'=true)->
  (storeCells ⟨c,o,none⟩ vs i).run P w= .ok () (if vs=[] then w else jM w c (.cells (lJ ccs (o+i) vs) ce fr))
 |[],i,w,ccs,_,_,_,_=>by simp[storeCells]
 |v::vs,i,w,ccs,h,hl,hf,h1=>by
  simp only[aTi] at hl;have hc:w.cell? ⟨c,o+i,none⟩=some ccs[o+i]:=by rw[Ah h];simp
  have hfz:w.frozen? ⟨c,o+i,none⟩=false:=by
   have:=hf (o+i) U
   obtain⟨lo,hi⟩:=fr;simp only[World.frozen?,h];simp only at this;simpa using this
  have hlt:=(aTl.1 h).1;simp only[storeCells,Sem.run_bind,sW,run_store P w _ v .plain (h1 v (by simp)),hc,hfz,Result.andThen,aEy h,Bool.false_eq_true,if_false,List.cons_ne_nil]
  have h':(jM w c (.cells (ccs.setIfInBounds (o+i) v) ce fr)).heap[c]? =some (.cells (ccs.setIfInBounds (o+i) v) ce fr):=by
   rw[vQ _ _ _ hlt];simp
  rw[I9 P c o ce fr vs (i+1) _ _ h' (by simp;omega) (by simpa using hf) (λu hu=>h1 u (by simp[hu]))]
  cases vs with
  |nil=>simp[lJ]
  |cons u us=>
   rw[if_neg (by simp),aEx]
   rfl
section
variable {P : Program} {ρ : Ren} {H H' : aG} {w : World}
def Post (P:Program)(ρ:Ren)(H:aG)(w:World)(v:Value)(H':aG):Value->World->Prop:=
 λv' w'=> ∃ρ',Vr ρ' v v'/\Step P ρ H w ρ' H' w'
def pG {α:Type}(P:Program)(s:Sem α)(w:World)(R:α->World->Prop):Prop:= ∃v w',s.run P w= .ok v w'/\R v w'
theorem Post.kE (hr:Rel P ρ (cE H) w){v v':Value}(h:Vr ρ v v'):Post P ρ H w v H v' w:=⟨ρ,h,Step.pF hr⟩
theorem aEz {α:Type}(s:Sem α)(a:α)(h:pur P s=some a)(w:World):s.run P w= .ok a w:=by
 induction s with
 |pure b=>simp[pur] at h;subst h;rfl
 |program k ih=>simp only[pur] at h;simp only[Sem.run];exact ih P h
 |_=>simp[pur] at h
theorem mX {t:TypeId}{sz b:Nat}(h:eS P t=some (sz,b))(w:World):(Go.sizeOf t).run P w= .ok sz w:=by
 unfold eS at h;cases hi:P.info? t with
 |none=>simp[hi] at h
 |some i=>simp[hi] at h;simp[Go.sizeOf,typeInfo,hi,h.1]
theorem C8 {t:TypeId}{sz b:Nat}(h:eS P t=some (sz,b)): ∃i,P.info? t=some i/\i.size=sz/\i.bytes=b:=by
 unfold eS at h;cases hi:P.info? t with
 |none=>simp[hi] at h
 |some i=>simp[hi] at h;exact⟨i,rfl,h.1,h.2⟩
theorem Ja {t:TypeId}{sz b:Nat}(h:eS P t=some (sz,b)):P.cellsOf t=sz:=by
 obtain⟨i,hi,h1,_⟩:=C8 h;simp[Program.cellsOf,hi,h1]
theorem yI {t:TypeId}{z:Value}(h:nK P t=some z)(w:World):(zeroValue t).run P w= .ok z w:=by
 unfold nK at h;cases hi:P.info? t with
 |none=>simp[hi] at h
 |some i=>simp[hi] at h;simp[zeroValue,typeInfo,hi,h]
theorem yH {t:TypeId}{g:Bool}(h:lI P t=some g)(w:World):(isAgg t).run P w= .ok g w:=by
 unfold lI at h;cases hu:P.underlying t with
 |none=>simp[hu] at h
 |some d=>cases d<;>simp_all [isAgg,run_underlying hu]
theorem Jb {a v:Value}(h:ld1 a H=some (v,H')):H'=H/\ ∃b o cs e k,a=adr b o/\H[b]? =some (.cells cs e k)/\cs[o]? =some v:=by
 unfold ld1 at h
 split at h
 ·rename_i b o
  split at h
  ·rename_i cs e k hb
   split at h
   ·rename_i x hx
    injection h with h;injection h with h1 h2;subst h1;subst h2
    exact⟨rfl,b,o,cs,e,k,rfl,hb,hx⟩
   ·cases h
  ·cases h
 ·cases h
theorem Jc {n:Nat}{a v:Value}(h:ldN n a H=some (v,H')):H'=H/\ ∃b o cs e k,a=adr b o/\H[b]? =some (.cells cs e k)/\o+n<=cs.length/\v= .agg ((cs.drop o).take n).toArray:=by
 unfold ldN at h
 split at h
 ·rename_i b o
  split at h
  ·rename_i cs e k hb
   split at h
   ·rename_i hx
    injection h with h;injection h with h1 h2;subst h1;subst h2
    exact⟨rfl,b,o,cs,e,k,rfl,hb,hx,rfl⟩
   ·cases h
  ·cases h
 ·cases h
theorem Vr.yG {b o:Nat}{v':Value}(h:Vr ρ (adr b o) v'): ∃pl,ρ b=some pl/\v'=adr pl.c (pl.base+o):=by
 cases h with
 |same h=>simp[dH] at h
 | @ptr _ _ pl h=>exact⟨pl,h,rfl⟩
theorem To (hr:Rel P ρ (cE H) w){ty:TypeId}{sz by':Nat}{g:Bool}(hs:eS P ty=some (sz,by'))(hg:lI P ty=some g){a a' v:Value}(ha:Vr ρ a a')
  (h:(if g=true then ldN sz a else ld1 a) H=some (v,H')):H'=H/\ ∃ad v',a'= .pointer (some ad)/\(loadVar ty ad).run P w= .ok v' w/\Vr ρ v v':=by
 cases g with
 |true=>
  simp only[if_true] at h;obtain⟨rfl,b,o,cs,e,k,rfl,hb,hn,rfl⟩:=Jc h;obtain⟨pl,hpl,rfl⟩:=ha.yG;obtain⟨ys,hyl,hys,hcell⟩:=(hr.blk b pl _ hpl hb).C6 hn;have hrun:=run_loadCells_list (P:=P) w ⟨pl.c,pl.base+o,none⟩ ys hcell;rw[hyl] at hrun
  exact⟨rfl,_,.agg ys.toArray,rfl,by simp[loadVar,yH hg,mX hs,hrun],.agg (by simpa using hys.1) (by simpa using hys.2)⟩
 |false=>
  simp only[Bool.false_eq_true,if_false] at h;obtain⟨rfl,b,o,cs,e,k,rfl,hb,hx⟩:=Jb h;obtain⟨pl,hpl,rfl⟩:=ha.yG;obtain⟨ccs,ce,lo,hi,ho,hv,_⟩:=hr.blk b pl _ hpl hb;obtain⟨v',h1,h2⟩:=hv o v hx;have hc:w.cell? ⟨pl.c,pl.base+o,none⟩=some v':=by rw[Ah ho];exact h1
  exact⟨rfl,_,v',rfl,by simp[loadVar,yH hg,hc],h2⟩
theorem Db (hr:Rel P ρ (cE H) w){b:Nat}{pl:Pl}{cs:List Value}{e:TypeId}{k:Kind}(hb:ρ b=some pl)(hH:H[b]? =some (.cells cs e k))(hk:k≠ .ro)
  {o:Nat}{vs vs':List Value}(hv:Vrs ρ vs vs')(hl:o+vs.length<=cs.length)(hc:cA vs=true):
  ∃w',(storeCells ⟨pl.c,pl.base+o,none⟩ vs').run P w= .ok () w'/\Step P ρ H w ρ (H.set b (.cells (cT cs o vs) e k)) w':=by
 have hB:=hr.blk b pl _ hb hH;obtain⟨ccs,ce,lo,hi,ho,hcs,hfz,hrow,hnrow⟩:=hB;have hlen: ∀i,i<cs.length->pl.base+i<ccs.size:=by
  intro i hi;obtain⟨v',h1,_⟩:=hcs i cs[i] (by simp[hi])
  exact(aTl.1 h1).1
 have hwr:wr H[b]? =true:=by rw[hH];simpa[wr] using hk
 have hlt:=(aTl.1 ho).1;cases hvs:vs with
 |nil=>
  subst hvs;rw[hv.nM];have:H.set b (.cells cs e k)=H:=by
   apply aTx;intro i;rw[List.getElem?_set];by_cases hi:b=i
   ·subst hi;rw[hH];simp[mW hH]
   ·simp[hi]
  refine⟨w,by simp[storeCells],?_⟩
  simp only[cT,this];exact Step.pF hr
 |cons x xs=>
  have hne:vs≠[]:=by rw[hvs];simp
  rw[<-hvs];have hne':vs'≠[]:=by
   rintro rfl
   have:=hv.1;simp at this;exact hne this
  have hsz:pl.base+o+vs'.length<=ccs.size:=by
   have:=hlen (o+vs.length-1) (by have:=List.length_pos_iff.2 hne;omega)
   have:=List.length_pos_iff.2 hne;rw[<-hv.1];omega
  have hrun:=I9 P pl.c (pl.base+o) ce (lo,hi) vs' 0 w ccs ho (by simpa using hsz) (hfz hk) (hv.Th hc)
  rw[if_neg hne'] at hrun;refine⟨_,hrun,?_⟩;refine Step.I6 hr hb hwr (by simp[jM]) (λc hc _=>by rw[vQ _ _ _ hlt,if_neg hc]) ?_ rfl rfl rfl
  refine⟨lJ ccs (pl.base+o+0) vs',ce,lo,hi,by rw[vQ _ _ _ hlt];simp,?_,?_,?_,?_⟩
  ·intro i v hi
   rw[Tn _ _ _ hl] at hi;rw[Tm _ _ _ (by simpa using hsz)]
   by_cases h1:o<=i/\i<o+vs.length
   ·rw[if_pos h1] at hi
    rw[if_pos (by rw[<-hv.1];omega),show pl.base+i-(pl.base+o+0)=i-o by omega]
    exact hv.yF hi
   ·rw[if_neg h1] at hi
    rw[if_neg (by rw[<-hv.1];omega)]
    exact hcs i v hi
  ·intro hk' off hoff
   rw[C7] at hoff;exact hfz hk' off hoff
  ·intro h;rw[C7];exact hrow h
  ·exact hnrow
theorem aEA (hr:Rel P ρ (cE H) w){ty:TypeId}{sz by':Nat}(hs:eS P ty=some (sz,by')){a a' v v' r:Value}(ha:Vr ρ a a')(hv:Vr ρ v v')
  (h:stN sz a v H=some (r,H')): ∃w',(Instr.storeAt ty a' v').run P w= .ok () w'/\r=undef/\Step P ρ H w ρ H' w':=by
 unfold stN at h
 split at h
 ·rename_i b o
  split at h
  ·rename_i cs e k hb
   split at h
   ·rename_i hc
    obtain⟨hk,hn,hl,hcl⟩:=hc;injection h with h;injection h with h1 h2;subst h1;subst h2;obtain⟨pl,hpl,rfl⟩:=ha.yG;obtain⟨w',hrun,hst⟩:=Db (o:=o) hr hpl hb hk hv.Ag (by rw[hn];exact hl) hcl
    refine⟨w',?_,rfl,hst⟩;have hn':v'.cells.size=sz:=by have:=hv.Ag.1;simp only[Array.length_toList] at this hn;omega
    simp[Instr.storeAt,Instr.sureAddr,storeVar,mX hs,hn',hrun]
   ·cases h
  ·cases h
 ·cases h
theorem Ai (w:World)(x:Obj)(c:Nat):(w.heap.push x)[c]? =if c=w.heap.size then some x else w.heap[c]? :=by
 rw[Array.getElem?_push]
theorem C9 (hr:Rel P ρ (cE H) w)(hfree:ρ H.length=none){e:TypeId}{cs cs':List Value}(hv:Vrs ρ cs cs')(k:Kind){w':World}{ccs:Array Value}{lo hi:Nat}
  (hheap:w'.heap=w.heap.push (.cells ccs e (lo,hi)))(hpre: ∀(i:Nat)(v:Value),cs'[i]? =some v->ccs[i]? =some v)
  (hfz: ∀off,off<ccs.size-> ¬(lo<=off/\off<hi))
  (hos:w'.os=w.os)(htape:w'.tape=w.tape)(hout:w'.output=w.output):
  Step P ρ H w (ρ.upd H.length ⟨w.heap.size,0,if k= .row then some (P.cellsOf e,ccs.size) else none⟩) (H++[.cells cs e k]) w':=by
 refine Step.I7 hr hfree (aS1 _) (by rw[hheap];simp) (by rw[hheap];simp) (λc hc=>by rw[hheap,Ai,if_neg U]) ?_ (by simp) hos htape hout
 have hle:=Ren.I5 (ρ:=ρ) (b:=H.length) ⟨w.heap.size,0,if k= .row then some (P.cellsOf e,ccs.size) else none⟩ hfree
 refine⟨ccs,e,lo,hi,by rw[hheap,Ai];simp,?_,λ_=>hfz,λh=>by simp[h],λh=>by simp[h]⟩
 intro i v hi;obtain⟨v',h1,h2⟩:=hv.yF hi
 exact⟨v',by simpa using hpre i v' h1,h2.sU hle⟩
theorem Tp (hr:Rel P ρ (cE H) w)(hfree:ρ H.length=none){e:TypeId}{v v':Value}(hv:Vr ρ v v'){r:Value}(h:aX e v.cells.toList .fix H=some (r,H')):
  pG P (do pure (.pointer (some (<-newVar e v'))):Sem Value) w (Post P ρ H w r H'):=by
 simp only[aX] at h;injection h with h;injection h with h1 h2;subst h1;subst h2;refine⟨adr w.heap.size 0,{w with heap:=w.heap.push (.cells v'.cells e)},by simp[newVar,newRow],_,?_,
  C9 hr hfree hv.Ag .fix (ccs:=v'.cells) (lo:=0) (hi:=0) rfl (λi v h=>by simpa using h) U rfl rfl rfl⟩
 have:=Vr.ptr (ρ:=ρ.upd H.length ⟨w.heap.size,0,none⟩) (o:=0) (Ren.nN ρ H.length ⟨w.heap.size,0,none⟩);simpa using this
end
section
variable {P : Program} {ρ : Ren} {H H' : aG} {w : World}
theorem Tq {v v':Value}{n:Nat}(hv:Vr ρ v v')(h:iR v=some n)(w1:World):(Builtin.lenOf v').run P w1= .ok n w1:=by
 unfold iR at h
 split at h
 ·injection h with h;subst h
  cases hv;simp[Builtin.lenOf]
 ·injection h with h;subst h
  cases hv<;>simp_all [Builtin.lenOf,dH]
 ·injection h with h;subst h
  cases hv;simp[Builtin.lenOf]
 ·cases h
theorem aED (s:ByteArray)(n:Nat)(hn:n<=s.size):((s.extract 0 n).data.map λb=>Value.int .u8 b.toNat)=((rF s).take n).toArray:=by
 apply Array.ext';simp only[Array.toList_map,ByteArray.data_extract,Array.toList_extract,rF];simp[List.extract,List.map_take]
theorem Tr (hr:Rel P ρ (cE H) w){v v':Value}{sz n:Nat}{new:List Value}(hv:Vr ρ v v')(h:dW sz v n H=some new):
  new.length=n*sz/\ ∃ys:List Value,Vrs ρ new ys/\ys.length=n*sz/\ ∀w1:World,w1.heap=w.heap->(Builtin.firstCells sz n v').run P w1= .ok ys.toArray w1:=by
 unfold dW at h
 split at h
 ·split at h
  ·rename_i h0
   injection h with h;subst h;subst h0;cases hv with
   |same _=>exact⟨by simp,[],.nL ρ,by simp,λw1 _=>by simp[Builtin.firstCells]⟩
  ·cases h
 ·rename_i b o len cap
  split at h
  ·rename_i h0
   injection h with h;subst h;subst h0;cases hv with
   |same hl=>simp[dH] at hl
   | @slice _ _ _ _ cap' pl hpl hn hcc hroom=>exact⟨by simp,[],.nL ρ,by simp,λw1 _=>by show(loadCells _ (0*sz)).run P w1=_;rw[Nat.zero_mul];rfl⟩
   | @slice0 _ _ pl a hpl=>exact⟨by simp,[],.nL ρ,by simp,λw1 _=>by show(loadCells _ (0*sz)).run P w1=_;rw[Nat.zero_mul];rfl⟩
  split at h
  ·rename_i cs e k hb
   split at h
   ·rename_i hc
    injection h with h;subst h;have hlen:((cs.drop o).take (n*sz)).length=n*sz:=by simp;omega
    refine⟨hlen,?_⟩;have main: ∀pl,ρ b=some pl-> ∀l c,∃ys:List Value,Vrs ρ ((cs.drop o).take (n*sz)) ys/\ys.length=n*sz/\ ∀w1:World,w1.heap=w.heap->
      (Builtin.firstCells sz n (.slice (some ⟨pl.c,pl.base+o,none⟩) l c)).run P w1= .ok ys.toArray w1:=by
     intro pl hpl l c;obtain⟨ys,hyl,hys,hcell⟩:=(hr.blk b pl _ hpl hb).C6 hc.2;refine⟨ys,hys,hyl,λw1 hw1=> ?_⟩
     have hrun:=run_loadCells_list (P:=P) w1 ⟨pl.c,pl.base+o,none⟩ ys (λj v hj=>by
      have:=hcell j v hj;simpa[World.cell?,hw1] using this)
     rw[hyl] at hrun;simp[Builtin.firstCells,hrun]
    cases hv with
    |same hl=>simp[dH] at hl
    | @slice _ _ _ _ cap' pl hpl hn hcc hroom=>exact main pl hpl _ _
    | @slice0 _ _ pl a hpl=>
     have h0:n=0:=U
     subst h0;refine⟨[],by rw[Nat.zero_mul];exact Vrs.nL ρ,by rw[Nat.zero_mul];rfl,λw1 hw1=> ?_⟩
     show(loadCells a (0*sz)).run P w1=_
     rw[Nat.zero_mul];rfl
   ·cases h
  ·cases h
 ·split at h
  ·rename_i s hc
   injection h with h;subst h;obtain⟨hn,rfl⟩:=hc;have hl:((rF s).take n).length=n:=by
    have:(rF s).length=s.size:=by unfold rF;rw[aTa];rfl
    simp;omega
   refine⟨by omega,(rF s).take n,⟨rfl,λi u v hu hv'=> ?_⟩,by omega,λw1 _=> ?_⟩
   ·rw[hu] at hv';injection hv' with e;subst e
    have hmem:=List.mem_of_mem_take (aS6 hu);simp only[rF,aTz] at hmem;obtain⟨b,_,rfl⟩:=hmem;exact .same rfl
   ·cases hv with
    |same _=>
     simp only[Builtin.firstCells,Sem.run_pure];rw[aED s n hn]
  ·cases h
 ·cases h
theorem Dc {ts:Array TypeId}{t tx ty e:TypeId}{sz by':Nat}(h0:ts[0]? =some t)(h1:ts[1]? =some tx)(ht:P.underlying t=some (.slice e))(htx:(P.underlying tx=some .string)∨ ∃x,P.underlying tx=some (.slice x))(hs:eS P e=some (sz,by'))
  {base:Option Addr}{len cap n:Nat}{x':Value}{ys:List Value}(hl: ∀w1,(Builtin.lenOf x').run P w1= .ok n w1)(hf: ∀w1:World,w1.heap=w.heap->(Builtin.firstCells sz n x').run P w1= .ok ys.toArray w1)
  (hneed:len+n<=cap){w':World}(hst: ∀a,base=some a->(storeCells (a.add (len*sz)) ys).run P w= .ok () w')(hnone:base=none->w'=w):
  (Builtin.append_ ts ty #[.slice base len cap,x']).run P w= .ok (.slice base (len+n) cap) w':=by
 obtain⟨i,hi,hi1,hi2⟩:=C8 hs;have hf':=hf w rfl;have hl':=hl w;cases base with
 |none=>
  rw[hnone rfl];rcases htx with hd|⟨x,hd⟩<;>simp[Builtin.append_,run_underlying ht,run_underlying hd,mX hs,hl',hf',hneed,h0,h1]
 |some a=>
  have hst':=hst a rfl;rcases htx with hd|⟨x,hd⟩<;>simp[Builtin.append_,run_underlying ht,run_underlying hd,mX hs,hl',hf',hneed,hst',h0,h1]
theorem aEC {ts:Array TypeId}{t tx ty e:TypeId}{sz by':Nat}{z:Value}(h0:ts[0]? =some t)(h1:ts[1]? =some tx)(ht:P.underlying t=some (.slice e))(htx:(P.underlying tx=some .string)∨ ∃x,P.underlying tx=some (.slice x))(hs:eS P e=some (sz,by'))(hz:nK P e=some z)
    {base:Option Addr}{len cap n:Nat}{x':Value}{ys olds:List Value}(hl: ∀w1,(Builtin.lenOf x').run P w1= .ok n w1)(hf: ∀w1:World,w1.heap=w.heap->(Builtin.firstCells sz n x').run P w1= .ok ys.toArray w1)
    (ho: ∀w1:World,w1.heap=w.heap->(Builtin.firstCells sz len (.slice base len cap)).run P w1= .ok olds.toArray w1)
    (hneed:cap<len+n)(hroom:eF (len+n) by'=true):
    ∃c,len+n<=c/\(Builtin.append_ ts ty #[.slice base len cap,x']).run P w= .ok (.slice (some ⟨w.heap.size,0,none⟩) (len+n) c)
      (w.drew.alloc (.cells (olds.toArray++ys.toArray++Builtin.zeroCells z.cells (c-(len+n))) e)):=by
  obtain⟨i,hi,hi1,hi2⟩:=C8 hs;simp only[eF,aS4,decide_eq_true_eq] at hroom;have hfit:Builtin.nextslicecap (len+n) cap*i.bytes<=281474976710656:=by
    have h3:=nextslicecap_le hneed;have h2:Builtin.nextslicecap (len+n) cap*i.bytes<=(2*(len+n)+256)*by':=by
      rw[hi2];exact Nat.mul_le_mul_right _ U
    omega
  have h48: ¬(281474976710656<Builtin.nextslicecap (len+n) cap*i.bytes):=U
  have h63: ¬(9223372036854775807<((len:Int)+(n:Int))):=U
  have hn: ¬(len+n<=cap):=U
  have hzv:i.zero=some z:=by unfold nK at hz;simpa[hi] using hz
  refine⟨grownCap w (len+n) cap e,grownCap_ge _ _ _ _,?_⟩;have hf':=hf w.drew rfl;have ho':=ho w.drew rfl;have hl':=hl w;subst hi1;rcases htx with hd|⟨x,hd⟩<;>
    (simp [Builtin.append_, h0, h1, run_underlying ht, run_underlying hd, Go.sizeOf, typeInfo, zeroValue, hi, hzv, hl', hn, h63, h48, Question.forced, hf', ho', newRow, grownCap]
     congr 2;apply Array.ext';simp)
theorem aEB (hr:Rel P ρ (cE H) w){ts:Array TypeId}{t tx ty e:TypeId}{sz by':Nat}{z:Value}(h0:ts[0]? =some t)(h1:ts[1]? =some tx)(ht:P.underlying t=some (.slice e))(htx:(P.underlying tx=some .string)∨ ∃x,P.underlying tx=some (.slice x))
    (hs:eS P e=some (sz,by'))(hz:nK P e=some z)(hzs:z.cells.size=sz){v v' x x' r:Value}(hv:Vr ρ v v')(hx:Vr ρ x x')
    (hfree: ∀b,H.length<=b->b<H'.length->ρ b=none)(h:app e sz by' v x H=some (r,H')):
    pG P (Builtin.append_ ts ty #[v',x']) w (Post P ρ H w r H'):=by
  unfold app at h
  split at h
  · cases h
  rename_i n hn
  split at h
  · cases h
  rename_i new hnew;have hl:=λw1=>Tq (P:=P) hx hn w1
  obtain⟨hnl,ys,hys,hyl,hf⟩:=Tr (P:=P) hr hx hnew;have hcell:=Ja hs
  -- a new row, of what was and what comes
  have made: ∀(len cap:Nat)(base:Option Addr)(old olds:List Value),Vrs ρ old olds->old.length=len*sz->(∀w1:World,w1.heap=w.heap->(Builtin.firstCells sz len (.slice base len cap)).run P w1= .ok olds.toArray w1)->
      cap<len+n->eF (len+n) by'=true->ρ H.length=none->
      ∃v1 w1 pl,(Builtin.append_ ts ty #[.slice base len cap,x']).run P w= .ok v1 w1/\w.heap.size<=pl.c/\
        Vr (ρ.upd H.length pl) (.slice (some ⟨H.length,0,none⟩) (len+n) (len+n)) v1/\Step P ρ H w (ρ.upd H.length pl) (H++[.cells (old++new) e .row]) w1/\
        (w1.heap.size=w.heap.size+1)/\(∀c,c<w.heap.size->w1.heap[c]? =w.heap[c]?)/\BRel P (ρ.upd H.length pl) pl (.cells (old++new) e .row) w1.heap[pl.c]? /\pl.c<w1.heap.size/\w1.os=w.os/\w1.tape=w.tape/\w1.output=w.output:=by
    intro len cap base old olds ho hol hof hneed hroom hfr;obtain⟨c,hc,hrun⟩:=aEC (w:=w) (ty:=ty) h0 h1 ht htx hs hz hl hf hof hneed hroom;have holds:olds.length=len*sz:=by rw[<-ho.1];exact hol
    have hzc: ∀m,(Builtin.zeroCells z.cells m).size=m*sz:=by intro m;simp[Builtin.zeroCells,hzs]
    have hsz:(olds.toArray++ys.toArray++Builtin.zeroCells z.cells (c-(len+n))).size=c*sz:=by
      simp only[Array.size_append,List.size_toArray,hzc,holds,hyl];rw[<-Nat.add_mul,<-Nat.add_mul]
      congr 1;omega
    have hstep:=C9 (w':=w.drew.alloc (.cells (olds.toArray++ys.toArray++Builtin.zeroCells z.cells (c-(len+n))) e)) hr hfr (e:=e) (ho.C5 hys) .row (lo:=0) (hi:=0)
      (ccs:=olds.toArray++ys.toArray++Builtin.zeroCells z.cells (c-(len+n))) rfl (λi v hi=>by
        have hlt:=(aSW.1 hi).1;simp only[aS8] at hlt;rw[<-Array.getElem?_toList];simp only[Array.toList_append,List.toList_toArray];rw[aSZ (by simp;omega)]
        exact hi) U rfl rfl rfl
    simp only[if_true] at hstep;refine⟨_,_,⟨w.heap.size,0,some (P.cellsOf e,(olds.toArray++ys.toArray++Builtin.zeroCells z.cells (c-(len+n))).size)⟩,hrun,aS1 _,?_,hstep,by show(w.heap.push _).size=_;simp,?_,?_,by show _<(w.heap.push _).size;simp,rfl,rfl,rfl⟩
    · have:=Vr.slice (ρ:=ρ.upd H.length ⟨w.heap.size,0,some (P.cellsOf e,(olds.toArray++ys.toArray++Builtin.zeroCells z.cells (c-(len+n))).size)⟩) (o:=0) (n:=len+n) (cap:=len+n) (cap':=c)
        (Ren.nN _ _ _) (aS1 _) hc (by
          intro e' T hT;simp only[aTn,Prod.mk.injEq] at hT;obtain⟨rfl,rfl⟩:=hT;rw[hsz,hcell];simp)
      simpa using this
    · intro c' hc'
      show(w.heap.push _)[c']? =_
      rw[Ai,if_neg U]
    · exact hstep.rel.blk H.length _ _ (Ren.nN _ _ _) (by simp)
  split at h
  · -- onto nil
    cases hv with
    |same _=>
    split at h
    · rename_i hn0
      injection h with h;injection h with h3 h2;subst h3;subst h2;subst hn0;refine⟨_,w,Dc (w:=w) (w':=w) h0 h1 ht htx hs hl hf U (λa ha=>by cases ha) (λ_=>rfl),?_⟩
      exact Post.kE hr (.same rfl)
    · rename_i hn0
      split at h
      · rename_i hroom
        injection h with h;injection h with h3 h2;subst h3;subst h2;have hfr:ρ H.length=none:=hfree _ (aS1 _) (by simp)
        obtain⟨v1,w1,pl,hrun,_,hvr,hst,_⟩:=made 0 0 none [] [] (.nL ρ) (by simp) (λw1 _=>by simp[Builtin.firstCells]) U (by simpa using hroom) hfr
        exact⟨v1,w1,hrun,_,by simpa using hvr,by simpa using hst⟩
      · cases h
  · rename_i b o len cap
    split at h
    · rename_i cs e' k hb
      split at h
      · -- there is room
        rename_i hroom;obtain⟨pl,hpl,a',cap',rfl,hcc,haddr,hroomP⟩: ∃pl,ρ b=some pl/\ ∃(a':Addr)(cap':Nat),v'= .slice (some a') len cap'/\cap<=cap'/\(a'=⟨pl.c,pl.base+o,none⟩∨(len=0/\cap=0))/\(∀m,m<=cap->Vr ρ (.slice (some ⟨b,o,none⟩) m cap) (.slice (some a') m cap')):=by
          cases hv with
          |same hl=>simp[dH] at hl
          | @slice _ _ _ _ cap' pl hpl hn hcc hr'=>exact⟨pl,hpl,_,cap',rfl,hcc,.inl rfl,λm hm=> .slice hpl hm hcc hr'⟩
          | @slice0 _ _ pl a hpl=>exact⟨pl,hpl,a,0,rfl,aS1 _,.inr ⟨rfl,rfl⟩,λm hm=>by
              have:m=0:=U
              subst this;exact .slice0 hpl⟩
        split at h
        · rename_i hnil
          injection h with h;injection h with h3 h2;subst h3;subst h2;subst hnil;have:ys=[]:=by rw[hys.nM]
          subst this;refine⟨_,w,Dc (w:=w) (w':=w) h0 h1 ht htx hs hl hf U (λa ha=>by simp[storeCells]) (λ_=>rfl),?_⟩
          exact Post.kE hr (hroomP _ hroom)
        · rename_i hnil
          split at h
          · rename_i hc
            obtain⟨hk,hlen,hall⟩:=hc;injection h with h;injection h with h3 h2;subst h3;subst h2;have haddr':a'=⟨pl.c,pl.base+o,none⟩:=by
              rcases haddr with h|⟨h1,h2⟩
              · exact h
              · exfalso
                have:n=0:=U
                subst this;apply hnil;apply aTe.1;simpa using hnl
            subst haddr';obtain⟨w',hrun,hst⟩:=Db (o:=o+len*sz) hr hpl hb hk hys (by rw[hnl];omega) hall
            refine⟨_,w',Dc (w:=w) (w':=w') h0 h1 ht htx hs hl hf U (λa ha=>by injection ha with ha;subst ha;rw[sW,Nat.add_assoc];exact hrun) (λh=>by cases h),?_⟩
            exact⟨ρ,hroomP _ hroom,hst⟩
          · cases h
      · -- it grows
        rename_i hnroom
        split at h
        · rename_i hc
          obtain⟨hk,rfl,hlen,hroom,hall⟩:=hc;injection h with h;injection h with h3 h2;subst h3;subst h2;have hfr:ρ H.length=none:=hfree _ (aS1 _) (by simp)
          have hwr:wr H[b]? =true:=by rw[hb,hk];rfl
          have hold:((cs.drop o).take (len*sz)).length=len*sz:=by simp;omega
          -- where the old one dies and the new one lies in new memory
          have fresh: ∀(pl:Pl),ρ b=some pl-> ∀(base:Addr)(cap':Nat)(olds:List Value),Vrs ρ ((cs.drop o).take (len*sz)) olds->(∀w1:World,w1.heap=w.heap->(Builtin.firstCells sz len (.slice (some base) len cap')).run P w1= .ok olds.toArray w1)->
              cap'<len+n->pG P (Builtin.append_ ts ty #[.slice (some base) len cap',x']) w (Post P ρ H w (.slice (some ⟨H.length,0,none⟩) (len+n) (len+n)) (H.set b .dead++[.cells ((cs.drop o).take (len*sz)++new) e' .row])):=by
            intro pl0 hpl0 base cap' olds ho hof hlt;obtain⟨v1,w1,pl,hrun,hplc,hvr,hst,hsz,hsame,hB,hplt,g1,g2,g3⟩:=made len cap' (some base) _ olds ho hold hof hlt hroom hfr;refine⟨v1,w1,hrun,_,hvr,?_⟩;refine Step.I8 hr hfr (by simp) (λb'=> ?_) (.inl hplc) U hplt (λc _ hc=>hsame c hc) hB (by simp) g1 g2 g3
            rw[List.getElem?_set];by_cases e:b=b'
            · subst e;right;exact⟨by simp[mW hb],pl0,hpl0,hwr⟩
            · left;simp[e]
          cases hv with
          |same hl=>simp[dH] at hl
          | @slice0 _ _ pl a hpl=>
            refine fresh pl hpl a 0 [] (by simpa using Vrs.nL ρ) (λw1 _=> ?_) U
            show(loadCells a (0*sz)).run P w1=_
            rw[Nat.zero_mul];rfl
          | @slice _ _ _ _ cap' pl hpl hn' hcc hroomP=>
            have hB:=hr.blk b pl _ hpl hb;obtain⟨olds,hol,hovr,hocell⟩:=hB.C6 hlen;have hof: ∀w1:World,w1.heap=w.heap->(Builtin.firstCells sz len (.slice (some ⟨pl.c,pl.base+o,none⟩) len cap')).run P w1= .ok olds.toArray w1:=by
              intro w1 hw1;have hrun:=run_loadCells_list (P:=P) w1 ⟨pl.c,pl.base+o,none⟩ olds (λj v hj=>by
                have:=hocell j v hj;simpa[World.cell?,hw1] using this)
              rw[hol] at hrun;simp[Builtin.firstCells,hrun]
            by_cases hin:len+n<=cap'
            · -- in place: the new block lies where the old one did
              obtain⟨ccs,ce,lo,hi,ho,hcs,hfz,hrow,hnrow⟩:=hB;have hroomE:=hroomP _ _ (hrow hk);rw[hcell] at hroomE;have hmul:len*sz+n*sz<=cap'*sz:=by rw[<-Nat.add_mul];exact Nat.mul_le_mul_right _ hin
              have hlt:=(aTl.1 ho).1;have hfit:pl.base+o+len*sz+0+ys.length<=ccs.size:=by rw[hyl];omega
              have hrun:=I9 P pl.c (pl.base+o+len*sz) ce (lo,hi) ys 0 w ccs ho hfit (hfz (by rw[hk];simp)) (hys.Th hall)
              -- the world behind
              have hw': ∃w',(storeCells ⟨pl.c,pl.base+o+len*sz,none⟩ ys).run P w= .ok () w'/\w'.heap.size=w.heap.size/\(∀c:Nat,c≠pl.c->w'.heap[c]? =w.heap[c]?)/\
                  w'.heap[pl.c]? =some (.cells (lJ ccs (pl.base+o+len*sz) ys) ce (lo,hi))/\w'.os=w.os/\w'.tape=w.tape/\w'.output=w.output:=by
                refine⟨_,hrun,?_⟩;split
                · rename_i hnil
                  subst hnil
                  exact⟨rfl,λ_ _=>rfl,by simpa[lJ] using ho,rfl,rfl,rfl⟩
                · exact⟨by simp[jM],λc hc=>by rw[vQ _ _ _ hlt,if_neg hc],by rw[vQ _ _ _ hlt];simp,rfl,rfl,rfl⟩
              obtain⟨w',hrun',hsz',hsame',hblk',hos',htp',hout'⟩:=hw';refine⟨_,w',Dc (w:=w) (w':=w') h0 h1 ht htx hs hl hf hin (λa ha=>by injection ha with ha;subst ha;rw[sW];exact hrun') (λh=>by cases h),?_⟩
              refine⟨ρ.upd H.length ⟨pl.c,pl.base+o,pl.room⟩,?_,?_⟩
              · have:=Vr.slice (ρ:=ρ.upd H.length ⟨pl.c,pl.base+o,pl.room⟩) (o:=0) (n:=len+n) (cap:=len+n) (cap':=cap') (Ren.nN _ _ _) (aS1 _) hin (by
                  intro e2 T hT;have:=hroomP e2 T hT;simpa using this)
                simpa using this
              · have hle:=Ren.I5 (ρ:=ρ) (b:=H.length) ⟨pl.c,pl.base+o,pl.room⟩ hfr
                refine Step.I8 hr hfr (by simp) (λb'=> ?_) (.inr ⟨b,pl,hpl,hwr,rfl,by simp[mW hb]⟩) U (by rw[hsz'];exact hlt) (λc hc _=>hsame' c hc) ?_ (by simp) hos' htp' hout'
                · rw[List.getElem?_set]
                  by_cases e2:b=b'
                  · subst e2;right;exact⟨by simp[mW hb],pl,hpl,hwr⟩
                  · left;simp[e2]
                · refine⟨_,ce,lo,hi,hblk',?_,?_,?_,?_⟩
                  · intro i u hi'
                    rw[Tm _ _ _ (by rw[hyl];omega)]
                    rw[List.getElem?_append] at hi'
                    split at hi'
                    · rename_i h1
                      rw[hold] at h1;rw[if_neg (by simp only;omega)]
                      rw[List.getElem?_take,if_pos h1,List.getElem?_drop] at hi';obtain⟨v2,h2,h3⟩:=hcs _ _ hi';refine⟨v2,by simpa[Nat.add_assoc] using h2,h3.sU hle⟩
                    · rename_i h1
                      rw[hold] at h1 hi';have hlt':=(aSW.1 hi').1;rw[hnl] at hlt';rw[if_pos (by simp only;rw[hyl];omega)]
                      obtain⟨v2,h2,h3⟩:=hys.yF hi';refine⟨v2,by simp only;rw[show pl.base+o+i-(pl.base+o+len*sz)=i-len*sz by omega];exact h2,h3.sU hle⟩
                  · intro _ off hoff
                    rw[C7] at hoff;exact hfz (by rw[hk];simp) off hoff
                  · intro _
                    simp only[C7];exact hrow hk
                  · intro h;exact absurd rfl h
            · exact fresh pl hpl _ _ olds hovr hof U
        · cases h
    · cases h
  · cases h
end
section
variable {P : Program} {ρ : Ren} {H H' : aG} {w : World}
theorem Vrs.aEE {xs ys:List Value}(h:Vrs ρ xs ys){u v:Value}(hv:Vr ρ u v)(i:Nat):Vrs ρ (xs.set i u) (ys.set i v):=by
 refine⟨by simp[h.1],λj a b ha hb=> ?_⟩
 rw[List.getElem?_set] at ha hb;by_cases e:i=j
 ·subst e
  rw[if_pos rfl] at ha hb
  split at ha<;>split at hb<;>simp_all
 ·rw[if_neg e] at ha hb
  exact h.2 j a b ha hb
theorem Vrs.aEF {vs vs':List Value}(hv:Vrs ρ vs vs'): ∀{xs ys:List Value}(o:Nat),Vrs ρ xs ys->Vrs ρ (Abs.cT xs o vs) (Abs.cT ys o vs'):=by
 induction vs generalizing vs' with
 |nil=>intro xs ys o h;rw[hv.nM];exact h
 |cons u vs ih=>
  intro xs ys o h;obtain⟨v,vs'',rfl,h1,h2⟩:=hv.oJ;exact ih h2 (o+1) (h.aEE h1 o)
theorem Tv (a:Array Value)(o:Nat)(vs:List Value):(lJ a o vs).toList=cT a.toList o vs:=by
 induction vs generalizing a o with
 |nil=>rfl
 |cons v vs ih=>simp[lJ,cT,ih]
theorem De (zero:List Value)(n:Nat):(List.replicate n zero).flatten.length=n*zero.length:=by
 simp[List.length_flatten]
theorem Ts (zero:List Value): ∀(n i:Nat),i<n*zero.length->(List.replicate n zero).flatten[i]? =zero[i%zero.length]?
 |0,i,h=>by simp at h
 |n+1,i,h=>by
  rw[List.replicate_succ,aTw,List.getElem?_append];split
  ·rename_i hlt;rw[aTu hlt]
  ·rename_i hge
   rw[Ts zero n (i-zero.length) (by rw[Nat.add_mul] at h;omega)]
   rw[Nat.mod_eq_sub_mod (by omega:i≥zero.length)]
theorem Tt (z:Array Value)(n:Nat):((Array.range (n*z.size)).map (z[· %z.size]!)).toList=(List.replicate n z.toList).flatten:=by
  apply aTx;intro i;rw[Array.toList_map,Array.toList_range,aS9];by_cases h:i<n*z.size
  · rw[aTE h,Ts _ _ _ (by simpa using h)]
    have hz : 0 < z.size := by rcases Nat.eq_zero_or_pos z.size with e | e; · rw [e] at h; omega
                               · exact e
    have:i%z.size<z.size:=Nat.mod_lt _ hz;simp[this,getElem!_pos]
  · rw[aS7 (by simpa using h),aS7 (by rw[De];simpa using h)]
    rfl
theorem Tu (z:Array Value)(sz n:Nat)(h:z.size=sz):((Array.range (n*sz)).map (z[· %z.size]!)).toList=(List.replicate n z.toList).flatten:=by
 subst h;exact Tt z n
theorem aEK (z:Array Value)(n:Nat):(Builtin.zeroCells z n).toList=(List.replicate n z.toList).flatten:=by
 have:=Tt z n;simpa[Builtin.zeroCells] using this
theorem Jd {zero:List Value}(hz:zero.all dH=true)(n:Nat):Vrs ρ (List.replicate n zero).flatten (List.replicate n zero).flatten:=by
 refine⟨rfl,λi u v hu hv=> ?_⟩
 rw[hu] at hv;injection hv with e;subst e;have hm:=aS6 hu;simp only[List.mem_flatten,List.mem_replicate] at hm;obtain⟨l,⟨_,rfl⟩,hm⟩:=hm;exact .same (aTB.1 hz u hm)
theorem Df {b:Nat}{x:Blk}(h:H[b]? =some x):H.set b x=H:=by
 apply aTx;intro i;rw[List.getElem?_set];by_cases hi:b=i
 ·subst hi;rw[h];simp[mW h]
 ·simp[hi]
theorem aEI (hr:Rel P ρ (cE H) w){ts:Array TypeId}{t ty e:TypeId}{sz by':Nat}(hts:ts[0]? =some t)(ht:P.underlying t=some (.slice e))(hs:eS P e=some (sz,by'))
  {d d' s s' r:Value}(hd:Vr ρ d d')(hsv:Vr ρ s s')(h:cpy sz d s H=some (r,H')):pG P (Builtin.copy_ ts ty #[d',s']) w (Post P ρ H w r H'):=by
 unfold cpy at h
 split at h
 ·cases h
 rename_i sn hsn;have hl:=λw1=>Tq (P:=P) hsv hsn w1
 split at h
 ·injection h with h;injection h with h1 h2;subst h1;subst h2
  cases hd with
  |same _=>
   have h0:(Builtin.firstCells sz 0 s').run P w= .ok #[] w:=by
    have hz:dW sz s 0 H=some []∨(dW sz s 0 H=none):=by
     unfold dW;split
     ·simp
     ·simp
     ·split<;>simp
     ·simp
    cases hsv with
    |same hls=>cases s<;>simp_all [iR,dH,Builtin.firstCells]<;>rename_i a _ _<;>cases a<;>simp_all [Builtin.firstCells]
    |slice=>show(loadCells _ (0*sz)).run P w=_;rw[Nat.zero_mul];rfl
    |slice0=>show(loadCells _ (0*sz)).run P w=_;rw[Nat.zero_mul];rfl
    |ptr=>simp[iR] at hsn
    |map=>simp[iR] at hsn
    |func=>simp[iR] at hsn
    |agg=>simp[iR] at hsn
    |tuple=>simp[iR] at hsn
   refine⟨.int .i64 0,w,?_,Post.kE hr (.same rfl)⟩;simp[Builtin.copy_,hts,run_underlying ht,hl w,mX hs,h0];rfl
 ·rename_i b o dn dc
  split at h
  ·cases h
  rename_i new hnew
  split at h
  ·rename_i cs e' k hb
   split at h
   ·rename_i hc
    obtain⟨hk,hlen,hall⟩:=hc;injection h with h;injection h with h1 h2;subst h1;subst h2;obtain⟨hnl,ys,hys,hyl,hf⟩:=Tr (P:=P) hr hsv hnew;have hf':=hf w rfl;have fin: ∀(a':Addr)(dc':Nat)(w':World),(storeCells a' ys).run P w= .ok () w'->d'= .slice (some a') dn dc'->
      (Builtin.copy_ ts ty #[d',s']).run P w= .ok (.int .i64 (min sn dn:Nat)) w':=by
     intro a' dc' w' hst hd';subst hd';have hmin:Nat.min sn dn=min sn dn:=rfl;simp[Builtin.copy_,hts,run_underlying ht,hl w,mX hs,hmin,hf',hst];rfl
    cases hd with
    |same hls=>simp[dH] at hls
    | @slice _ _ _ _ cap' pl hpl _ _ _=>
     obtain⟨w',hrun,hst⟩:=Db (o:=o) hr hpl hb hk hys (by rw[hnl];exact hlen) hall
     exact⟨_,w',fin _ _ w' hrun rfl,ρ,.same rfl,hst⟩
    | @slice0 _ _ pl a hpl=>
     have h0:min sn 0=0:=U
     rw[h0,Nat.zero_mul] at hnl;have hnil:=aTe.1 hnl;subst hnil;have:=hys.nM;subst this;refine⟨_,w,fin a 0 w (by simp[storeCells]) rfl,ρ,.same rfl,?_⟩
     simp only[cT];rw[Df hb];exact Step.pF hr
   ·cases h
  ·cases h
 ·cases h
theorem aEH (hr:Rel P ρ (cE H) w){ts:Array TypeId}{t ty e:TypeId}{sz by':Nat}{z:Value}(hts:ts[0]? =some t)(ht:P.underlying t=some (.slice e))(hs:eS P e=some (sz,by'))(hz:nK P e=some z)(hzl:z.cells.toList.all dH=true)
  {d d' r:Value}(hd:Vr ρ d d')(h:clr sz z.cells.toList d H=some (r,H')):pG P (Builtin.clear_ ts ty #[d']) w (Post P ρ H w r H'):=by
 unfold clr at h
 split at h
 ·injection h with h;injection h with h1 h2;subst h1;subst h2
  cases hd with
  |same _=>exact⟨.tuple #[],w,by simp[Builtin.clear_,hts,run_underlying ht],Post.kE hr (.mJ rfl)⟩
 ·rename_i b o n c
  split at h
  ·rename_i h0
   injection h with h;injection h with h1 h2;subst h1;subst h2;subst h0;cases hd with
   |same hls=>simp[dH] at hls
   |slice=>exact⟨.tuple #[],w,by simp[Builtin.clear_,hts,run_underlying ht],Post.kE hr (.mJ rfl)⟩
   |slice0=>exact⟨.tuple #[],w,by simp[Builtin.clear_,hts,run_underlying ht],Post.kE hr (.mJ rfl)⟩
  ·rename_i h0
   split at h
   ·rename_i cs e' k hb
    split at h
    ·rename_i hc
     obtain⟨hk,hlen,hzs,hall⟩:=hc;injection h with h;injection h with h1 h2;subst h1;subst h2;cases hd with
     |same hls=>simp[dH] at hls
     |slice0=>exact absurd rfl h0
     | @slice _ _ _ _ cap' pl hpl _ _ _=>
      have hrep:cA (List.replicate n z.cells.toList).flatten=true:=by
       simp only[cA,aTB] at hall⊢;intro x hx;simp only[List.mem_flatten,List.mem_replicate] at hx;obtain⟨l,⟨_,rfl⟩,hx⟩:=hx;exact hall x hx
      obtain⟨w',hrun,hst⟩:=Db (o:=o) hr hpl hb hk (Jd hzl n) (by rw[De,hzs];exact hlen) hrep
      refine⟨_,w',?_,ρ,.mJ (v:= .tuple #[]) rfl,hst⟩;rw[<-aEK] at hrun;cases n with
      |zero=>exact absurd rfl h0
      |succ n=>simp[Builtin.clear_,hts,run_underlying ht,yI hz,hrun]
    ·cases h
   ·cases h
 ·cases h
theorem aEJ (hr:Rel P ρ (cE H) w){t e:TypeId}{sz by':Nat}{z:Value}(ht:P.underlying t=some (.slice e))(hs:eS P e=some (sz,by'))(hz:nK P e=some z)(hzl:z.cells.toList.all dH=true)
  {n n' c c' r:Value}(hn:Vr ρ n n')(hc:Vr ρ c c')(hfree: ∀b,H.length<=b->b<H'.length->ρ b=none)
  (h:gZ e sz by' z.cells.toList n c H=some (r,H')):pG P (Instr.makeSlice t n' c') w (Post P ρ H w r H'):=by
 unfold gZ at h
 split at h
 ·rename_i kn n kc c
  split at h
  ·rename_i hcond
   obtain⟨h0,hnc,hby,h62,hzs⟩:=hcond;injection h with h;injection h with h1 h2;subst h1;subst h2;have e1:=hn.hZ rfl;have e2:=hc.hZ rfl;subst e1;subst e2;obtain⟨i,hi,hi1,hi2⟩:=C8 hs;have hzv:i.zero=some z:=by unfold nK at hz;simpa[hi] using hz
   have hrun:=run_make (P:=P) w t e i z ht hi hzv kn kc n c h0 hnc (by rw[hi2];exact hby) U
   rw[hi1] at hrun;have hfr:ρ H.length=none:=hfree _ (aS1 _) (by simp)
   have hlist:(madeCells z.cells (c.toNat*sz)).toList=(List.replicate c.toNat z.cells.toList).flatten:=by
    unfold madeCells;exact Tu z.cells sz c.toNat (by simpa using hzs)
   have hst:=C9 (w':=w.alloc (.cells (madeCells z.cells (c.toNat*sz)) e)) hr hfr (e:=e) (Jd hzl c.toNat) .row (lo:=0) (hi:=0) (ccs:=madeCells z.cells (c.toNat*sz)) rfl
    (λi v hi=>by rw[<-hlist] at hi;rw[<-Array.getElem?_toList];exact hi) U rfl rfl rfl
   simp only[if_true] at hst;refine⟨_,_,hrun,_,?_,hst⟩;have:=Vr.slice (ρ:=ρ.upd H.length ⟨w.heap.size,0,some (P.cellsOf e,(madeCells z.cells (c.toNat*sz)).size)⟩) (o:=0) (n:=n.toNat) (cap:=c.toNat) (cap':=c.toNat) (Ren.nN _ _ _) U (aS1 _) (by
    intro e' T hT;simp only[aTn,Prod.mk.injEq] at hT;obtain⟨rfl,rfl⟩:=hT;rw[size_madeCells,Ja hs];simp)
   simpa using this
  ·cases h
 ·cases h
theorem Tw (off:Nat): ∀(l:List Value)(k:Nat)(a:Array Value),(l.zipIdx k).foldl (λcs (x:Value×Nat)=>cs.setIfInBounds (off+x.2) x.1) a=lJ a (off+k) l
 |[],k,a=>rfl
 |v::l,k,a=>by simp only[List.zipIdx_cons,List.foldl_cons,lJ];rw[Tw off l (k+1)];rfl
def Aj (ρ:Ren)(ps ps':List (Nat×Value)):Prop:=ps.map (·.1)=ps'.map (·.1)/\Vrs ρ (ps.map (·.2)) (ps'.map (·.2))
theorem Dd (place:Nat->Option (Nat×Nat)): ∀(ps ps':List (Nat×Value))(cs cs' r:Array Value),Aj ρ ps ps'->Vrs ρ cs.toList cs'.toList->Instr.fill place cs ps=some r->
  ∃r',Instr.fill place cs' ps'=some r'/\Vrs ρ r.toList r'.toList
 |[],ps',cs,cs',r,hp,hc,h=>by
  have:ps'=[]:=by have:=hp.1;simp at this;exact this
  subst this;simp only[Instr.fill,aTn] at h;subst h
  exact⟨cs',rfl,hc⟩
 |(i,v)::ps,ps',cs,cs',r,hp,hc,h=>by
  cases ps' with
  |nil=>have:=hp.1;simp at this
  |cons p ps'=>
   obtain⟨i',v'⟩:=p;have hi:i'=i:=by have:=hp.1;simp at this;exact this.1.symm
   subst hi;have hv:Vr ρ v v':=by have:=hp.2;exact Vrs.Ti (by simpa using this)
   have hps:Aj ρ ps ps':=⟨by have:=hp.1;simp at this;exact this,by have:=hp.2;exact Vrs.Tj (by simpa using this)⟩
   simp only[Instr.fill] at h⊢
   split at h
   ·cases h
   ·rename_i off size hpl
    try rw[hpl]
    have hvc:=hv.Ag;have e1:v'.cells.size=v.cells.size:=by have:=hvc.1;simpa using this.symm
    have e2:cs'.size=cs.size:=by have:=hc.1;simpa using this.symm
    simp only[e1,e2]
    split at h
    ·cases h
    ·rename_i hcond
     rw[if_neg hcond];have key: ∀(x:Array Value)(a:Array Value),x.zipIdx.foldl (λcs (p:Value×Nat)=>cs.setIfInBounds (off+p.2) p.1) a=lJ a off x.toList:=by
      intro x a;rw[<-Array.foldl_toList,Array.toList_zipIdx,Tw];rfl
     have hk1:=key v.cells cs;have hk2:=key v'.cells cs';refine Dd place ps ps' _ _ r hps ?_ h;have:Vrs ρ (lJ cs off v.cells.toList).toList (lJ cs' off v'.cells.toList).toList:=by
      rw[Tv,Tv];exact Vrs.aEF hvc off hc
     rw[<-hk1,<-hk2] at this;exact this
theorem aEG (hr:Rel P ρ (cE H) w){t e:TypeId}{sz by' n:Nat}{z:Value}(ht:P.underlying t=some (.slice e))(hs:eS P e=some (sz,by'))(hz:nK P e=some z)(hzl:z.cells.toList.all dH=true)
  (hzs:z.cells.toList.length=sz)(hn:n*sz<=2 ^ 24){ps:List (Nat×Value)}{ps':Array (Nat×Value)}(hps:Aj ρ ps ps'.toList){r:Value}(hfree: ∀b,H.length<=b->b<H'.length->ρ b=none)
  (h:bV e sz n z.cells.toList ps H=some (r,H')):pG P (Instr.buildSlice t n ps') w (Post P ρ H w r H'):=by
 unfold bV at h
 split at h
 ·rename_i cs hcs
  injection h with h;injection h with h1 h2;subst h1;subst h2;obtain⟨cs',hfill,hrel⟩:=Dd _ ps ps'.toList _ (List.replicate n z.cells.toList).flatten.toArray _ hps (by simpa using Jd hzl n) hcs
  have hfr:ρ H.length=none:=hfree _ (aS1 _) (by simp)
  have hst:=C9 (w':=w.alloc (.cells cs' e)) hr hfr (e:=e) hrel .row (lo:=0) (hi:=0) (ccs:=cs') rfl (λi v hi=>by rw[<-Array.getElem?_toList];exact hi) U rfl rfl rfl
  simp only[if_true] at hst;have hsize: ∀(place:Nat->Option (Nat×Nat))(ps:List (Nat×Value))(a r:Array Value),Instr.fill place a ps=some r->r.size=a.size:=by
   intro place ps;induction ps with
   |nil=>intro a r h;simp[Instr.fill] at h;subst h;rfl
   |cons p ps ih=>
    intro a r h;simp only[Instr.fill] at h
    split at h
    ·cases h
    ·split at h
     ·cases h
     ·have:=ih _ _ h
      rw[this];have: ∀(l:List (Value×Nat))(off:Nat)(a:Array Value),(l.foldl (λcs (p:Value×Nat)=>cs.setIfInBounds (off+p.2) p.1) a).size=a.size:=by
       intro l off;induction l with
       |nil=>intro a;rfl
       |cons x l ih=>intro a;simp only[List.foldl_cons];rw[ih];simp
      rw[<-Array.foldl_toList];exact this _ _ _
  have hsz:cs'.size=n*sz:=by
   rw[hsize _ _ _ _ hfill];simp only[List.size_toArray];rw[De,hzs]
  refine⟨.slice (some ⟨w.heap.size,0,none⟩) n n,w.alloc (.cells cs' e),?_,_,?_,hst⟩
  ·have hinit:((Array.range (n*sz)).map (z.cells[· %z.cells.size]!))=(List.replicate n z.cells.toList).flatten.toArray:=by
    apply Array.ext';rw[Tu z.cells sz n (by simpa using hzs)]
   have hnlt: ¬(2 ^ 24<n*sz):=U
   by_cases h0:n*sz=0
   ·have he:(List.replicate n z.cells.toList).flatten=[]:=by
     apply aTe.1;rw[De,hzs];exact h0
    rw[he] at hfill;simp[Instr.buildSlice,run_underlying ht,mX hs,h0,hfill,newRow,Array.range_zero']
   ·simp[Instr.buildSlice,run_underlying ht,mX hs,h0,hnlt,yI hz,newRow]
    rw[hinit,hfill];simp
  ·have:=Vr.slice (ρ:=ρ.upd H.length ⟨w.heap.size,0,some (P.cellsOf e,cs'.size)⟩) (o:=0) (n:=n) (cap:=n) (cap':=n) (Ren.nN _ _ _) (aS1 _) (aS1 _) (by
    intro e' T hT;simp only[aTn,Prod.mk.injEq] at hT;obtain⟨rfl,rfl⟩:=hT;rw[hsz,Ja hs];simp)
   simpa using this
 ·cases h
end
section
variable {P : Program} {ρ : Ren} {H H' : aG} {w : World}
def Vro (ρ:Ren):Option Value->Option Value->Prop
 |none,none=>True
 |some v,some v'=>Vr ρ v v'
 |_,_=>False
theorem uC {d:Nat}{x x':Option Value}{n:Nat}(hx:Vro ρ x x')(h:bnd d x=some n):
  (x'=none/\n=d)∨ ∃k i,x'=some (.int k i)/\0<=i/\i.toNat=n:=by
 cases x with
 |none=>
  cases x' with
  |none=>left;simp[bnd] at h;exact⟨rfl,h.symm⟩
  |some _=>exact hx.elim
 |some v=>
  cases x' with
  |none=>exact hx.elim
  |some v'=>
   right;cases v<;>simp[bnd] at h
   obtain⟨h0,h1⟩:=h;have:=Vr.hZ hx rfl;subst this
   exact⟨_,_,rfl,h0,h1⟩
theorem Di {lo hi mx:Option Value}{l h m len cap dm:Nat}{isSlice:Bool}
  (h1:(lo=none/\l=0)∨ ∃k i,lo=some (.int k i)/\0<=i/\i.toNat=l)(h2:(hi=none/\h=len)∨ ∃k i,hi=some (.int k i)/\0<=i/\i.toNat=h)
  (h3:(mx=none/\dm=cap)∨ ∃k i,mx=some (.int k i)/\0<=i/\i.toNat=m/\dm=m/\hi≠none)(hlh:l<=h)(hhm:h<=dm)(hmc:mx.isSome=true->m<=cap)(w:World):
  (Instr.sliceBounds isSlice len cap lo hi mx).run P w= .ok (l,h,dm) w:=by
 rcases h3 with⟨rfl,rfl⟩|⟨k3,i3,rfl,h30,h31,rfl,hne⟩
 ·rcases h2 with⟨rfl,rfl⟩|⟨k2,i2,rfl,h20,h21⟩
  ·rcases h1 with⟨rfl,rfl⟩|⟨k1,i1,rfl,h10,h11⟩
   ·simp[Instr.sliceBounds]
   ·simp only[Instr.sliceBounds,Sem.run_bind,Sem.run_pure,aTk]
    rw[run_sliceBound w k1 i1 _ _ h10 U];simp[h11]
  ·rcases h1 with⟨rfl,rfl⟩|⟨k1,i1,rfl,h10,h11⟩
   ·simp only[Instr.sliceBounds,Sem.run_bind,Sem.run_pure,aTk]
    rw[run_sliceBound w k2 i2 _ _ h20 U];simp[h21]
   ·simp only[Instr.sliceBounds,Sem.run_bind,Sem.run_pure,aTk]
    rw[run_sliceBound w k2 i2 _ _ h20 U]
    simp only[aTk];rw[run_sliceBound w k1 i1 _ _ h10 U];simp[h21,h11]
 ·have hm:=hmc rfl
  rcases h2 with⟨rfl,rfl⟩|⟨k2,i2,rfl,h20,h21⟩
  ·exact absurd rfl hne
  ·rcases h1 with⟨rfl,rfl⟩|⟨k1,i1,rfl,h10,h11⟩
   ·simp only[Instr.sliceBounds,Sem.run_bind,Sem.run_pure,aTk]
    rw[run_sliceBound w k3 i3 _ _ h30 U]
    simp only[aTk];rw[run_sliceBound w k2 i2 _ _ h20 U];simp[h21,h31]
   ·simp only[Instr.sliceBounds,Sem.run_bind,Sem.run_pure,aTk]
    rw[run_sliceBound w k3 i3 _ _ h30 U]
    simp only[aTk];rw[run_sliceBound w k2 i2 _ _ h20 U]
    simp only[aTk];rw[run_sliceBound w k1 i1 _ _ h10 U];simp[h21,h11,h31]
theorem aEQ (hr:Rel P ρ (cE H) w){t e:TypeId}{sz by':Nat}(ht:P.underlying t=some (.slice e))(hs:eS P e=some (sz,by'))
    {v v' r:Value}{lo lo' hi hi' mx mx':Option Value}(hv:Vr ρ v v')(hlo:Vro ρ lo lo')(hhi:Vro ρ hi hi')(hmx:Vro ρ mx mx')(hmh:mx.isSome=true->hi≠none)
    (h:slc P sz v lo hi mx H=some (r,H')):H'=H/\ ∃v'',(Instr.sliceAt t v' lo' hi' mx').run P w= .ok v'' w/\Vr ρ r v'':=by
  have hat: ∀x,(Instr.sliceAt t x lo' hi' mx').run P w=(Instr.slice t x lo' hi' mx').run P w:=by
    intro x;simp[Instr.sliceAt,run_underlying ht]
  have hmh': ∀{k i},mx'=some (.int k i)->hi'≠none:=by
    intro k i e;subst e;cases mx with
    |none=>exact hmx.elim
    |some m=>
      have:=hmh rfl;cases hi with
      |none=>exact absurd rfl this
      |some _=>cases hi' with
        |none=>exact hhi.elim
        |some _=>simp
  unfold slc at h
  split at h
  · split at h
    · rename_i e1 e2 e3
      injection h with h;injection h with h1 h2;subst h1;subst h2;cases hv with
      |same _=>
        refine⟨rfl,.slice none 0 0,?_,.same rfl⟩;rw[hat];have b3:=uC hmx e3;have hb:=Di (P:=P) (isSlice:=true) (len:=0) (cap:=0) (uC hlo e1) (uC hhi e2) (dm:=0) (m:=0)
          (by rcases b3 with ⟨a, b⟩ | ⟨k, i, a, b, c⟩
              · exact .inl ⟨a,rfl⟩
              · exact .inr ⟨k,i,a,b,c,rfl,hmh' a⟩) (aS1 _) (aS1 _) (λ_=>aS1 _) w
        simp[Instr.slice,run_underlying ht,hb,mX hs]
    · cases h
  · rename_i b o len cap
    split at h
    · rename_i cs e' k hb
      split at h
      · rename_i l h' m e1 e2 e3
        split at h
        · rename_i hc
          obtain⟨hlh,hhm,hmc,hkr⟩:=hc;injection h with h;injection h with h1 h2;subst h1;subst h2;have b1:=uC hlo e1;have b2:=uC hhi e2;have b3:=uC hmx e3;refine⟨rfl,?_⟩;rw[hat];cases hv with
          |same hl=>simp[dH] at hl
          | @slice0 _ _ pl a hpl=>
            have hm0:m=0:=U
            have hh0:h'=0:=U
            have hl0:l=0:=U
            subst hm0;subst hh0;subst hl0;have hb:=Di (P:=P) (isSlice:=true) (len:=0) (cap:=0) b1 b2 (dm:=0) (m:=0)
              (by rcases b3 with ⟨a, b⟩ | ⟨k, i, a, b, c⟩
                  · exact .inl ⟨a,rfl⟩
                  · exact .inr ⟨k,i,a,b,c,rfl,hmh' a⟩) (aS1 _) (aS1 _) (λ_=>aS1 _) w
            refine⟨.slice (some a) 0 0,by simp[Instr.slice,run_underlying ht,hb,mX hs],?_⟩
            simpa using Vr.slice0 (o:=o) (a:=a) hpl
          | @slice _ _ _ _ cap' pl hpl hn hcc hroom=>
            -- the bound that holds in the model
            obtain⟨dm,hdm,hbm⟩: ∃dm,m<=dm/\dm<=cap'/\((mx'=none/\dm=cap')∨ ∃k i,mx'=some (.int k i)/\0<=i/\i.toNat=m/\dm=m/\hi'≠none):=by
              rcases b3 with⟨a,b⟩|⟨k,i,a,b,c⟩
              · exact⟨cap',by omega,aS1 _,.inl ⟨a,rfl⟩⟩
              · exact⟨m,aS1 _,by omega,.inr ⟨k,i,a,b,c,rfl,hmh' a⟩⟩
            obtain⟨hdc,hbm⟩:=hbm;have hb:=Di (P:=P) (isSlice:=true) (len:=len) (cap:=cap') b1 b2 hbm hlh U (λ_=>by omega) w
            refine⟨.slice (if dm=l then some ⟨pl.c,pl.base+o,none⟩ else some ⟨pl.c,pl.base+o+l*sz,none⟩) (h'-l) (dm-l),?_,?_⟩
            · simp[Instr.slice,run_underlying ht,hb,mX hs,sW]
            · by_cases hd:dm=l
              · have e4:h'-l=0:=U
                have e5:m-l=0:=U
                have e6:dm-l=0:=U
                rw[if_pos hd,e4,e5,e6];exact .slice0 hpl
              · rw[if_neg hd]
                have:=Vr.slice (ρ:=ρ) (o:=o+l*sz) (n:=h'-l) (cap:=m-l) (cap':=dm-l) hpl U U (by
                  intro e2 T hT;have h1:=hroom e2 T hT
                  -- the block's element is the slice's
                  have hB:=hr.blk b pl _ hpl (by simpa[cE] using ‹H[b]? =some (Blk.cells cs e' k)›)
                  obtain⟨ccs,ce,lo0,hi0,ho,hcs,hfz,hrow,hnrow⟩:=hB;have hk:k= .row:=by
                    cases hk:decide (k=Kind.row) with
                    |true=>simpa using hk
                    |false=>rw[hnrow (by simpa using hk)] at hT;cases hT
                  have hsz:=hkr hk;rw[hrow hk] at hT;injection hT with hT;injection hT with hT1 hT2;subst hT1;rw[hsz] at h1⊢;have hmul:l*sz+(dm-l)*sz<=cap'*sz:=by rw[<-Nat.add_mul];exact Nat.mul_le_mul_right _ U
                  omega)
                simpa[Nat.add_assoc] using this
        · cases h
      · cases h
    · cases h
  · cases h
theorem aEP (hr:Rel P ρ (cE H) w){t e:TypeId}{n sz by':Nat}(ht:P.underlying t=some (.array n e))(hs:eS P e=some (sz,by'))
  {v v' r:Value}{lo lo' hi hi':Option Value}(hv:Vr ρ v v')(hlo:Vro ρ lo lo')(hhi:Vro ρ hi hi')
  (h:pB n sz v lo hi H=some (r,H')):H'=H/\ ∃v'',(Instr.sliceAt t v' lo' hi' none).run P w= .ok v'' w/\Vr ρ r v'':=by
 unfold pB at h
 split at h
 ·rename_i b o
  split at h
  ·rename_i cs e' k hb
   split at h
   ·rename_i l h' e1 e2
    split at h
    ·rename_i hc
     obtain⟨hlh,hhn,hk⟩:=hc;injection h with h;injection h with h1 h2;subst h1;subst h2;obtain⟨pl,hpl,rfl⟩:=hv.yG;have hbr:=Di (P:=P) (isSlice:=false) (len:=n) (cap:=n) (uC hlo e1) (uC hhi e2) (m:=0) (.inl ⟨rfl,rfl⟩) hlh hhn (λh=>by cases h) w
     refine⟨rfl,.slice (some (if n=l then⟨pl.c,pl.base+o,none⟩ else⟨pl.c,pl.base+o+l*sz,none⟩)) (h'-l) (n-l),?_,?_⟩
     ·simp[Instr.sliceAt,run_underlying ht,Instr.sureAddr,hbr,mX hs,sW]
     ·by_cases hd:n=l
      ·have e4:h'-l=0:=U
       have e6:n-l=0:=U
       rw[if_pos hd,e4,e6];exact .slice0 hpl
      ·rw[if_neg hd]
       have:=Vr.slice (ρ:=ρ) (o:=o+l*sz) (n:=h'-l) (cap:=n-l) (cap':=n-l) hpl U (aS1 _) (by
        intro e2 T hT;obtain⟨ccs,ce,lo0,hi0,ho,hcs,hfz,hrow,hnrow⟩:=hr.blk b pl _ hpl hb;rw[hnrow (by rw[hk];simp)] at hT;cases hT)
       simpa[Nat.add_assoc] using this
    ·cases h
   ·cases h
  ·cases h
 ·cases h
theorem Tx: ∀{l:List Value}{bs:List UInt8},yB l=some bs-> ∃ns:List Int,l=ns.map (Value.int .u8)/\bs=ns.map λn=>UInt8.ofNat n.toNat
 |[],bs,h=>by simp[yB] at h;exact⟨[],rfl,by simp[h]⟩
 |v::l,bs,h=>by
  unfold yB at h
  split at h
  ·rename_i hh;cases hh
  ·rename_i n r' hh
   injection hh with h1 h2;subst h1;subst h2;cases hb:yB l with
   |none=>simp[hb] at h
   |some bs'=>
    simp[hb] at h;obtain⟨ns,rfl,rfl⟩:=Tx hb
    exact⟨n::ns,rfl,by simp[h]⟩
  ·cases h
theorem aER (hr:Rel P ρ (cE H) w){s d e:TypeId}(hs:P.underlying s=some (.slice e))(he:P.underlying e=some (.int .u8))(hd:P.underlying d=some .string)
  {v v' r:Value}(hv:Vr ρ v v')(h:oF v H=some (r,H')):H'=H/\(convert s d v').run P w= .ok r w/\cK r=true:=by
 unfold oF at h
 split at h
 ·injection h with h;injection h with h1 h2;subst h1;subst h2
  cases hv with
  |same _=>
   refine⟨rfl,?_,rfl⟩;rw[run_convert_bytes_string w s d e none 0 0 hs he hd];simp[Conv.bytesToString]
 ·rename_i b o n c
  split at h
  ·rename_i h0
   injection h with h;injection h with h1 h2;subst h1;subst h2;subst h0;have fin0: ∀(a:Addr)(c':Nat),(convert s d (.slice (some a) 0 c')).run P w= .ok (.string .empty) w:=by
    intro a c';rw[run_convert_bytes_string w s d e (some a) 0 c' hs he hd,run_bytesToString w a 0 c' [] (by rfl)]
    rfl
   refine⟨rfl,?_,rfl⟩;cases hv with
   |same hl=>simp[dH] at hl
   | @slice _ _ _ _ cap' pl hpl _ _ _=>exact fin0 _ _
   | @slice0 _ _ pl a hpl=>exact fin0 _ _
  split at h
  ·rename_i cs e' k hb
   split at h
   ·rename_i hlen
    split at h
    ·rename_i bs hbs
     injection h with h;injection h with h1 h2;subst h1;subst h2;refine⟨rfl,?_,rfl⟩;obtain⟨ns,hns,hbs'⟩:=Tx hbs;have fin: ∀(a:Addr)(c':Nat),(loadCells a n).run P w= .ok (ns.map (Value.int .u8)).toArray w->(convert s d (.slice (some a) n c')).run P w= .ok (.string ⟨bs.toArray⟩) w:=by
      intro a c' hl;rw[run_convert_bytes_string w s d e (some a) n c' hs he hd,run_bytesToString w a n c' ns hl,foldl_push_bytes,hbs'];simp[ByteArray.empty,ByteArray.emptyWithCapacity];rfl
     cases hv with
     |same hl=>simp[dH] at hl
     | @slice _ _ _ _ cap' pl hpl _ _ _=>
      apply fin;obtain⟨ys,hyl,hys,hcell⟩:=(hr.blk b pl _ hpl hb).C6 hlen;have hrun:=run_loadCells_list (P:=P) w ⟨pl.c,pl.base+o,none⟩ ys hcell;rw[hyl] at hrun;have:ys=ns.map (Value.int .u8):=by
       rw[hns] at hys;apply aTx;intro i;cases hi:(ns.map (Value.int .u8))[i]? with
       |none=>
        apply aS7;rw[<-hys.1];exact List.getElem?_eq_none_iff.1 hi
       |some x=>
        obtain⟨y,hy,hxy⟩:=hys.yF hi;rw[hy];have hm:=aS6 hi;simp only[aTz] at hm;obtain⟨z,_,rfl⟩:=hm;rw[hxy.hZ rfl]
      rw[this] at hrun;exact hrun
     | @slice0 _ _ pl a hpl=>
      apply fin;simp at hns;have:ns=[]:=by cases ns<;>simp_all
      subst this;rfl
    ·cases h
   ·cases h
  ·cases h
 ·cases h
theorem Jf: ∀{ks:List Bool}{xs ys:List Value}{b:Bool},eqT ks xs ys=some b->(∀x∈xs,cK x=true)/\(∀y∈ys,cK y=true)
 |ks,xs,ys,b,h=>by
  unfold eqT at h
  split at h
  ·exact⟨by simp,by simp⟩
  ·rename_i ks' k a xs' k' b' ys'
   split at h
   ·cases hr:eqT ks' xs' ys' with
    |none=>simp[hr] at h
    |some r=>
     obtain⟨h2,h3⟩:=Jf hr
     exact⟨by simp[cK];exact h2,by simp[cK];exact h3⟩
   ·cases h
  ·rename_i ks' a xs' b' ys'
   cases hr:eqT ks' xs' ys' with
   |none=>simp[hr] at h
   |some r=>
    obtain⟨h2,h3⟩:=Jf hr
    exact⟨by simp[cK];exact h2,by simp[cK];exact h3⟩
  ·cases h
theorem Vrs.Dg {xs ys:List Value}(h:Vrs ρ xs ys)(hf: ∀x∈xs,cK x=true):ys=xs:=by
 induction xs generalizing ys with
 |nil=>exact h.nM
 |cons x xs ih=>
  obtain⟨y,ys',rfl,hy,hs⟩:=h.oJ;rw[hy.hZ (hf x (by simp)),ih hs λz hz=>hf z (by simp[hz])]
theorem Ji (d:Nat)(xs ys:Array Value): ∀(fs:List Field)(k:Nat)(ks:List Bool)(b:Bool),qE P k fs=some ks->
  eqT ks (xs.toList.drop k) (ys.toList.drop k)=some b->(Op.eqFields (d+1) xs ys fs).run P w= .ok b w
 |[],k,ks,b,hf,h=>by
  simp only[qE,aTn] at hf;subst hf;unfold eqT at h
  split at h<;>simp_all
  subst h;simp[Op.eqFields]
 |f::fs,k,ks,b,hf,h=>by
  simp only[qE] at hf
  split at hf
  ·rename_i hc
   obtain⟨hoff,hname⟩:=hc;have px: ∀(zs:Array Value)(z:Value)(zr:List Value),lI P f.type=some false->zs.toList.drop k=z::zr->(part f.type zs f.offset).run P w= .ok z w:=by
    intro zs z zr hagg hz;have hk:k<zs.toList.length:=by
     rcases Nat.lt_or_ge k zs.toList.length with hk|hk
     ·exact hk
     ·rw[List.drop_eq_nil_of_le hk] at hz;cases hz
    have:zs.toList[k]? =some z:=by
     have:=congrArg (λl:List Value=>l[0]?) hz
     simpa using this
    rw[Array.getElem?_toList] at this;simp[part,yH hagg,hoff,this]
   have tl: ∀(zs:Array Value)(z:Value)(zr:List Value),zs.toList.drop k=z::zr->zs.toList.drop (k+1)=zr:=by
    intro zs z zr hz;have:=congrArg List.tail hz;simpa using this
   split at hf
   ·rename_i kk hu
    have hagg:lI P f.type=some false:=by simp[lI,hu]
    cases hks:qE P (k+1) fs with
    |none=>simp[hks] at hf
    |some ks'=>
     simp[hks] at hf;subst hf;unfold eqT at h
     split at h
     ·rename_i hh _ _;cases hh
     ·rename_i ks2 k1 a xs' k2 b' ys' e1 e2 e3
      injection e1 with _ e1;subst e1
      split at h
      ·rename_i hk
       subst hk;cases hr:eqT ks' xs' ys' with
       |none=>simp[hr] at h
       |some r=>
        rw[hr] at h;injection h with h;subst h;have ih:=Ji d xs ys fs (k+1) ks' r hks (by rw[tl xs _ _ e2,tl ys _ _ e3];exact hr)
        simp only[Op.eqFields,hname,not_false_eq_true,if_true,ne_eq,Sem.run_bind,px xs _ _ hagg e2,px ys _ _ hagg e3,aTk,run_equalIn_int w d f.type k1 kk a b' hu];cases hab:(a==b') with
        |false=>simp
        |true=>simp[ih]
      ·cases h
     ·rename_i hh _ _;cases hh
     ·cases h
   ·rename_i hu
    have hagg:lI P f.type=some false:=by simp[lI,hu]
    cases hks:qE P (k+1) fs with
    |none=>simp[hks] at hf
    |some ks'=>
     simp[hks] at hf;subst hf;unfold eqT at h
     split at h
     ·rename_i hh _ _;cases hh
     ·rename_i hh _ _;cases hh
     ·rename_i ks2 a xs' b' ys' e1 e2 e3
      injection e1 with _ e1;subst e1;cases hr:eqT ks' xs' ys' with
      |none=>simp[hr] at h
      |some r=>
       rw[hr] at h;injection h with h;subst h;have ih:=Ji d xs ys fs (k+1) ks' r hks (by rw[tl xs _ _ e2,tl ys _ _ e3];exact hr)
       simp only[Op.eqFields,hname,not_false_eq_true,if_true,ne_eq,Sem.run_bind,px xs _ _ hagg e2,px ys _ _ hagg e3,aTk,run_equalIn_bool' w d f.type a b' hu];cases hab:(a==b') with
       |false=>simp
       |true=>simp[ih]
     ·cases h
   ·cases hf
  ·cases hf
theorem Dh {t:TypeId}{ks:List Bool}(h:qF P t=some ks):P.underlying t=some (.struct (P.fieldsOf t))/\P.stoodInHeld t=false/\P.eqGuardType P.depth t=false/\qE P 0 (P.fieldsOf t).toList=some ks:=by
 unfold qF at h
 split at h
 ·rename_i fs hu
  split at h
  ·rename_i hc
   have:P.fieldsOf t=fs:=by simp[Program.fieldsOf,hu]
   rw[this]
   exact⟨hu,hc.1,hc.2,h⟩
  ·cases h
 ·cases h
theorem T9 (d:Nat){t:TypeId}{ks:List Bool}{xs ys:Array Value}{b:Bool}(hk:qF P t=some ks)(h:eqT ks xs.toList ys.toList=some b)(w:World):
  (Op.equalIn (d+2) t (.agg xs) (.agg ys)).run P w= .ok b w:=by
 obtain⟨h1,h2,h3,h4⟩:=Dh hk;rw[run_equalIn_struct w (d+1) t xs ys h1 h2];exact Ji d xs ys _ 0 ks b h4 (by simpa using h)
theorem T0 {t e:TypeId}(d:Nat)(p:Option Addr)(hu:P.underlying t=some (.pointer e))(w:World):(Op.equalIn (d+1) t (.pointer none) (.pointer p)).run P w= .ok p.isNone w:=by
 cases p<;>simp[Op.equalIn,run_underlying hu]
theorem aEO {t e:TypeId}(d:Nat)(p:Option Addr)(hu:P.underlying t=some (.pointer e))(w:World):(Op.equalIn (d+1) t (.pointer p) (.pointer none)).run P w= .ok p.isNone w:=by
 cases p<;>simp[Op.equalIn,run_underlying hu]
theorem Je {t e:TypeId}(d:Nat)(p:Option Addr)(a b a' b':Nat)(hu:P.underlying t=some (.slice e))(w:World):(Op.equalIn (d+1) t (.slice none a b) (.slice p a' b')).run P w= .ok p.isNone w:=by
 cases p<;>simp[Op.equalIn,run_underlying hu]
theorem T6 {t e:TypeId}(d:Nat)(p:Option Addr)(a b a' b':Nat)(hu:P.underlying t=some (.slice e))(w:World):(Op.equalIn (d+1) t (.slice p a b) (.slice none a' b')).run P w= .ok p.isNone w:=by
 cases p<;>simp[Op.equalIn,run_underlying hu]
theorem Tz {t k e:TypeId}(d:Nat)(p:Option Nat)(hu:P.underlying t=some (.map k e))(w:World):(Op.equalIn (d+1) t (.map p) (.map none)).run P w= .ok p.isNone w:=by
 cases p<;>simp[Op.equalIn,run_underlying hu]
theorem aEM {t:TypeId}{ps rs:Array TypeId}{v:Bool}(d:Nat)(hu:P.underlying t=some (.func ps rs v))(w:World):(Op.equalIn (d+1) t .nilFunc .nilFunc).run P w= .ok true w:=by
 simp[Op.equalIn,run_underlying hu]
theorem aEN {t:TypeId}{ps rs:Array TypeId}{v:Bool}(d:Nat)(f:Fn)(x y:Array Value)(hu:P.underlying t=some (.func ps rs v))(w:World):(Op.equalIn (d+1) t (.func f x y) .nilFunc).run P w= .ok false w:=by
 simp[Op.equalIn,run_underlying hu]
theorem Jg {t:TypeId}{p:Option Addr}(h:hP P t (.pointer p)=true): ∃e,P.underlying t=some (.pointer e):=by
 unfold hP at h;split at h<;>simp_all
theorem Jh {t:TypeId}{p:Option Addr}{a b:Nat}(h:hP P t (.slice p a b)=true): ∃e,P.underlying t=some (.slice e):=by
 unfold hP at h;split at h<;>simp_all
theorem T8 {t:TypeId}{p:Option Nat}(h:hP P t (.map p)=true): ∃k e,P.underlying t=some (.map k e):=by
 unfold hP at h;split at h<;>simp_all
theorem T7 {t:TypeId}(h:hP P t .nilFunc=true): ∃ps rs v,P.underlying t=some (.func ps rs v):=by
 unfold hP at h;split at h<;>simp_all
def EqRuns (P:Program)(t:TypeId)(x' y':Value)(b:Bool)(w:World):Prop:=
 (∀(op:BinOp)(a c:Operand),(eqGuard op t a c x' y').run P w= .ok () w)/\(binOp .eql t x' y').run P w= .ok (.bool b) w/\(binOp .neq t x' y').run P w= .ok (.bool !b) w
theorem EqRuns.oK {t:TypeId}{x' y':Value}{b:Bool}{w:World}(h:(Op.equalIn (9999+1) t x' y').run P w= .ok b w)(hg: ∀(op:BinOp)(a c:Operand),(eqGuard op t a c x' y').run P w= .ok () w)
  (he: ∀w,(binOp .eql t x' y').run P w=(do pure (.bool (<-Op.equal t x' y')):Sem Value).run P w)(hn: ∀w,(binOp .neq t x' y').run P w=(do pure (.bool (!(<-Op.equal t x' y'))):Sem Value).run P w):EqRuns P t x' y' b w:=by
 have h':(Op.equal t x' y').run P w= .ok b w:=h;refine⟨hg,?_,?_⟩
 ·rw[he];simp[h']
 ·rw[hn];simp[h']
theorem Ty {t:TypeId}{x x' y y':Value}{b:Bool}(hx:Vr ρ x x')(hy:Vr ρ y y')(h:jI P t x y=some b)(w:World):EqRuns P t x' y' b w:=by
 unfold jI at h
 split at h
 ·rename_i xs ys
  split at h
  ·rename_i ks hk
   obtain⟨f1,f2⟩:=Jf h;have e1:x'= .agg xs:=by
    cases hx with
    |same hl=>rfl
    | @agg _ x2 hl h1=>have:xs.toList=x2.toList:=(Vrs.Dg ⟨hl,h1⟩ f1).symm;rw[Array.ext' this]
   have e2:y'= .agg ys:=by
    cases hy with
    |same hl=>rfl
    | @agg _ x2 hl h1=>have:ys.toList=x2.toList:=(Vrs.Dg ⟨hl,h1⟩ f2).symm;rw[Array.ext' this]
   subst e1;subst e2;refine .oK (T9 9998 hk h w) (λop a c=>run_eqGuard_agg w op t a c xs ys (Dh hk).2.2.1) (λw=> ?_) (λw=> ?_)
   ·rfl
   ·rfl
  ·cases h
 ·split at h
  ·rename_i hc
   simp only[aS4] at hc;obtain⟨hn1,hn2⟩:=hc;have gd: ∀(p q:Value),(∀xs,p≠ .agg xs)->p≠ .nilIface-> ∀(op:BinOp)(a c:Operand),(eqGuard op t a c p q).run P w= .ok () w:=by
    intro p q h1 h2 op a c;cases op<;>(try (rfl))<;>(cases p<;>first|rfl|(exact absurd rfl h2)|(exact absurd rfl (h1 _)))
   unfold eqV at h
   split at h
   ·injection h with h;subst h
    obtain⟨e,hu⟩:=Jg hn1;cases hx;cases hy
    exact .oK (T0 9999 none hu w) (gd _ _ (by simp) (by simp)) (λ_=>rfl) (λ_=>rfl)
   ·injection h with h;subst h
    obtain⟨e,hu⟩:=Jg hn1;cases hx;cases hy with
    |same hl=>simp[dH] at hl
    |ptr _=>exact .oK (T0 9999 (some _) hu w) (gd _ _ (by simp) (by simp)) (λ_=>rfl) (λ_=>rfl)
   ·injection h with h;subst h
    obtain⟨e,hu⟩:=Jg hn1;cases hy;cases hx with
    |same hl=>simp[dH] at hl
    |ptr _=>exact .oK (aEO 9999 (some _) hu w) (gd _ _ (by simp) (by simp)) (λ_=>rfl) (λ_=>rfl)
   ·injection h with h;subst h
    obtain⟨e,hu⟩:=Jh hn1;cases hx;cases hy
    exact .oK (Je 9999 none 0 0 0 0 hu w) (gd _ _ (by simp) (by simp)) (λ_=>rfl) (λ_=>rfl)
   ·injection h with h;subst h
    obtain⟨e,hu⟩:=Jh hn1;cases hy;cases hx with
    |same hl=>simp[dH] at hl
    |slice=>exact .oK (T6 9999 (some _) _ _ 0 0 hu w) (gd _ _ (by simp) (by simp)) (λ_=>rfl) (λ_=>rfl)
    |slice0=>exact .oK (T6 9999 (some _) _ _ 0 0 hu w) (gd _ _ (by simp) (by simp)) (λ_=>rfl) (λ_=>rfl)
   ·injection h with h;subst h
    obtain⟨e,hu⟩:=Jh hn1;cases hx;cases hy with
    |same hl=>simp[dH] at hl
    |slice=>exact .oK (Je 9999 (some _) 0 0 _ _ hu w) (gd _ _ (by simp) (by simp)) (λ_=>rfl) (λ_=>rfl)
    |slice0=>exact .oK (Je 9999 (some _) 0 0 _ _ hu w) (gd _ _ (by simp) (by simp)) (λ_=>rfl) (λ_=>rfl)
   ·injection h with h;subst h
    obtain⟨k,e,hu⟩:=T8 hn1;cases hx;cases hy
    exact .oK (Tz 9999 none hu w) (gd _ _ (by simp) (by simp)) (λ_=>rfl) (λ_=>rfl)
   ·injection h with h;subst h
    obtain⟨k,e,hu⟩:=T8 hn1;cases hy;cases hx with
    |same hl=>simp[dH] at hl
    |map _=>exact .oK (Tz 9999 (some _) hu w) (gd _ _ (by simp) (by simp)) (λ_=>rfl) (λ_=>rfl)
   ·injection h with h;subst h
    obtain⟨ps,rs,v,hu⟩:=T7 hn1;cases hx;cases hy
    exact .oK (aEM 9999 hu w) (gd _ _ (by simp) (by simp)) (λ_=>rfl) (λ_=>rfl)
   ·injection h with h;subst h
    obtain⟨ps,rs,v,hu⟩:=T7 hn2;cases hy;cases hx with
    |same hl=>simp[dH] at hl
    |func=>exact .oK (aEN 9999 _ _ _ hu w) (gd _ _ (by simp) (by simp)) (λ_=>rfl) (λ_=>rfl)
   ·cases h
  ·cases h
theorem pH {s:Sem Value}{r:Value}(h:eT P s=some r)(w:World):s.run P w= .ok r w/\cK r=true:=by
 unfold eT at h
 split at h
 ·rename_i r' hp
  split at h
  ·rename_i hf
   injection h with h;subst h
   exact⟨aEz _ _ hp w,hf⟩
  ·cases h
 ·cases h
theorem aEL {op:BinOp}{t:TypeId}{x x' y y' r:Value}(hx:Vr ρ x x')(hy:Vr ρ y y')(h:bin P op t x y=some r)(a c:Operand)(w:World):
  (do eqGuard op t a c x' y';binOp op t x' y':Sem Value).run P w= .ok r w/\cK r=true:=by
 unfold bin at h
 split at h
 ·rename_i hf
  simp only[aS4] at hf;rw[hx.hZ hf.1,hy.hZ hf.2];have hg:(eqGuard op t a c x y).run P w= .ok () w:=by
   cases x<;>simp[cK] at hf<;>cases y<;>simp[cK] at hf<;>cases op<;>rfl
  exact⟨by simp only[Sem.run_bind,hg,aTk];exact(pH h w).1,(pH h w).2⟩
 ·split at h
  ·cases he:jI P t x y with
   |none=>simp[he] at h
   |some b=>
    simp[he] at h;subst h;obtain⟨h1,h2,h3⟩:=Ty hx hy he w
    exact⟨by simp only[Sem.run_bind,h1,aTk,h2],rfl⟩
  ·cases he:jI P t x y with
   |none=>simp[he] at h
   |some b=>
    simp[he] at h;subst h;obtain⟨h1,h2,h3⟩:=Ty hx hy he w
    exact⟨by simp only[Sem.run_bind,h1,aTk,h3],rfl⟩
  ·cases h
end
section
variable {P : Program} {ρ : Ren} {H H' : aG} {w : World}
def vS (P:Program)(fn:Fn)(args:Array Value)(w:World)(R:Value->World->Prop):Prop:=
 match fn with
 | .func g=>(callFunc g args).run P w= .ok (.enter g args) w/\Calls P g args w λe w'=> ∃v,e= .returned v/\R v w'
 |_=>False
def uD (P:Program)(O:aH):Prop:=
 ∀fn args H v H',O fn args H=some (v,H')-> ∀ρ w args',Rel P ρ (cE H) w->Vrs ρ args args'->(∀b,H.length<=b->b<H'.length->ρ b=none)->
  vS P fn args'.toArray w (Post P ρ H w v H')
def OpGood (P:Program)(o:Oper)(a:Act)(w:World)(R:Value->World->Prop):Prop:=
 (∃v w',(execOp a.eval o).run P w= .ok (.value v) w'/\R v w')∨
 (∃w',(execOp a.eval o).run P w= .ok .skip w'/\R undef w')∨
 (∃f args,(execOp a.eval o).run P w= .ok (.enter f args) w/\Calls P f args w λe w'=> ∃v,e= .returned v/\R v w')
theorem OpGood.aES {o:Oper}{a:Act}{R:Value->World->Prop}(h:OpGood P o a w R){next:Act->World->Prop}{Q:Exit->Act->World->Prop}
  (hn: ∀v w',R v w'->next (a.put o.dst v) w'):o.wp P a w next Q:=by
 unfold Oper.wp;rcases h with⟨v,w',h,hr⟩|⟨w',h,hr⟩|⟨f,args,h,hr⟩
 ·rw[h];exact hn _ _ hr
 ·rw[h];exact hn _ _ hr
 ·rw[h]
  exact hr.mono λe w' ⟨v,he,hv⟩=>by subst he;exact hn _ _ hv
def yJ (ρ:Ren)(t:cU)(a:Act)(xs:List Operand):Prop:= ∀x∈xs,∀v,opv t x=some v->Vr ρ v (a.eval x)
theorem kF {x:Option Value}{r:Value}(h:aP x H=some (r,H')):x=some r/\H'=H:=by
 cases x with
 |none=>cases h
 |some v=>simp only[aP,aU] at h;injection h with h;injection h with h1 h2;exact⟨by rw[h1],h2.symm⟩
theorem Dk {t:cU}{a:Act}: ∀{xs:List Operand}{vs:List Value},yJ ρ t a xs->vO t xs=some vs->Vrs ρ vs (xs.map a.eval)
 |[],vs,_,h=>by simp[vO] at h;subst h;exact .nL ρ
 |x::xs,vs,ho,h=>by
  simp only[vO] at h
  split at h
  ·rename_i v vs' h1 h2
   injection h with h;subst h;exact .mV (ho x (by simp) v h1) (Dk (λy hy=>ho y (by simp[hy])) h2)
  ·cases h
theorem Jl {t:cU}{a:Act}: ∀{xs:List (Nat×Operand)}{vs:List (Nat×Value)},yJ ρ t a (xs.map (·.2))->yD t xs=some vs->Aj ρ vs (xs.map λ(i,x)=>(i,a.eval x))
 |[],vs,_,h=>by simp[yD] at h;subst h;exact⟨rfl,.nL ρ⟩
 |(i,x)::xs,vs,ho,h=>by
  simp only[yD] at h
  split at h
  ·rename_i v vs' h1 h2
   injection h with h;subst h;have ih:=Jl (λy hy=>ho y (by simp at hy ⊢; exact .inr hy)) h2
   exact⟨by simp[ih.1],by simpa using Vrs.mV (ho x (by simp) v h1) ih.2⟩
  ·cases h
theorem Jk {t:cU}{a:Act}{x:Option Operand}{v:Option Value}(ho:yJ ρ t a x.toList)(h:yC t x=some v):Vro ρ v (x.map a.eval):=by
 cases x with
 |none=>simp[yC] at h;subst h;trivial
 |some x=>
  simp only[yC] at h;cases hv:opv t x with
  |none=>simp[hv] at h
  |some u=>simp[hv] at h;subst h;exact ho x (by simp) u hv
theorem vT {e:TypeId}{z:Value}(h:pC P e=some z):nK P e=some z/\z.cells.toList.all dH=true:=by
 unfold pC at h
 split at h
 ·split at h
  ·injection h with h;subst h;rename_i h1 h2;exact⟨h1,h2⟩
  ·cases h
 ·cases h
theorem Vr.Dj {z:Value}(h:z.cells.toList.all dH=true):Vr ρ z z:=by
 cases z with
 |agg cs=>exact .mJ h
 |_=>exact .same (by simpa[Value.cells] using h)
theorem uE {o:Oper}{a:Act}{s:Sem Value}{R:Value->World->Prop}(he:execOp a.eval o=(do pure (.value (<-s)):Sem Next))(h:pG P s w R):OpGood P o a w R:=by
 obtain⟨v,w',h1,h2⟩:=h;exact .inl ⟨v,w',by rw[he];simp[h1],h2⟩
theorem Jj {o:Oper}{a:Act}{s:Sem Unit}{R:Value->World->Prop}(he:execOp a.eval o=(do s;pure .skip:Sem Next)){w':World}(h:s.run P w= .ok () w')(hr:R undef w'):OpGood P o a w R:=
 .inr (.inl ⟨w',by rw[he];simp[h],hr⟩)
theorem mK {o:Oper}{a:Act}{s:Sem Value}(hr:Rel P ρ (cE H) w)(he:execOp a.eval o=(do pure (.value (<-s)):Sem Next)){v v':Value}(h:s.run P w= .ok v' w)(hv:Vr ρ v v'):OpGood P o a w (Post P ρ H w v H):=
 uE he ⟨v',w,h,Post.kE hr hv⟩
theorem aEZ {v v' r:Value}(hv:Vr ρ v v')(h:oE v=some r):Vr ρ r v'/\((∃a,v'= .pointer (some a))∨ ∃f x y,v'= .func (.func f) x y):=by
 unfold oE at h
 split at h
 ·rename_i a
  injection h with h;subst h;refine⟨hv,.inl ?_⟩;cases hv with
  |same hl=>simp[dH] at hl
  |ptr _=>exact⟨_,rfl⟩
 ·rename_i f x y
  injection h with h;subst h;refine⟨hv,.inr ?_⟩;cases hv with
  |same hl=>simp[dH] at hl
  |func=>exact⟨_,_,_,rfl⟩
 ·cases hv with
  |same hl=>simp[dH] at hl
 ·cases h
theorem aEV {off:Nat}{v v' r:Value}(hv:Vr ρ v v')(h:nJ off v=some r): ∃c o,v'=adr c o/\Vr ρ r (adr c (o+off)):=by
 unfold nJ at h
 split at h
 ·rename_i b o
  injection h with h;subst h;obtain⟨pl,hpl,rfl⟩:=hv.yG;refine⟨_,_,rfl,?_⟩;have:=Vr.ptr (ρ:=ρ) (o:=o+off) hpl;simpa[Nat.add_assoc] using this
 ·cases h
theorem aEW {sz:Nat}{v v' i i' r:Value}(hv:Vr ρ v v')(hi:Vr ρ i i')(h:cQ sz v i=some r):
  ∃c o n cap k j,v'= .slice (some ⟨c,o,none⟩) n cap/\i'= .int k j/\0<=j/\j<(n:Int)/\Vr ρ r (adr c (o+j.toNat*sz)):=by
 unfold cQ at h
 split at h
 ·rename_i b o n cap k j
  split at h
  ·rename_i hc
   injection h with h;subst h;have e:=hi.hZ rfl;subst e;cases hv with
   |same hl=>simp[dH] at hl
   | @slice _ _ _ _ cap' pl hpl _ _ _=>
    refine⟨pl.c,pl.base+o,n,cap',k,j,rfl,rfl,hc.1,hc.2,?_⟩;have:=Vr.ptr (ρ:=ρ) (o:=o+j.toNat*sz) hpl;simpa[Nat.add_assoc] using this
   |slice0=>omega
  ·cases h
 ·cases h
theorem aET {len sz:Nat}{v v' i i' r:Value}(hv:Vr ρ v v')(hi:Vr ρ i i')(h:o8 len sz v i=some r):
  ∃c o k j,v'=adr c o/\i'= .int k j/\0<=j/\j<(len:Int)/\Vr ρ r (adr c (o+j.toNat*sz)):=by
 unfold o8 at h
 split at h
 ·rename_i b o k j
  split at h
  ·rename_i hc
   injection h with h;subst h;have e:=hi.hZ rfl;subst e;obtain⟨pl,hpl,rfl⟩:=hv.yG;refine⟨_,_,k,j,rfl,rfl,hc.1,hc.2,?_⟩;have:=Vr.ptr (ρ:=ρ) (o:=o+j.toNat*sz) hpl;simpa[Nat.add_assoc] using this
  ·cases h
 ·cases h
theorem aE0 {t:TypeId}{g:Bool}{off sz by':Nat}(hg:lI P t=some g)(hs:eS P t=some (sz,by')){v v' r:Value}(hv:Vr ρ v v')(h:(if g=true then Iy off sz v else pA off v)=some r)(w:World):
  ∃cs r',v'= .agg cs/\(part t cs off).run P w= .ok r' w/\Vr ρ r r':=by
 have hagg: ∀{x:Array Value},v= .agg x-> ∃cs,v'= .agg cs/\Vrs ρ x.toList cs.toList:=by
  rintro x rfl
  cases hv with
  |same hl=>simp[dH] at hl
  | @agg _ x' hl h1=>exact⟨x',rfl,hl,h1⟩
 cases g with
 |true=>
  simp only[if_true,Iy] at h
  split at h
  ·rename_i x
   injection h with h;subst h;obtain⟨cs,rfl,hcs⟩:=hagg rfl;refine⟨cs,.agg (cs.extract off (off+sz)),rfl,by simp[part,yH hg,mX hs],?_⟩
   have hd:=(hcs.aEv off).aEw sz;have e:(cs.extract off (off+sz)).toList=(cs.toList.drop off).take sz:=by simp[List.extract]
   exact .agg (by rw[e];simpa using hd.1) (by rw[e];simpa using hd.2)
  ·cases h
 |false=>
  simp only[Bool.false_eq_true,if_false,pA] at h
  split at h
  ·rename_i x
   obtain⟨cs,rfl,hcs⟩:=hagg rfl;obtain⟨r',h1,h2⟩:=hcs.yF h;rw[Array.getElem?_toList] at h1
   exact⟨cs,r',rfl,by simp[part,yH hg,h1],h2⟩
  ·cases h
theorem Ua {mx:Bool}{vs vs':List Value}{r:Value}(hv:Vrs ρ vs vs')(h:iX P mx vs=some r)(w:World):
  vs'=vs/\cK r=true/\(if mx=true then Builtin.max_ #[] 0 vs.toArray else Builtin.min_ #[] 0 vs.toArray).run P w= .ok r w:=by
 unfold iX at h
 split at h
 ·rename_i hf
  refine⟨Vrs.Dg hv (by simpa using hf),?_⟩
  cases mx with
  |true=>simp only[if_true] at h ⊢; exact⟨(pH h w).2,(pH h w).1⟩
  |false=>simp only[Bool.false_eq_true,if_false] at h ⊢; exact⟨(pH h w).2,(pH h w).1⟩
 ·cases h
theorem aEU {t:TypeId}{ps ps':List (Nat×Value)}{cs:Array Value}{z:Value}(hz:pC P t=some z)(hp:Aj ρ ps ps')(h:P.built t ps=some cs):
  ∃cs',P.built t ps'=some cs'/\Vrs ρ cs.toList cs'.toList:=by
 obtain⟨hz1,hz2⟩:=vT hz;have hzz:Vrs ρ z.cells.toList z.cells.toList:=(Vr.Dj hz2).Ag;unfold nK at hz1;unfold Program.built at h⊢;cases hi:P.info? t with
 |none=>simp[hi] at hz1
 |some it=>
  simp[hi] at hz1;cases hu:P.underlying t with
  |none=>simp[hi,hu] at h
  |some d=>
   cases d<;>simp only[hi,hu,hz1] at h⊢ <;>(try (cases h;done))
   case array n e=>
    cases he:P.info? e with
    |none=>simp[he] at h
    |some ie=>simp only[he] at h ⊢; exact Dd _ _ _ _ _ _ hp hzz h
   case struct fs=>
    cases hf:fs.toList.mapM (λf=>(P.info? f.type).map λi=>(f.offset,i.size)) with
    |none=>simp[hf] at h
    |some pl=>simp only[hf] at h ⊢; exact Dd _ _ _ _ _ _ hp hzz h
theorem aEX {v v' r:Value}(hv:Vr ρ v v'){ts:Array TypeId}{t ty e:TypeId}(hts:ts[0]? =some t)(hu:P.underlying t=some (.slice e))(h:cY v=some r)(w:World):
  (Builtin.len_ ts ty #[v']).run P w= .ok r w/\cK r=true:=by
 unfold cY at h
 split at h
 ·injection h with h;subst h
  cases hv
  exact⟨by simp[Builtin.len_,hts,run_underlying hu];rfl,rfl⟩
 ·injection h with h;subst h
  cases hv with
  |same hl=>simp[dH] at hl
  |slice=>exact⟨by simp[Builtin.len_,hts,run_underlying hu];rfl,rfl⟩
  |slice0=>exact⟨by simp[Builtin.len_,hts,run_underlying hu];rfl,rfl⟩
 ·cases h
theorem aEY {v v' r:Value}(hv:Vr ρ v v'){ts:Array TypeId}{t ty:TypeId}(hts:ts[0]? =some t)(hu:P.underlying t=some .string)(h:Iv v=some r)(w:World):
  (Builtin.len_ ts ty #[v']).run P w= .ok r w/\cK r=true:=by
 unfold Iv at h
 split at h
 ·injection h with h;subst h
  cases hv
  exact⟨by simp[Builtin.len_,hts,run_underlying hu];rfl,rfl⟩
 ·cases h
end
section
variable {P : Program} {ρ : Ren} {H H' : aG} {w : World}
theorem Jo: ∀{ks:List Bool}{xs ys:List Value},eqT ks xs ys=some true->ys=xs
 |ks,xs,ys,h=>by
  unfold eqT at h
  split at h
  ·rfl
  ·rename_i ks' k a xs' k' b ys'
   split at h
   ·rename_i hk
    subst hk;cases hr:eqT ks' xs' ys' with
    |none=>simp[hr] at h
    |some r=>
     simp[hr] at h;obtain⟨h1,h2⟩:=h;subst h1 h2;rw[Jo hr]
   ·cases h
  ·rename_i ks' a xs' b ys'
   cases hr:eqT ks' xs' ys' with
   |none=>simp[hr] at h
   |some r=>
    simp[hr] at h;obtain⟨h1,h2⟩:=h;subst h1 h2;rw[Jo hr]
  ·cases h
def KeyV:Value->Prop
 | .int _ _=>True
 | .agg xs=> ∀x∈xs.toList,∃k n b,x= .int k n∨x= .bool b
 |_=>False
theorem Jn: ∀{ks:List Bool}{xs ys:List Value}{b:Bool},eqT ks xs ys=some b->(∀x∈xs,∃k n b,x= .int k n∨x= .bool b)/\(∀x∈ys,∃k n b,x= .int k n∨x= .bool b)
 |ks,xs,ys,b,h=>by
  unfold eqT at h
  split at h
  ·simp
  ·rename_i ks' k a xs' k' b' ys'
   split at h
   ·cases hr:eqT ks' xs' ys' with
    |none=>simp[hr] at h
    |some r=>
     obtain⟨h1,h2⟩:=Jn hr;refine⟨λx hx=> ?_,λx hx=> ?_⟩
     ·rcases aTf.mp hx with rfl|hx
      ·exact⟨k,a,false,.inl rfl⟩
      ·exact h1 x hx
     ·rcases aTf.mp hx with rfl|hx
      ·exact⟨k',b',false,.inl rfl⟩
      ·exact h2 x hx
   ·cases h
  ·rename_i ks' a xs' b' ys'
   cases hr:eqT ks' xs' ys' with
   |none=>simp[hr] at h
   |some r=>
    obtain⟨h1,h2⟩:=Jn hr;refine⟨λx hx=> ?_,λx hx=> ?_⟩
    ·rcases aTf.mp hx with rfl|hx
     ·exact⟨.i64,0,a,.inr rfl⟩
     ·exact h1 x hx
    ·rcases aTf.mp hx with rfl|hx
     ·exact⟨.i64,0,b',.inr rfl⟩
     ·exact h2 x hx
  ·cases h
theorem Jp {k v:Value}{b:Bool}(h:fX .num k v=some b): ∃kk a c,k= .int kk a/\v= .int kk c/\b=(a==c):=by
 cases k<;>cases v<;>simp[fX] at h
 rename_i k1 a k2 c;obtain⟨rfl,rfl⟩:=h
 exact⟨_,_,_,rfl,rfl,rfl⟩
theorem Ud {ks:List Bool}{k v:Value}{b:Bool}(h:fX (.str ks) k v=some b): ∃xs ys,k= .agg xs/\v= .agg ys/\eqT ks xs.toList ys.toList=some b:=by
 cases k<;>cases v<;>simp[fX] at h
 exact⟨_,_,rfl,rfl,h⟩
theorem iY {kt:KeyT}{k v:Value}{b:Bool}(h:fX kt k v=some b):KeyV k/\KeyV v:=by
 unfold fX at h
 split at h
 ·exact⟨trivial,trivial⟩
 ·exact Jn h
 ·cases h
theorem KeyV.fix {k k':Value}(h:KeyV k)(hv:Vr ρ k k'):k'=k:=by
 cases hv with
 |same _=>rfl
 |agg hx h1=>
  rename_i x x';have:=Vrs.Dg (ρ:=ρ) ⟨hx,h1⟩ (λy hy=>by
   obtain⟨k,n,b,rfl|rfl⟩:=h y hy<;>rfl)
  rw[Array.ext' this]
 |ptr _=>exact h.elim
 |slice _ _ _ _=>exact h.elim
 |slice0 _=>exact h.elim
 |map _=>exact h.elim
 |func _ _ _ _=>exact h.elim
 |tuple _ _=>exact h.elim
theorem KeyV.Dl {k k':Value}(h:KeyV k)(hv:Vr ρ k' k):Vr ρ k' k:=hv
theorem Jq {kt:KeyT}{k v:Value}(h:fX kt k v=some true):v=k:=by
 unfold fX at h
 split at h
 ·split at h
  ·rename_i hk
   subst hk;simp at h;rw[h]
  ·cases h
 ·rename_i xs ys
  have:=Jo h;rw[Array.ext' this]
 ·cases h
theorem aE1 {k:Value}(h:KeyV k)(n:Nat):Instr.sameBits (n+1) k k=true:=by
 cases k with
 |int k a=>simp[Instr.sameBits]
 |agg xs=>
  simp only[Instr.sameBits,beq_self_eq_true,aTj];rw[aTB];intro p hp;obtain⟨i,hi⟩:=List.getElem?_of_mem hp;rw[List.getElem?_zip_eq_some] at hi;have e:p.1=p.2:=by
   have:=hi.1.symm.trans hi.2;simpa using this
  obtain⟨k,m,b,hx⟩:=h p.1 (aS6 hi.1);obtain⟨p1,p2⟩:=p;simp only at e hx;subst e;rcases hx with rfl|rfl<;>simp[Instr.sameBits]
 |_=>exact h.elim
theorem Uf {k:Value}(h:KeyV k):(Instr.keyThatStays k k).run P w= .ok k w:=by
 simp[Instr.keyThatStays,aE1 h]
theorem Ue {t:TypeId}{kt:KeyT}(h:o9 P t=some kt):(∃k,P.underlying t=some (.int k)/\kt= .num)∨ ∃ks,qF P t=some ks/\kt= .str ks:=by
 unfold o9 at h
 split at h
 ·rename_i k hu
  cases h;exact .inl ⟨k,hu,rfl⟩
 ·obtain⟨ks,h1,rfl⟩:=aTs.mp h
  exact .inr ⟨ks,h1,rfl⟩
 ·cases h
theorem sX {t:TypeId}{kt:KeyT}(ht:o9 P t=some kt){k:Value}(hk:fX kt k k=some true)(em:Bool):(Instr.checkKey em 10000 t k).run P w= .ok () w:=by
 rcases Ue ht with⟨kk,hu,rfl⟩|⟨ks,hks,rfl⟩
 ·obtain⟨k1,a,c,rfl,_,_⟩:=Jp hk
  rw[show(10000:Nat)=9999+1 from rfl,Instr.checkKey]
  simp only[Sem.run_bind,run_underlying hu,aTk];simp
 ·obtain⟨h1,h2,h3,h4⟩:=Dh hks
  obtain⟨xs,ys,rfl,e,hk⟩:=Ud hk;cases e;have hk':=hk;by_cases hdummy:True
  ·skip
   rw[show(10000:Nat)=9999+1 from rfl,Instr.checkKey]
   simp only[Sem.run_bind,run_underlying h1,aTk];rw[<-Array.forIn_toList];have gen: ∀(L:List Field)(i:Nat)(ks:List Bool),qE P i L=some ks->eqT ks (xs.toList.drop i) (xs.toList.drop i)=some true->
     (forIn (m:=Sem) L PUnit.unit λf _=>if f.name≠ "_" then(do
       let a<-part f.type xs f.offset
       Instr.checkKey em 9999 f.type a
       pure (ForInStep.yield PUnit.unit)) else pure (ForInStep.yield PUnit.unit)).run P w= .ok PUnit.unit w:=by
    intro L;induction L with
    |nil=>intro i ks _ _;simp
    |cons f L ih=>
     intro i ks hf he;simp only[qE] at hf
     split at hf
     ·rename_i hc
      obtain⟨hoff,hname⟩:=hc;have hat: ∀(z:Value)(zr:List Value),lI P f.type=some false->xs.toList.drop i=z::zr->(part f.type xs f.offset).run P w= .ok z w:=by
       intro z zr hagg hz;have:xs.toList[i]? =some z:=by
        have:=congrArg (λl:List Value=>l[0]?) hz
        simpa using this
       rw[Array.getElem?_toList] at this;simp[part,yH hagg,hoff,this]
      have tl: ∀(z:Value)(zr:List Value),xs.toList.drop i=z::zr->xs.toList.drop (i+1)=zr:=by
       intro z zr hz;have:=congrArg List.tail hz;simpa using this
      split at hf
      ·rename_i kk hu
       have hagg:lI P f.type=some false:=by simp[lI,hu]
       obtain⟨ks',hks',rfl⟩:=aTs.mp hf;unfold eqT at he
       split at he
       ·rename_i e1 _ _;cases e1
       ·rename_i k1 ks1 kx a xs' ky b ys' e1 e2 e3
        cases e1;rw[e2] at e3;cases e3;have hr:eqT ks' xs' xs'=some true:=by
         simp at he;exact he
        simp only[List.forIn_cons,Sem.run_bind,hname,ne_eq,not_false_eq_true,if_true,hat _ _ hagg e2,aTk,Sem.run_pure];rw[show(9999:Nat)=9998+1 from rfl,Instr.checkKey]
        simp only[Sem.run_bind,run_underlying hu,aTk,Sem.run_pure];exact ih (i+1) ks' hks' (by rw[tl _ _ e2];exact hr)
       ·rename_i e1 _ _;cases e1
       ·cases he
      ·rename_i hu
       have hagg:lI P f.type=some false:=by simp[lI,hu]
       obtain⟨ks',hks',rfl⟩:=aTs.mp hf;unfold eqT at he
       split at he
       ·rename_i e1 _ _;cases e1
       ·rename_i e1 _ _;cases e1
       ·rename_i k1 ks1 a xs' b ys' e1 e2 e3
        cases e1;rw[e2] at e3;cases e3;have hr:eqT ks' xs' xs'=some true:=by
         simp at he;exact he
        simp only[List.forIn_cons,Sem.run_bind,hname,ne_eq,not_false_eq_true,if_true,hat _ _ hagg e2,aTk,Sem.run_pure];rw[show(9999:Nat)=9998+1 from rfl,Instr.checkKey]
        simp only[Sem.run_bind,run_underlying hu,aTk,Sem.run_pure];exact ih (i+1) ks' hks' (by rw[tl _ _ e2];exact hr)
       ·cases he
      ·cases hf
     ·cases hf
   have:=gen _ 0 ks h4 (by simpa using hk)
   rw[this];rfl
  ·exact absurd trivial hdummy
def Jm (ρ:Ren)(es:List Ent)(ms:List MapEntry)(x:Option (Nat×Ent))(x':Option (Nat×Value)):Prop:=
 match x with
 |none=>x'=none
 |some (i,e)=> ∃m,es[i]? =some e/\ms[i]? =some m/\EntR ρ e m/\x'=some (i,m.val)
theorem Uc {kk:IntKind}{k:Value}: ∀(es:List Ent)(ms:List MapEntry)(pre:List Ent)(pms:List MapEntry)(x:Option (Nat×Ent)),pre.length=pms.length->EntsR ρ es ms->KeyV k->jJ .num k es pre.length=some x->
  ∃x',Instr.findNow (.int kk) k ms pre.length=some x'/\Jm ρ (pre++es) (pms++ms) x x'
 |[],ms,pre,pms,x,hl,he,hk,h=>by
  have:ms=[]:=aTe.mp he.1.symm;subst this;simp only[jJ] at h;cases h
  exact⟨none,rfl,rfl⟩
 |e::es,[],pre,pms,x,hl,he,hk,h=>by have:=he.1;simp at this
 |e::es,m::ms,pre,pms,x,hl,he,hk,h=>by
  have hem:=he.2 0 e m rfl rfl;simp only[jJ] at h
  split at h
  ·cases h
  ·rename_i hq
   cases h;have hkey:=Jq hq;have hm:m.key=k:=by rw[<-hkey];exact(iY hq).2.fix hem.1
   refine⟨some (pre.length,m.val),?_,m,by simp,by simp[hl],hem,rfl⟩
   obtain⟨k1,a,c,rfl,_,_⟩:=Jp hq;simp[Instr.findNow,hm,Instr.sameNow]
  ·rename_i hq
   have hm:m.key=e.key:=(iY hq).2.fix hem.1;obtain⟨x',h1,h2⟩:=Uc es ms (pre++[e]) (pms++[m]) x (by simp[hl]) ⟨by have:=he.1;simpa using this,λi a b ha hb=>he.2 (i+1) a b (by simpa using ha) (by simpa using hb)⟩ hk (by simpa using h)
   refine⟨x',?_,by simpa using h2⟩
   obtain⟨k1,a,c,e1,e2,e3⟩:=Jp hq;subst e1;simp only[Instr.findNow,hm,e2,Instr.sameNow,if_true];rw[<-e3];simpa using h1
theorem Ub {t:TypeId}{ks:List Bool}(hks:qF P t=some ks){k:Value}: ∀(es:List Ent)(ms:List MapEntry)(pre:List Ent)(pms:List MapEntry)(x:Option (Nat×Ent)),pre.length=pms.length->EntsR ρ es ms->KeyV k->jJ (.str ks) k es pre.length=some x->
  ∃x',(Instr.findAsking t k ms pre.length).run P w= .ok x' w/\Jm ρ (pre++es) (pms++ms) x x'
 |[],ms,pre,pms,x,hl,he,hk,h=>by
  have:ms=[]:=aTe.mp he.1.symm;subst this;simp only[jJ] at h;cases h
  exact⟨none,rfl,rfl⟩
 |e::es,[],pre,pms,x,hl,he,hk,h=>by have:=he.1;simp at this
 |e::es,m::ms,pre,pms,x,hl,he,hk,h=>by
  have hem:=he.2 0 e m rfl rfl;have eqr: ∀b,fX (.str ks) k e.key=some b->(Op.equal t k m.key).run P w= .ok b w:=by
   intro b hq;have hm:m.key=e.key:=(iY hq).2.fix hem.1;rw[hm];obtain⟨xs,ys,e1,e2,e3⟩:=Ud hq;rw[e1,e2];exact T9 9998 hks e3 w
  simp only[jJ] at h
  split at h
  ·cases h
  ·rename_i hq
   cases h;refine⟨some (pre.length,m.val),?_,m,by simp,by simp[hl],hem,rfl⟩
   simp[Instr.findAsking,eqr true hq]
  ·rename_i hq
   obtain⟨x',h1,h2⟩:=Ub hks es ms (pre++[e]) (pms++[m]) x (by simp[hl]) ⟨by have:=he.1;simpa using this,λi a b ha hb=>he.2 (i+1) a b (by simpa using ha) (by simpa using hb)⟩ hk (by simpa using h)
   refine⟨x',?_,by simpa using h2⟩
   simp only[Instr.findAsking,Sem.run_bind,eqr false hq,aTk];simpa using h1
theorem vU {t:TypeId}{kt:KeyT}(ht:o9 P t=some kt){k:Value}(hk:KeyV k){es:List Ent}{ms:List MapEntry}(he:EntsR ρ es ms){x:Option (Nat×Ent)}(h:jJ kt k es 0=some x):
  ∃x',(Instr.findKey t k ms).run P w= .ok x' w/\Jm ρ es ms x x':=by
 rcases Ue ht with⟨kk,hu,rfl⟩|⟨ks,hks,rfl⟩
 ·obtain⟨x',h1,h2⟩:=Uc (kk:=kk) es ms [] [] x rfl he hk h
  exact⟨x',Go.MapKept.run_findKey hu (by simpa using h1),by simpa using h2⟩
 ·obtain⟨x',h1,h2⟩:=Ub (w:=w) hks es ms [] [] x rfl he hk h
  refine⟨x',?_,by simpa using h2⟩
  rw[run_findKey_eq w (by rw[(Dh hks).1]) k ms]
  simpa using h1
end
section
variable {P : Program} {ρ : Ren} {H H' : aG} {w : World}
theorem yK {t:TypeId}{p:TypeId×TypeId}(h:tY P t=some p):P.underlying t=some (.map p.1 p.2):=by
 unfold tY at h
 split at h
 ·rename_i k e hu
  cases h;exact hu
 ·cases h
theorem Ak {kt:KeyT}{k:Value}: ∀(es:List Ent)(j:Nat)(i:Nat)(e:Ent),jJ kt k es j=some (some (i,e))->fX kt k e.key=some true
 |[],j,i,e,h=>by simp[jJ] at h
 |x::es,j,i,e,h=>by
  simp only[jJ] at h
  split at h
  ·cases h
  ·rename_i hq
   cases h;exact hq
  ·exact Ak es (j+1) i e h
theorem yL (hr:Rel P ρ (cE H) w){b:Nat}{pl:Pl}{es:List Ent}{c:Nat}(hpl:ρ b=some pl)(hb:H[b]? =some (.map es c)): ∃ms:List MapEntry,w.heap[pl.c]? =some (.map ⟨ms⟩ c)/\pl.base=0/\EntsR ρ es ms:=by
 obtain⟨ces,h1,h2,h3⟩:=hr.blk b pl _ hpl hb
 exact⟨ces.toList,by simpa using h1,h2,h3⟩
theorem yM {b:Nat}{v':Value}(h:Vr ρ (.map (some b)) v'): ∃pl,ρ b=some pl/\v'= .map (some pl.c):=by
 cases h with
 |same hl=>simp[dH] at hl
 |map h=>exact⟨_,h,rfl⟩
theorem EntsR.Ug (ρ:Ren):EntsR ρ [] []:=⟨rfl,λi e m h=>by simp at h⟩
theorem vV (hr:Rel P ρ (cE H) w){b:Nat}{pl:Pl}{es es':List Ent}{ms ms':List MapEntry}{c c':Nat}(hpl:ρ b=some pl)(hb:H[b]? =some (.map es c))(hw:w.heap[pl.c]? =some (.map ⟨ms⟩ c))(h0:pl.base=0)(he:EntsR ρ es' ms'):
  Step P ρ H w ρ (H.set b (.map es' c')) (jM w pl.c (.map ⟨ms'⟩ c')):=by
 have hlt:=(aTl.1 hw).1;refine Step.I6 hr hpl (by rw[hb];rfl) (by simp[jM]) (λd hd _=>by rw[vQ _ _ _ hlt,if_neg hd]) ?_ rfl rfl rfl
 rw[vQ _ _ _ hlt,if_pos rfl]
 exact⟨⟨ms'⟩,rfl,h0,he⟩
theorem Dm {x x' y y':Value}(h1:Vr ρ x x')(h2:Vr ρ y y'):Vr ρ (.tuple #[x,y]) (.tuple #[x',y']):=
 let h:=Vrs.mV h1 (Vrs.mV h2 (Vrs.nL ρ))
 .tuple h.1 h.2
theorem aE8 (hr:Rel P ρ (cE H) w){ty kt' et:TypeId}{kt:KeyT}{z:Value}(hu:P.underlying ty=some (.map kt' et))(hkt:o9 P kt'=some kt)(hz:pC P et=some z){ok:Bool}{m m' k k' r:Value}(hm:Vr ρ m m')(hk:Vr ρ k k')
  (h:jK kt z ok m k H=some (r,H')):H'=H/\ ∃r',(Instr.lookup ty m' k' ok).run P w= .ok r' w/\Vr ρ r r':=by
 obtain⟨hz1,hz2⟩:=vT hz;unfold jK at h
 split at h
 ·rename_i hkk
  have e:=(iY hkk).1.fix hk;subst e;have fin: ∀(es:List Ent)(ms:List MapEntry),EntsR ρ es ms->((∃r,m'= .map (some r)/\ ∃c,w.heap[r]? =some (.map ⟨ms⟩ c))∨(m'= .map none/\ms=[]))-> ∀x,jJ kt k' es 0=some x->
    ∃r',(Instr.lookup ty m' k' ok).run P w= .ok r' w/\Vr ρ (match x with|none=>(if ok then .tuple #[z,.bool false] else z)|some (_,e)=>(if ok then .tuple #[e.val,.bool true] else e.val)) r':=by
   intro es ms he hms x hx;obtain⟨x',hx',hF⟩:=vU (w:=w) hkt (iY hkk).1 he hx;have hzz:Vr ρ z z:=Vr.Dj hz2;cases x with
   |none=>
    have:x'=none:=hF;subst this;refine⟨if ok then .tuple #[z,.bool false] else z,?_,?_⟩
    ·rcases hms with⟨r,rfl,c,hc⟩|⟨rfl,rfl⟩
     ·simp[Instr.lookup,run_underlying hu,Go.MapKept.run_getObj_map hc,sX hkt hkk,hx',yI hz1,Result.andThen]
     ·simp[Instr.lookup,run_underlying hu,sX hkt hkk,hx',yI hz1,Result.andThen]
    ·cases ok
     ·exact hzz
     ·exact Dm hzz (.same rfl)
   |some p=>
    obtain⟨i,e⟩:=p;obtain⟨mm,h1,h2,h3,rfl⟩:=hF;refine⟨if ok then .tuple #[mm.val,.bool true] else mm.val,?_,?_⟩
    ·rcases hms with⟨r,rfl,c,hc⟩|⟨rfl,rfl⟩
     ·simp[Instr.lookup,run_underlying hu,Go.MapKept.run_getObj_map hc,sX hkt hkk,hx',Result.andThen]
     ·simp at h2
    ·cases ok
     ·exact h3.2.1
     ·exact Dm h3.2.1 (.same rfl)
  split at h
  ·injection h with h;injection h with h1 h2;subst h1;subst h2
   have:m'= .map none:=by cases hm with|same _=>rfl
   obtain⟨r',g1,g2⟩:=fin [] [] (EntsR.Ug ρ) (.inr ⟨this,rfl⟩) none rfl
   exact⟨rfl,r',g1,g2⟩
  ·rename_i b
   obtain⟨pl,hpl,rfl⟩:=yM hm
   split at h
   ·rename_i es c hb
    obtain⟨ms,h1,h2,h3⟩:=yL hr hpl hb
    split at h
    ·cases h
    ·rename_i hf
     injection h with h;injection h with g1 g2;subst g1;subst g2;obtain⟨r',q1,q2⟩:=fin es ms h3 (.inl ⟨_,rfl,c,h1⟩) none hf
     exact⟨rfl,r',q1,q2⟩
    ·rename_i i e hf
     injection h with h;injection h with g1 g2;subst g1;subst g2;obtain⟨r',q1,q2⟩:=fin es ms h3 (.inl ⟨_,rfl,c,h1⟩) (some (i,e)) hf
     exact⟨rfl,r',q1,q2⟩
   ·cases h
  ·cases h
 ·cases h
theorem Uh {es:List Ent}{ms:List MapEntry}(h:EntsR ρ es ms){e:Ent}{m:MapEntry}(he:EntR ρ e m):EntsR ρ (es++[e]) (ms++[m]):=by
 refine⟨by simp[h.1],λi a b ha hb=> ?_⟩
 by_cases hi:i<es.length
 ·rw[aSZ hi] at ha
  rw[aSZ (by rw[<-h.1];exact hi)] at hb
  exact h.2 i a b ha hb
 ·have hlen:i=es.length:=by
   have:=(aSW.1 ha).1;simp at this;omega
  subst hlen;rw[aTg (aS1 _)] at ha;rw[h.1,aTg (aS1 _)] at hb;simp at ha hb;subst ha hb;exact he
theorem Jr {es:List Ent}{ms:List MapEntry}(h:EntsR ρ es ms){i:Nat}{e:Ent}{m0:MapEntry}(hm0:ms[i]? =some m0){f:MapEntry->MapEntry}(he:EntR ρ e (f m0)):EntsR ρ (es.set i e) (ms.modify i f):=by
 have hi:i<ms.length:=(aSW.1 hm0).1;refine⟨by simp[h.1],λj a b ha hb=> ?_⟩
 rw[List.getElem?_modify] at hb;by_cases hij:i=j
 ·subst hij
  rw[aS2 (by rw[h.1];exact hi)] at ha
  rw[hm0] at hb;simp at ha hb;subst ha hb;exact he
 ·rw[aSX hij] at ha
  simp[hij] at hb;exact h.2 j a b ha hb
theorem aE3 {es:List Ent}{ms:List MapEntry}(h:EntsR ρ es ms)(i:Nat):EntsR ρ (es.eraseIdx i) (ms.eraseIdx i):=by
 refine⟨by rw[List.length_eraseIdx,List.length_eraseIdx,h.1],λj a b ha hb=> ?_⟩
 rw[List.getElem?_eraseIdx] at ha hb
 split at ha
 ·rename_i hj
  rw[if_pos hj] at hb;exact h.2 j a b ha hb
 ·rename_i hj
  rw[if_neg hj] at hb;exact h.2 (j+1) a b ha hb
theorem aE9 (hr:Rel P ρ (cE H) w){ty kt' et:TypeId}{kt:KeyT}(hu:P.underlying ty=some (.map kt' et))(hkt:o9 P kt'=some kt){m m' k k' v v' r:Value}(hm:Vr ρ m m')(hk:Vr ρ k k')(hv:Vr ρ v v')
  (h:kS kt m k v H=some (r,H')): ∃w',(Instr.mapUpdate ty m' k' v').run P w= .ok () w'/\r=undef/\Step P ρ H w ρ H' w':=by
 unfold kS at h
 split at h
 ·rename_i hkk
  have e:=(iY hkk).1.fix hk;subst e
  split at h
  ·rename_i b
   obtain⟨pl,hpl,rfl⟩:=yM hm
   split at h
   ·rename_i es c hb
    obtain⟨ms,h1,h2,h3⟩:=yL hr hpl hb
    split at h
    ·cases h
    ·rename_i hf
     injection h with h;injection h with g1 g2;subst g1;subst g2;obtain⟨x',hx',hF⟩:=vU (w:=w) hkt (iY hkk).1 h3 hf;have:x'=none:=hF;subst this;refine⟨_,?_,rfl,vV hr hpl hb h1 h2 (Uh h3 (m:={key:=k',val:=v',born:=c}) ⟨(iY hkk).1.Dl hk,hv,rfl⟩)⟩;simp[Instr.mapUpdate,run_underlying hu,Go.MapKept.run_getObj_map h1,sX hkt hkk,hx',Go.MapKept.run_setObj_map _ h1,Result.andThen,jM]
    ·rename_i i e hf
     injection h with h;injection h with g1 g2;subst g1;subst g2;obtain⟨x',hx',mm,q1,q2,q3,rfl⟩:=vU (w:=w) hkt (iY hkk).1 h3 hf;have hke:=Jq (Ak _ _ _ _ hf);have hmk:mm.key=k':=by rw[(iY (Ak _ _ _ _ hf)).2.fix q3.1,hke]
     refine⟨_,?_,rfl,vV hr hpl hb h1 h2 (Jr h3 q2 (f:=λe=>{e with key:=k',val:=v'}) ⟨(iY hkk).1.Dl hk,hv,q3.2.2⟩)⟩
     simp[Instr.mapUpdate,run_underlying hu,Go.MapKept.run_getObj_map h1,sX hkt hkk,hx',Go.MapKept.run_setObj_map _ h1,Result.andThen,jM,q2,hmk,Uf (iY hkk).1]
   ·cases h
  ·cases h
 ·cases h
theorem aE7 (hr:Rel P ρ (cE H) w){ty kt' et:TypeId}{kt:KeyT}{z:Value}(hu:P.underlying ty=some (.map kt' et))(hkt:o9 P kt'=some kt)(hz:pC P et=some z){m m' k k' r:Value}(hm:Vr ρ m m')(hk:Vr ρ k k')
  (h:qG kt z m k H=some (r,H')): ∃r' w',(Instr.mapEntry ty m' k').run P w= .ok r' w'/\Vr ρ r r'/\Step P ρ H w ρ H' w':=by
 obtain⟨hz1,hz2⟩:=vT hz;unfold qG at h
 split at h
 ·rename_i hkk
  have e:=(iY hkk).1.fix hk;subst e
  split at h
  ·rename_i b
   obtain⟨pl,hpl,rfl⟩:=yM hm
   split at h
   ·rename_i es c hb
    obtain⟨ms,h1,h2,h3⟩:=yL hr hpl hb
    split at h
    ·cases h
    ·rename_i hf
     injection h with h;injection h with g1 g2;subst g1;subst g2;obtain⟨x',hx',hF⟩:=vU (w:=w) hkt (iY hkk).1 h3 hf;have:x'=none:=hF;subst this;have hzz:Vr ρ z z:=Vr.Dj hz2;refine⟨.tuple #[z,.int .i64 c],_,?_,Dm hzz (.same rfl),vV hr hpl hb h1 h2 (Uh h3 (m:={key:=k',val:=z,born:=c}) ⟨(iY hkk).1.Dl hk,hzz,rfl⟩)⟩;simp[Instr.mapEntry,run_underlying hu,Go.MapKept.run_getObj_map h1,sX hkt hkk,hx',yI hz1,Go.MapKept.run_setObj_map _ h1,Result.andThen,jM,goInt]
    ·rename_i i e hf
     injection h with h;injection h with g1 g2;subst g1;subst g2;obtain⟨x',hx',mm,q1,q2,q3,rfl⟩:=vU (w:=w) hkt (iY hkk).1 h3 hf;have hke:=Jq (Ak _ _ _ _ hf);have hmk:mm.key=k':=by rw[(iY (Ak _ _ _ _ hf)).2.fix q3.1,hke]
     refine⟨.tuple #[mm.val,.int .i64 e.born],_,?_,Dm q3.2.1 (.same rfl),vV hr hpl hb h1 h2 (Jr h3 q2 (f:=λe=>{e with key:=k'}) ⟨(iY hkk).1.Dl hk,q3.2.1,q3.2.2⟩)⟩
     simp[Instr.mapEntry,run_underlying hu,Go.MapKept.run_getObj_map h1,sX hkt hkk,hx',Go.MapKept.run_setObj_map _ h1,Result.andThen,jM,q2,hmk,Uf (iY hkk).1,goInt,q3.2.2]
   ·cases h
  ·cases h
 ·cases h
theorem aE4 {es:List Ent}{ms:List MapEntry}(h:EntsR ρ es ms)(s:Int):ms.findIdx? (λe=>(e.born:Int)==s)=es.findIdx? (λe=>(e.born:Int)==s):=by
 have hb:ms.map (·.born)=es.map (·.born):=by
  apply aTx;intro i;rw[aS9,aS9];cases he:es[i]? with
  |none=>
   have:ms[i]? =none:=by
    rw[List.getElem?_eq_none_iff] at he⊢;rw[<-h.1];exact he
   rw[this];rfl
  |some e=>
   have hi:i<ms.length:=by rw[<-h.1];exact(aSW.1 he).1
   have hm:ms[i]? =some ms[i]:=aSY hi;rw[hm];simp[(h.2 i e _ he hm).2.2]
 have e1:=List.findIdx?_map (f:=λe:MapEntry=>e.born) (l:=ms) (p:=λn:Nat=>(n:Int)==s)
 have e2:=List.findIdx?_map (f:=λe:Ent=>e.born) (l:=es) (p:=λn:Nat=>(n:Int)==s)
 rw[hb] at e1;rw[e1] at e2;exact e2
theorem aE2 (hr:Rel P ρ (cE H) w){ty:TypeId}{m m' s s' v v' r:Value}(hm:Vr ρ m m')(hs:Vr ρ s s')(hv:Vr ρ v v')
  (h:qD m s v H=some (r,H')): ∃w',(Instr.entryStore ty m' s' v').run P w= .ok () w'/\r=undef/\Step P ρ H w ρ H' w':=by
 unfold qD at h
 split at h
 ·rename_i b kk s
  obtain⟨pl,hpl,rfl⟩:=yM hm;have:s'= .int kk s:=hs.hZ rfl;subst this
  split at h
  ·rename_i es c hb
   obtain⟨ms,h1,h2,h3⟩:=yL hr hpl hb
   split at h
   ·rename_i i hf
    split at h
    ·rename_i e he
     injection h with h;injection h with g1 g2;subst g1;subst g2;have hi:i<ms.length:=by rw[<-h3.1];exact(aSW.1 he).1
     have hm:ms[i]? =some ms[i]:=aSY hi;have hem:=h3.2 i e _ he hm;rw[<-aE4 h3] at hf;refine⟨_,?_,rfl,vV hr hpl hb h1 h2 (Jr h3 hm (f:=λe=>{e with val:=v'}) ⟨hem.1,hv,hem.2.2⟩)⟩
     simp[Instr.entryStore,Go.MapKept.run_getObj_map h1,Go.MapKept.run_setObj_map _ h1,Result.andThen,jM,asInt,asIntOf,hf]
    ·cases h
   ·cases h
  ·cases h
 ·cases h
theorem aE6 (hr:Rel P ρ (cE H) w){ts:Array TypeId}{ty ty0 kt' et:TypeId}{kt:KeyT}(hts:ts[0]? =some ty)(hu:P.underlying ty=some (.map kt' et))(hkt:o9 P kt'=some kt){m m' k k' r:Value}(hm:Vr ρ m m')(hk:Vr ρ k k')
  (h:rE kt m k H=some (r,H')):pG P (Builtin.delete_ ts ty0 #[m',k']) w (Post P ρ H w r H'):=by
 unfold rE at h
 split at h
 ·rename_i hkk
  have e:=(iY hkk).1.fix hk;subst e
  split at h
  ·rename_i b
   obtain⟨pl,hpl,rfl⟩:=yM hm
   split at h
   ·rename_i es c hb
    obtain⟨ms,h1,h2,h3⟩:=yL hr hpl hb
    split at h
    ·cases h
    ·rename_i hf
     injection h with h;injection h with g1 g2;subst g1;subst g2;obtain⟨x',hx',hF⟩:=vU (w:=w) hkt (iY hkk).1 h3 hf;have:x'=none:=hF;subst this;have hst:=vV (c':=c) hr hpl hb h1 h2 h3;rw[Df hb] at hst;refine⟨.tuple #[],_,?_,ρ,.mJ rfl,hst⟩;simp[Builtin.delete_,hts,run_underlying hu,Go.MapKept.run_getObj_map h1,sX hkt hkk,hx',Go.MapKept.run_setObj_map _ h1,Result.andThen,jM]
    ·rename_i i e hf
     injection h with h;injection h with g1 g2;subst g1;subst g2;obtain⟨x',hx',mm,q1,q2,q3,rfl⟩:=vU (w:=w) hkt (iY hkk).1 h3 hf;have hi:=(aSW.1 q2).1;refine⟨.tuple #[],_,?_,ρ,.mJ rfl,vV (ms':=ms.eraseIdx i) (c':=c) hr hpl hb h1 h2 (aE3 h3 i)⟩;simp[Builtin.delete_,hts,run_underlying hu,Go.MapKept.run_getObj_map h1,sX hkt hkk,hx',Go.MapKept.run_setObj_map _ h1,Result.andThen,jM,Array.eraseIdxIfInBounds,hi]
   ·cases h
  ·cases h
 ·cases h
theorem aE5 (hr:Rel P ρ (cE H) w){ts:Array TypeId}{ty ty0 kt' et:TypeId}(hts:ts[0]? =some ty)(hu:P.underlying ty=some (.map kt' et)){m m' r:Value}(hm:Vr ρ m m')
  (h:oD m H=some (r,H')):H'=H/\(Builtin.len_ ts ty0 #[m']).run P w= .ok r w/\cK r=true:=by
 unfold oD at h
 split at h
 ·injection h with h;injection h with g1 g2;subst g1;subst g2
  have:m'= .map none:=by cases hm with|same _=>rfl
  subst this
  exact⟨rfl,by simp[Builtin.len_,hts,run_underlying hu,goInt],rfl⟩
 ·rename_i b
  obtain⟨pl,hpl,rfl⟩:=yM hm
  split at h
  ·rename_i es c hb
   injection h with h;injection h with g1 g2;subst g1;subst g2;obtain⟨ms,h1,h2,h3⟩:=yL hr hpl hb;refine⟨rfl,?_,rfl⟩;simp[Builtin.len_,hts,run_underlying hu,Go.MapKept.run_getObj_map h1,Result.andThen,goInt,h3.1]
  ·cases h
 ·cases h
theorem aFa (hr:Rel P ρ (cE H) w)(hf: ∀b,H.length<=b->b<H'.length->ρ b=none){ty:TypeId}{r:Value}(h:lU H=some (r,H')):pG P (Instr.makeMap ty none) w (Post P ρ H w r H'):=by
 simp only[lU] at h;injection h with h;injection h with h1 h2;subst h1;subst h2;have hfr:ρ H.length=none:=hf _ (aS1 _) (by simp)
 refine⟨.map (some w.heap.size),w.alloc (.map #[] 0),by simp[Instr.makeMap,Result.andThen],ρ.upd H.length ⟨w.heap.size,0,none⟩,.map (Ren.nN _ _ ⟨w.heap.size,0,none⟩),?_⟩
 have hheap:(w.alloc (.map #[] 0)).heap=w.heap.push (.map #[] 0):=rfl;refine Step.I7 hr hfr (pl:=⟨w.heap.size,0,none⟩) (x:= .map [] 0) (aS1 _) (by rw[hheap];simp) (by rw[hheap];simp) (λc hc=>by rw[hheap,Ai,if_neg U]) ?_ (by simp) rfl rfl rfl
 exact⟨#[],by rw[hheap,Ai];simp,rfl,EntsR.Ug _⟩
end
section
variable {P : Program} {ρ : Ren} {H H' : aG} {w : World}
theorem mL {α:Type}(xs:Array α)(i:Nat):xs[i]? =xs.toList[i]? :=(Array.getElem?_toList ..).symm
theorem aFf {ts:Array TypeId}{vs:List Value}{r:Value}(h:qC (Cz P ts vs) H=some (r,H')): ∃m k,vs=[m,k]/\tW P ts m k H=some (r,H'):=by
 match vs,h with
 |[m,k],h=>exact⟨m,k,rfl,h⟩
 |[],h=>cases h
 |[_],h=>cases h
 |_::_::_::_,h=>cases h
theorem aFc (hr:Rel P ρ (cE H) w){b:Builtin}{ts:Array TypeId}{ty:TypeId}{cs:Array Bool}{vs vs':List Value}{r:Value}(hv:Vrs ρ vs vs')
    (hf: ∀b,H.length<=b->b<H'.length->ρ b=none)(h:rC P b ts vs H=some (r,H')):
    ∃s:Sem Value,(builtin b ts ty cs vs'.toArray)=(do pure (.value (<-s)):Sem Next)/\pG P s w (Post P ρ H w r H'):=by
  replace h:qC (rC P b ts vs) H=some (r,H'):=h;unfold rC at h
  split at h
  · -- len
    rename_i v;obtain⟨v',vs'',rfl,hv',hn⟩:=hv.oJ;have:=hn.nM;subst this;refine⟨_,rfl,?_⟩
    split at h
    · rename_i hu
      cases h0:ts.toList[0]? with
      |none=>simp[h0] at hu
      |some t=>
        simp[h0] at hu;obtain⟨hx,rfl⟩:=kF h;obtain⟨h1,h2⟩:=aEY (P:=P) (ty:=ty) hv' (by rw[mL];exact h0) hu hx w
        exact⟨r,w,h1,Post.kE hr (.rI h2)⟩
    · rename_i e0 hu
      cases h0:ts.toList[0]? with
      |none=>simp[h0] at hu
      |some t=>
        simp[h0] at hu;obtain⟨hx,rfl⟩:=kF h;obtain⟨h1,h2⟩:=aEX (P:=P) (ty:=ty) hv' (by rw[mL];exact h0) hu hx w
        exact⟨r,w,h1,Post.kE hr (.rI h2)⟩
    · replace h:qC (tX P ts v) H=some (r,H'):=h
      unfold tX at h
      split at h
      · rename_i p0 hu
        cases h0:ts.toList[0]? with
        |none=>simp[h0] at hu
        |some t=>
        simp[h0] at hu;replace hu:=yK hu;obtain⟨rfl,h1,h2⟩:=aE5 (P:=P) (ty0:=ty) hr (by rw[mL];exact h0) hu hv' h
        exact⟨r,w,h1,Post.kE hr (.rI h2)⟩
      · cases h
  · -- append
    rename_i v x;obtain⟨v',vs1,rfl,hv',hn⟩:=hv.oJ;obtain⟨x',vs2,rfl,hx',hn⟩:=hn.oJ;have:=hn.nM;subst this;refine⟨_,rfl,?_⟩
    split at h
    · rename_i e hu
      cases h0:ts.toList[0]? with
      |none=>simp[h0] at hu
      |some t=>
        simp[h0] at hu;have fin: ∀{sz by':Nat}{z:Value}{d:TypeDesc},eS P e=some (sz,by')->nK P e=some z->ts.toList[1]?.bind P.underlying=some d->(d= .string∨ ∃x,d= .slice x)->z.cells.size=sz->app e sz by' v x H=some (r,H')->
            pG P (Builtin.append_ ts ty #[v',x']) w (Post P ρ H w r H'):=by
          intro sz by' z d hs hz hd hdd hzs h;cases h1:ts.toList[1]? with
          |none=>simp[h1] at hd
          |some tx=>
            simp[h1] at hd;refine aEB hr (by rw[mL];exact h0) (by rw[mL];exact h1) hu ?_ hs hz hzs hv' hx' hf h
            rcases hdd with rfl|⟨x,rfl⟩
            · exact .inl hd
            · exact .inr ⟨x,hd⟩
        split at h
        · rename_i hs hz hd
          split at h
          · rename_i hzs;exact fin hs hz hd (.inr ⟨_,rfl⟩) hzs h
          · cases h
        · rename_i hs hz hd
          split at h
          · rename_i hzs;exact fin hs hz hd (.inl rfl) hzs h
          · cases h
        · cases h
    · cases h
  · -- copy
    rename_i d s;obtain⟨d',vs1,rfl,hd',hn⟩:=hv.oJ;obtain⟨s',vs2,rfl,hs',hn⟩:=hn.oJ;have:=hn.nM;subst this;refine⟨_,rfl,?_⟩
    split at h
    · rename_i e hu
      cases h0:ts.toList[0]? with
      |none=>simp[h0] at hu
      |some t=>
        simp[h0] at hu
        split at h
        · rename_i sz by' hs
          exact aEI hr (by rw[mL];exact h0) hu hs hd' hs' h
        · cases h
    · cases h
  · -- clear
    rename_i v;obtain⟨v',vs'',rfl,hv',hn⟩:=hv.oJ;have:=hn.nM;subst this;refine⟨_,rfl,?_⟩
    split at h
    · rename_i e hu
      cases h0:ts.toList[0]? with
      |none=>simp[h0] at hu
      |some t=>
        simp[h0] at hu
        split at h
        · rename_i sz by' z hs hz
          obtain⟨hz1,hz2⟩:=vT hz;exact aEH hr (by rw[mL];exact h0) hu hs hz1 hz2 hv' h
        · cases h
    · cases h
  · -- min
    obtain⟨hx,rfl⟩:=kF h;obtain⟨e,hfl,hrun⟩:=Ua hv hx w;subst e;refine⟨_,rfl,r,w,?_,Post.kE hr (.rI hfl)⟩;exact hrun
  · -- max
    obtain⟨hx,rfl⟩:=kF h;obtain⟨e,hfl,hrun⟩:=Ua hv hx w;subst e;refine⟨_,rfl,r,w,?_,Post.kE hr (.rI hfl)⟩;exact hrun
  · replace h:qC (vN P _ ts _) H=some (r,H'):=h
    unfold vN at h
    split at h
    · obtain⟨v,x,rfl,h⟩:=aFf h
      by_cases hd:True
      · obtain⟨v',vs1,rfl,hv',hn⟩:=hv.oJ
        obtain⟨x',vs2,rfl,hx',hn⟩:=hn.oJ;have:=hn.nM;subst this;refine⟨_,rfl,?_⟩;replace h:qC (tW P ts v x) H=some (r,H'):=h;unfold tW at h
        split at h
        · rename_i p0 hu
          cases h0:ts.toList[0]? with
          |none=>simp[h0] at hu
          |some t=>
            simp[h0] at hu;replace hu:=yK hu
            split at h
            · rename_i kt hkt
              exact aE6 (P:=P) (ty0:=ty) hr (by rw[mL];exact h0) hu hkt hv' hx' h
            · cases h
        · cases h
      · exact absurd trivial hd
    · cases h
theorem aFe (hr:Rel P ρ (cE H) w){s d:TypeId}{v v' r:Value}(hv:Vr ρ v v')(h:cH P s d v H=some (r,H')):H'=H/\(convert s d v').run P w= .ok r w/\cK r=true:=by
 replace h:qC (cH P s d v) H=some (r,H'):=h;unfold cH at h
 split at h
 ·rename_i k1 k hs hd
  split at h
  ·rename_i kk n
   injection h with h;injection h with h1 h2;subst h1;subst h2;rw[hv.hZ rfl]
   exact⟨rfl,by simp[convert,run_underlying hs,run_underlying hd,Conv.intToInt],rfl⟩
  ·cases h
 ·rename_i hs hd
  split at h
  ·rename_i s'
   injection h with h;injection h with h1 h2;subst h1;subst h2;rw[hv.hZ rfl]
   exact⟨rfl,by simp[convert,run_underlying hs,run_underlying hd],rfl⟩
  ·cases h
 ·rename_i e hs hd
  split at h
  ·rename_i he
   exact aER hr hs he hd hv h
  ·cases h
 ·cases h
theorem aFd {O:aH}(hO:uD P O){t:cU}{c:Call}{dst:Option Tmp}{ty0:TypeId}{pos:String}{after:Array Edge}{guard:Option (Nat×Bool)}{a:Act}{r:Value}{vs:List Value}
  (hr:Rel P ρ (cE H) w)(hx:yJ ρ t a c.operands.toList)(hargs:Vrs ρ vs (c.args.toList.map a.eval))(hf: ∀b,H.length<=b->b<H'.length->ρ b=none)
  (h:qC (match c.callee with
   | .value f=>
    match opv t f with
    |some f=>kQ O f vs
    |none=>cG
   | .builtin b=>rC P b c.argTypes vs
   | .invoke _ _=>cG) H=some (r,H')):OpGood P ⟨dst,.call c,ty0,pos,after,guard⟩ a w (Post P ρ H w r H'):=by
 have hargs':(c.args.map a.eval)=(c.args.toList.map a.eval).toArray:=by apply Array.ext';rw[Array.toList_map]
 obtain⟨callee,args,argTypes⟩:=c;cases callee with
 |value f=>
  simp only at h hargs hargs';cases hfv:opv t f with
  |none=>rw[hfv] at h;cases h
  |some fv=>
   rw[hfv] at h;simp only at h;have hfx:=hx f (by simp[Call.operands]) fv hfv
   generalize hfe:a.eval f=fe at hfx
   cases fv with
   |func fn xs ys=>
    replace h:O fn (xs.toList++vs++ys.toList) H=some (r,H'):=h;cases hfx with
    |same hl=>simp[dH] at hl
    | @func g _ xs' _ ys' hl1 hl2 hv1 hv2=>
     have hall:Vrs ρ (xs.toList++vs++ys.toList) (xs'.toList++args.toList.map a.eval++ys'.toList):=(Vrs.C5 ⟨hl1,hv1⟩ hargs).C5 ⟨hl2,hv2⟩;obtain⟨h1,h2⟩:=hO _ _ _ _ _ h ρ w _ hr hall hf;have e:(xs'.toList++args.toList.map a.eval++ys'.toList).toArray=xs'++args.map a.eval++ys':=by
      apply Array.ext';simp
     rw[e] at h1 h2;refine .inr (.inr ⟨g,_,?_,h2⟩);rw[<-h1];simp[execOp,resolve,hfe,Deferred.ofValue,invoke]
   |_=>cases h
 |builtin b=>
  simp only at h hargs hargs';obtain⟨s,hs,hrun⟩:=aFc (ty:=ty0) (cs:=args.map λ| .const _=>true|_=>false) hr hargs hf h
  refine uE (s:=s) ?_ hrun;rw[<-hs,<-hargs'];rfl
 |invoke _ _=>cases h
theorem aFg {dst:Option Tmp}{ty0 t':TypeId}{pos:String}{after:Array Edge}{guard:Option (Nat×Bool)}{a:Act}{r u:Value}{x:Operand}{lo hi mx:Option Operand}{lo' hi' mx':Option Value}
  (hr:Rel P ρ (cE H) w)(hu:Vr ρ u (a.eval x))(hlo:Vro ρ lo' (lo.map a.eval))(hhi:Vro ρ hi' (hi.map a.eval))(hmx:Vro ρ mx' (mx.map a.eval))
  (h:qC (sS P t' u lo' hi' mx') H=some (r,H')):OpGood P ⟨dst,.slice t' x lo hi mx,ty0,pos,after,guard⟩ a w (Post P ρ H w r H'):=by
 unfold sS at h
 split at h
 ·rename_i e hty
  split at h
  ·rename_i sz by' hs
   split at h
   ·rename_i hmh
    obtain⟨rfl,v'',h1,h2⟩:=aEQ hr hty hs hu hlo hhi hmx (by
     intro h;rcases hmh with h1|h1
     ·cases mx'<;>simp_all
     ·intro e;rw[e] at h1;cases h1) h
    exact mK (s:=Instr.sliceAt t' (a.eval x) (lo.map a.eval) (hi.map a.eval) (mx.map a.eval)) hr rfl h1 h2
   ·cases h
  ·cases h
 ·rename_i n e hty
  split at h
  ·rename_i sz by' hs
   have hmx0:mx=none:=by cases mx with
    |none=>rfl
    |some _=>exact hmx.elim
   subst hmx0;obtain⟨rfl,v'',h1,h2⟩:=aEP hr hty hs hu hlo hhi h;exact mK (s:=Instr.sliceAt t' (a.eval x) (lo.map a.eval) (hi.map a.eval) none) hr rfl h1 h2
  ·cases h
 ·rename_i hty
  split at h
  ·rename_i hc
   obtain⟨hc1,hc2,hc3,hc4⟩:=hc;obtain⟨h1,rfl⟩:=kF h;have e1:=hu.hZ hc1;have e2: ∀{y:Option Value}{y':Option Operand},Vro ρ y (y'.map a.eval)->y.all cK=true->y'.map a.eval=y:=by
    intro y y' hy hfl;cases y with
    |none=>cases y' with
     |none=>rfl
     |some _=>exact hy.elim
    |some y=>cases y' with
     |none=>exact hy.elim
     |some y'=>simp at hfl;simp;exact Vr.hZ hy hfl
   have e3:=e2 hlo hc2;have e4:=e2 hhi hc3;have hmx0:mx=none:=by
    cases mx with
    |none=>rfl
    |some _=>cases mx' with
     |none=>exact hmx.elim
     |some _=>cases hc4
   subst hmx0;refine mK (s:=Instr.sliceAt t' (a.eval x) (lo.map a.eval) (hi.map a.eval) none) hr rfl ?_ (.rI (pH h1 w).2);rw[e1,e3,e4];have:=(pH h1 w).1;simpa[Instr.sliceAt,run_underlying hty] using this
  ·cases h
 ·cases h
set_option maxHeartbeats 4000000 in
theorem aFb {O:aH}(hO:uD P O){t:cU}{o:Oper}{a:Act}{r:Value}(hr:Rel P ρ (cE H) w)(hx:yJ ρ t a o.op.operands.toList)
  (hf: ∀b,H.length<=b->b<H'.length->ρ b=none)(h:aOp P O t o H=some (r,H')):OpGood P o a w (Post P ρ H w r H'):=by
 obtain⟨dst,op,ty0,pos,after,guard⟩:=o;replace h:qC (aOp P O t ⟨dst,op,ty0,pos,after,guard⟩) H=some (r,H'):=h;cases op<;>simp only[aOp] at h<;>simp only[Op.operands] at hx
 case move x=>
  obtain⟨h1,rfl⟩:=kF h;exact .inl ⟨_,w,rfl,Post.kE hr (hx x (by simp) r h1)⟩
 case assign x=>
  obtain⟨h1,rfl⟩:=kF h;exact .inl ⟨_,w,rfl,Post.kE hr (hx x (by simp) r h1)⟩
 case pick c x y=>
  split at h
  ·rename_i c' x' y' h1 h2 h3
   obtain⟨hp,rfl⟩:=kF h;have hc:=hx c (by simp) _ h1
   have hxx:=hx x (by simp) _ h2
   have hyy:=hx y (by simp) _ h3
   unfold yE at hp
   split at hp
   ·rename_i b
    injection hp with hp;have e:=hc.hZ rfl;refine .inl ⟨if b=true then a.eval x else a.eval y,w,?_,?_⟩
    ·simp[execOp,e,asBool]
    ·cases b
     ·simp at hp ⊢; subst hp;exact Post.kE hr hyy
     ·simp at hp ⊢; subst hp;exact Post.kE hr hxx
   ·cases hp
  ·cases h
 case alloc e=>
  split at h
  ·rename_i z hz
   obtain⟨hz1,hz2⟩:=vT hz;have hfr:ρ H.length=none:=by
    simp only[qC,aX] at h;injection h with h;injection h with h1 h2;subst h2;exact hf _ (aS1 _) (by simp)
   obtain⟨v',w',hrun,hp⟩:=Tp (P:=P) (w:=w) hr hfr (Vr.Dj hz2) h;refine uE (s:=Instr.alloc e true (.tuple #[])) rfl ⟨v',w',?_,hp⟩;simp only[Instr.alloc,Sem.run_bind,yI hz1,aTk];exact hrun
  ·cases h
 case box e x=>
  split at h
  ·rename_i v hv
   have hfr:ρ H.length=none:=by
    simp only[qC,aX] at h;injection h with h;injection h with h1 h2;subst h2;exact hf _ (aS1 _) (by simp)
   exact uE (s:=Instr.box e (a.eval x)) rfl (Tp (P:=P) (w:=w) hr hfr (hx x (by simp) v hv) h)
  ·cases h
 case build t' ps=>
  split at h
  ·rename_i ps' hps
   obtain⟨hb,rfl⟩:=kF h;unfold bld at hb
   split at hb
   ·rename_i z hz
    cases hbb:P.built t' ps' with
    |none=>simp[hbb] at hb
    |some cs=>
     simp[hbb] at hb;subst hb;have hpar:=Jl (a:=a) (by simpa using hx) hps
     obtain⟨cs',hb',hrel⟩:=aEU hz hpar hbb;refine mK (s:=Instr.build t' (ps.map λ(i,x)=>(i,a.eval x))) hr rfl (run_build w t' _ cs' (by simpa using hb')) (.agg hrel.1 hrel.2)
   ·cases hb
  ·cases h
 case buildSlice t' n ps=>
  split at h
  ·rename_i e hu
   split at h
   ·rename_i sz by' z ps' hs hz hps
    split at h
    ·rename_i hc
     obtain⟨hz1,hz2⟩:=vT hz;have hpar:=Jl (a:=a) (by simpa using hx) hps
     exact uE (s:=Instr.buildSlice t' n (ps.map λ(i,x)=>(i,a.eval x))) rfl (aEG hr hu hs hz1 hz2 hc.2 hc.1 (by simpa using hpar) hf h)
    ·cases h
   ·cases h
  ·cases h
 case load t' x=>
  split at h
  ·rename_i v sz by' g hv hs hg
   obtain⟨rfl,ad,v',h0,h1,h3⟩:=To hr hs hg (hx x (by simp) v hv) h
   refine mK (s:=Instr.loadAt t' (a.eval x)) hr rfl ?_ h3;rw[h0];simp only[Instr.loadAt,Instr.sureAddr,pure_bind];exact h1
  ·cases h
 case store t' x y=>
  split at h
  ·rename_i v u sz by' hv hu hs
   obtain⟨w',h1,rfl,h3⟩:=aEA hr hs (hx x (by simp) v hv) (hx y (by simp) u hu) h
   exact Jj (s:=Instr.storeAt t' (a.eval x) (a.eval y)) rfl h1 ⟨ρ,.sV ρ,h3⟩
  ·cases h
 case nilCheck x=>
  split at h
  ·rename_i v hv
   obtain⟨h1,rfl⟩:=kF h;obtain⟨h2,h3⟩:=aEZ (hx x (by simp) v hv) h1
   refine .inl ⟨a.eval x,w,?_,Post.kE hr h2⟩;rcases h3 with⟨p,hp⟩|⟨f,p,q,hp⟩
   ·simp[execOp,hp]
   ·simp[execOp,hp]
  ·cases h
 case binOp op t' x y yt=>
  split at h
  ·rename_i u v hu hv
   obtain⟨h1,rfl⟩:=kF h;obtain⟨h2,h3⟩:=aEL (hx x (by simp) u hu) (hx y (by simp) v hv) h1 x y w
   exact mK (s:=(do eqGuard op t' x y (a.eval x) (a.eval y);binOp op t' (a.eval x) (a.eval y))) hr rfl h2 (.rI h3)
  ·cases h
 case unOp op t' x=>
  split at h
  ·rename_i u hu
   obtain⟨h1,rfl⟩:=kF h;unfold un at h1
   split at h1
   ·rename_i hfl
    have e:=(hx x (by simp) u hu).hZ hfl
    exact mK (s:=Op.unary op (a.eval x)) hr rfl (by rw[e];exact(pH h1 w).1) (.rI (pH h1 w).2)
   ·cases h1
  ·cases h
 case convert s d x=>
  split at h
  ·rename_i u hu
   obtain⟨rfl,h1,h2⟩:=aFe hr (hx x (by simp) u hu) h
   exact mK (s:=Go.convert s d (a.eval x)) hr rfl h1 (.rI h2)
  ·cases h
 case makeFunc fn xs ys=>
  split at h
  ·rename_i f us vs hus hvs
   injection h with h;injection h with h1 h2;subst h1;subst h2;have hu:=Dk (a:=a) (λx hx'=>hx x (by simp;exact .inl (by simpa using hx'))) hus
   have hv:=Dk (a:=a) (λx hx'=>hx x (by simp;exact .inr (by simpa using hx'))) hvs
   refine mK (s:=Instr.makeFunc (.func f) (xs.map a.eval) (ys.map a.eval)) hr rfl rfl ?_;exact .func (by simpa using hu.1) (by simpa using hv.1) (by simpa using hu.2) (by simpa using hv.2)
  ·cases h
 case makeSlice t' n c=>
  split at h
  ·rename_i e hu
   split at h
   ·rename_i sz by' z n' c' hs hz hn hc
    obtain⟨hz1,hz2⟩:=vT hz;exact uE (s:=Instr.makeSlice t' (a.eval n) (a.eval c)) rfl (aEJ hr hu hs hz1 hz2 (hx n (by simp) n' hn) (hx c (by simp) c' hc) hf h)
   ·cases h
  ·cases h
 case slice t' x lo hi mx=>
  split at h
  ·rename_i u lo' hi' mx' hu hlo hhi hmx
   have hux:=hx x (by simp) u hu
   have hlo':=Jk (a:=a) (x:=lo) (λy hy=>hx y (by simp;right;left;simpa using hy)) hlo
   have hhi':=Jk (a:=a) (x:=hi) (λy hy=>hx y (by simp;right;right;left;simpa using hy)) hhi
   have hmx':=Jk (a:=a) (x:=mx) (λy hy=>hx y (by simp;right;right;right;simpa using hy)) hmx
   exact aFg (ty0:=ty0) (pos:=pos) (after:=after) (guard:=guard) (dst:=dst) hr hux hlo' hhi' hmx' h
  ·cases h
 case fieldAddr t' x f=>
  split at h
  ·rename_i u fs hu hty
   split at h
   ·rename_i fl hfl
    split at h
    ·cases h
    ·rename_i hsz
     obtain⟨h1,rfl⟩:=kF h;obtain⟨c,o,e,h2⟩:=aEV (hx x (by simp) u hu) h1
     refine mK (s:=Instr.fieldAt t' (a.eval x) f) hr rfl ?_ h2;rw[e];have hfl':fs[f]? =some fl:=by rw[mL];exact hfl
     obtain⟨i,hi⟩: ∃i,P.info? fl.type=some i:=by
      cases hi:P.info? fl.type with
      |none=>simp[Program.cellsOf,hi] at hsz
      |some i=>exact⟨i,rfl⟩
     have hne:i.size≠0:=by simpa[Program.cellsOf,hi] using hsz
     simp[Instr.fieldAt,run_underlying hty,hfl',Instr.sureAddr,fieldPlace,Go.sizeOf,typeInfo,hi,hne,sW]
   ·cases h
  ·cases h
 case field t' x f=>
  split at h
  ·rename_i u fs hu hty
   split at h
   ·rename_i fl hfl
    split at h
    ·rename_i sz by' g hs hg
     obtain⟨h1,rfl⟩:=kF h;obtain⟨cs,r',e,h2,h3⟩:=aE0 hg hs (hx x (by simp) u hu) h1 w
     refine mK (s:=Instr.field t' (a.eval x) f) hr rfl ?_ h3;have hfl':fs[f]? =some fl:=by rw[mL];exact hfl
     rw[e];simp[Instr.field,run_underlying hty,hfl',asAgg,h2]
    ·cases h
   ·cases h
  ·cases h
 case indexAddr t' x i=>
  split at h
  ·rename_i u v e hu hv hty
   split at h
   ·rename_i sz by' hs
    obtain⟨h1,rfl⟩:=kF h;obtain⟨c,o,n,cap,k,j,e1,e2,h2,h3,h4⟩:=aEW (hx x (by simp) u hu) (hx i (by simp) v hv) h1
    refine mK (s:=Instr.indexAt t' (a.eval x) (a.eval i)) hr rfl ?_ h4;rw[e1,e2];simp[Instr.indexAt,asIntOf,run_underlying hty,h2,h3,mX hs,sW]
   ·cases h
  ·rename_i u v n e hu hv hty
   split at h
   ·rename_i sz by' hs
    obtain⟨h1,rfl⟩:=kF h;obtain⟨c,o,k,j,e1,e2,h2,h3,h4⟩:=aET (hx x (by simp) u hu) (hx i (by simp) v hv) h1
    refine mK (s:=Instr.indexAt t' (a.eval x) (a.eval i)) hr rfl ?_ h4;rw[e1,e2];simp[Instr.indexAt,asIntOf,run_underlying hty,h2,h3,mX hs,sW,Instr.sureAddr]
   ·cases h
  ·cases h
 case index t' x i=>
  split at h
  ·rename_i u v hu hv hty
   split at h
   ·rename_i hc
    obtain⟨h1,rfl⟩:=kF h;have e1:=(hx x (by simp) u hu).hZ hc.1
    have e2:=(hx i (by simp) v hv).hZ hc.2
    exact mK (s:=Instr.index t' (a.eval x) (a.eval i)) hr rfl (by rw[e1,e2];exact(pH h1 w).1) (.rI (pH h1 w).2)
   ·cases h
  ·cases h
 case extract x i=>
  split at h
  ·rename_i v hv
   obtain⟨h1,rfl⟩:=kF h;have hvx:=hx x (by simp) v hv
   unfold ext at h1
   split at h1
   ·rename_i vs
    obtain⟨vs',e,hvs⟩: ∃vs',a.eval x= .tuple vs'/\Vrs ρ vs.toList vs'.toList:=by
     generalize a.eval x=y at hvx
     cases hvx with
     |same hl=>simp[dH] at hl
     | @tuple _ x' hl h1=>exact⟨x',rfl,hl,h1⟩
    obtain⟨r',h2,h3⟩:=hvs.yF h1;refine mK (s:=Instr.extract (a.eval x) i) hr rfl ?_ h3;rw[e];have h2':vs'[i]? =some r':=by rw[mL];exact h2
    simp[Instr.extract,h2']
   ·cases h1
  ·cases h
 case call c=>
  split at h
  ·cases h
  ·rename_i vs hvs
   have hargs:=Dk (a:=a) (λx hx'=>hx x (by simp[Call.operands];exact .inr (by simpa using hx'))) hvs
   exact aFd hO hr hx hargs hf h
 case makeMap t' r0=>
  split at h
  ·exact uE (s:=Instr.makeMap t' none) rfl (aFa hr hf h)
  ·cases h
 case lookup t' x i ok=>
  split at h
  ·rename_i m k p hm hk hu
   split at h
   ·rename_i kt z hkt hz
    obtain⟨rfl,r',h1,h2⟩:=aE8 hr (yK hu) hkt hz (hx x (by simp) m hm) (hx i (by simp) k hk) h
    exact mK (s:=Instr.lookup t' (a.eval x) (a.eval i) ok) hr rfl h1 h2
   ·cases h
  ·cases h
 case mapUpdate t' x i y=>
  split at h
  ·rename_i m k v p hm hk hv hu
   split at h
   ·rename_i kt hkt
    obtain⟨w',h1,rfl,h3⟩:=aE9 hr (yK hu) hkt (hx x (by simp) m hm) (hx i (by simp) k hk) (hx y (by simp) v hv) h
    exact Jj (s:=Instr.mapUpdate t' (a.eval x) (a.eval i) (a.eval y)) rfl h1 ⟨ρ,.sV ρ,h3⟩
   ·cases h
  ·cases h
 case mapEntry t' x i=>
  split at h
  ·rename_i m k p hm hk hu
   split at h
   ·rename_i kt z hkt hz
    obtain⟨r',w',h1,h2,h3⟩:=aE7 hr (yK hu) hkt hz (hx x (by simp) m hm) (hx i (by simp) k hk) h
    exact uE (s:=Instr.mapEntry t' (a.eval x) (a.eval i)) rfl ⟨r',w',h1,ρ,h2,h3⟩
   ·cases h
  ·cases h
 case entryStore t' x s y=>
  split at h
  ·rename_i m k v hm hk hv
   obtain⟨w',h1,rfl,h3⟩:=aE2 (ty:=t') hr (hx x (by simp) m hm) (hx s (by simp) k hk) (hx y (by simp) v hv) h
   exact Jj (s:=Instr.entryStore t' (a.eval x) (a.eval s) (a.eval y)) rfl h1 ⟨ρ,.sV ρ,h3⟩
  ·cases h
 all_goals (cases h)
end
def eY (m:M Value):Prop:= ∀H v H',m H=some (v,H')->H.length<=H'.length
def pI (O:aH):Prop:= ∀fn args H v H',O fn args H=some (v,H')->H.length<=H'.length
theorem qJ:eY cG:=λH v H' h=>by cases h
theorem Al (v:Value):eY (aU v):=λH v H' h=>by injection h with h;injection h with h1 h2;subst h2;exact aS1 _
theorem Jt (x:Option Value):eY (aP x):=λH v H' h=>by
 obtain⟨_,rfl⟩:=kF h;exact aS1 _
theorem aFq (v:Value):eY (ld1 v):=λH r H' h=>by rw[(Jb h).1];exact aS1 _
theorem aFr (n:Nat)(v:Value):eY (ldN n v):=λH r H' h=>by rw[(Jc h).1];exact aS1 _
theorem aFA (e:TypeId)(cs:List Value)(k:Kind):eY (aX e cs k):=λH r H' h=>by
 simp only[aX] at h;injection h with h;injection h with h1 h2;subst h2;simp
theorem aFF (n:Nat)(a v:Value):eY (stN n a v):=λH r H' h=>by
 unfold stN at h
 repeat' split at h
 all_goals first|(cases h;done)|(injection h with h;injection h with h1 h2;subst h2;simp)
theorem aFC (P:Program)(sz:Nat)(v:Value)(lo hi mx:Option Value):eY (slc P sz v lo hi mx):=λH r H' h=>by
 unfold slc at h
 repeat' split at h
 all_goals first|(cases h;done)|(injection h with h;injection h with h1 h2;subst h2;simp)
theorem aFD (n sz:Nat)(v:Value)(lo hi:Option Value):eY (pB n sz v lo hi):=λH r H' h=>by
 unfold pB at h
 repeat' split at h
 all_goals first|(cases h;done)|(injection h with h;injection h with h1 h2;subst h2;simp)
theorem aFh (e:TypeId)(sz by':Nat)(v w:Value):eY (app e sz by' v w):=λH r H' h=>by
 unfold app at h
 repeat' split at h
 all_goals first|(cases h;done)|(injection h with h;injection h with h1 h2;subst h2;simp)
theorem aFn (sz:Nat)(d s:Value):eY (cpy sz d s):=λH r H' h=>by
 unfold cpy at h
 repeat' split at h
 all_goals first|(cases h;done)|(injection h with h;injection h with h1 h2;subst h2;simp)
theorem aFl (sz:Nat)(z:List Value)(v:Value):eY (clr sz z v):=λH r H' h=>by
 unfold clr at h
 repeat' split at h
 all_goals first|(cases h;done)|(injection h with h;injection h with h1 h2;subst h2;simp)
theorem aFy (e:TypeId)(sz by':Nat)(z:List Value)(n c:Value):eY (gZ e sz by' z n c):=λH r H' h=>by
 unfold gZ at h
 repeat' split at h
 all_goals first|(cases h;done)|(injection h with h;injection h with h1 h2;subst h2;simp)
theorem aFi (e:TypeId)(sz n:Nat)(z:List Value)(ps:List (Nat×Value)):eY (bV e sz n z ps):=λH r H' h=>by
 unfold bV at h
 repeat' split at h
 all_goals first|(cases h;done)|(injection h with h;injection h with h1 h2;subst h2;simp)
theorem aFG (v:Value):eY (oF v):=λH r H' h=>by
 unfold oF at h
 repeat' split at h
 all_goals first|(cases h;done)|(injection h with h;injection h with h1 h2;subst h2;simp)
theorem aFw (kt:KeyT)(z:Value)(ok:Bool)(m k:Value):eY (jK kt z ok m k):=λH r H' h=>by
 unfold jK at h
 repeat' split at h
 all_goals first|(cases h;done)|(injection h with h;injection h with h1 h2;subst h2;simp)
theorem aFx (kt:KeyT)(m k v:Value):eY (kS kt m k v):=λH r H' h=>by
 unfold kS at h
 repeat' split at h
 all_goals first|(cases h;done)|(injection h with h;injection h with h1 h2;subst h2;simp)
theorem aFv (kt:KeyT)(z:Value)(m k:Value):eY (qG kt z m k):=λH r H' h=>by
 unfold qG at h
 repeat' split at h
 all_goals first|(cases h;done)|(injection h with h;injection h with h1 h2;subst h2;simp)
theorem aFp (m s v:Value):eY (qD m s v):=λH r H' h=>by
 unfold qD at h
 repeat' split at h
 all_goals first|(cases h;done)|(injection h with h;injection h with h1 h2;subst h2;simp)
theorem aFu (kt:KeyT)(m k:Value):eY (rE kt m k):=λH r H' h=>by
 unfold rE at h
 repeat' split at h
 all_goals first|(cases h;done)|(injection h with h;injection h with h1 h2;subst h2;simp)
theorem aFt (v:Value):eY (oD v):=λH r H' h=>by
 unfold oD at h
 repeat' split at h
 all_goals first|(cases h;done)|(injection h with h;injection h with h1 h2;subst h2;simp)
theorem aFs (P:Program)(ts:Array TypeId)(v:Value):eY (tX P ts v):=by
 unfold tX;split
 ·exact aFt _
 ·exact qJ
theorem aFo (P:Program)(ts:Array TypeId)(m k:Value):eY (tW P ts m k):=by
 unfold tW;split
 ·split
  ·exact aFu _ _ _
  ·exact qJ
 ·exact qJ
theorem aFz (P:Program)(b:Builtin)(ts:Array TypeId)(vs:List Value):eY (vN P b ts vs):=by
 unfold vN;split
 ·unfold Cz
  split
  ·exact aFo _ _ _ _
  ·exact qJ
 ·exact qJ
theorem aFB:eY lU:=λH r H' h=>by
 simp only[lU] at h;injection h with h;injection h with h1 h2;subst h2;simp
theorem aFk {O:aH}(hO:pI O)(f:Value)(vs:List Value):eY (kQ O f vs):=by
 cases f with
 |func fn x y=>exact λH v H' h=>hO _ _ H v H' h
 |_=>exact qJ
theorem aFj (P:Program)(b:Builtin)(ts:Array TypeId)(vs:List Value):eY (rC P b ts vs):=by
 unfold rC
 repeat' split
 all_goals first|exact qJ|exact Jt _|(apply aFh;done)|(apply aFn;done)|(apply aFl;done)|(apply aFs;done)|(apply aFz;done)
theorem aFm (P:Program)(s d:TypeId)(v:Value):eY (cH P s d v):=by
 unfold cH
 repeat' split
 all_goals first|exact qJ|exact Al _|exact aFG _
theorem aFE (P:Program)(t:TypeId)(x:Value)(lo hi mx:Option Value):eY (sS P t x lo hi mx):=by
 unfold sS
 repeat' split
 all_goals first|exact qJ|exact Jt _|(apply aFC;done)|(apply aFD;done)
theorem Ui (P:Program){O:aH}(hO:pI O)(t:cU)(o:Oper):eY (aOp P O t o):=by
 obtain⟨dst,op,ty0,pos,after,guard⟩:=o;cases op<;>simp only[aOp]<;>repeat' split
 all_goals first
  |exact qJ|exact Jt _|exact Al _|(apply aFA;done)|(apply aFr;done)|(apply aFq;done)|(apply aFF;done)|(apply aFm;done)
  |(apply aFy;done)|(apply aFi;done)|(apply aFE;done)|(apply aFk hO;done)|(apply aFj;done)|(apply aFw;done)|(apply aFx;done)|(apply aFv;done)|(apply aFp;done)|exact aFB
theorem Jw (P:Program){O:aH}(hO:pI O)(ops:List Oper)(t:cU)(o:Oper):eY (fP P O ops t o):=by
 unfold fP;split
 ·exact Ui P hO t o
 ·split
  ·split
   ·unfold gd
    split
    ·split
     ·exact Ui P hO t o
     ·exact Al _
    ·exact Al _
   ·exact qJ
  ·exact Al _
def qI (k:K (Value×aG))(r:Value×aG):Prop:= ∀t H,k t H=some r->H.length<=r.2.length
theorem Jv (P:Program){O:aH}(hO:pI O)(ops:List Oper){r:Value×aG}: ∀(l:List Oper)(k:K (Value×aG)),qI k r->qI (uA P O ops l k) r
 |[],k,hk=>hk
 |o::l,k,hk=>λt H h=>by
  simp only[uA] at h
  split at h
  ·cases h
  ·rename_i x hx
   exact aTc (Jw P hO ops t o H x.1 x.2 hx) (Jv P hO ops l k hk _ _ h)
theorem Do (P:Program){O:aH}(hO:pI O)(ops:List Oper)(ms:List Nat){r:Value×aG}: ∀(l:List Oper)(i:Nat)(rs:List Rd)(es:List Ef)(k:K (Value×aG)),qI k r->qI (oI P O ops ms l i rs es k) r
 |[],_,_,_,k,hk=>hk
 |o::l,i,rs,es,k,hk=>λt H h=>by
  simp only[oI] at h
  split at h
  ·cases h
  ·rename_i x hx
   have h1:=Jw P hO ops t o H x.1 x.2 hx
   split at h
   ·split at h
    ·exact aTc h1 (Do P hO ops ms l _ _ _ k hk _ _ h)
    ·cases h
   ·split at h
    ·split at h
     ·exact aTc h1 (Do P hO ops ms l _ _ _ k hk _ _ h)
     ·cases h
    ·exact aTc h1 (Do P hO ops ms l _ _ _ k hk _ _ h)
def MonoE (k:Ex->K (Value×aG))(r:Value×aG):Prop:= ∀e,qI (k e) r
theorem Js {B:(Ex->K (Value×aG))->K (Value×aG)}{r:Value×aG}(hB: ∀k,MonoE k r->qI (B k) r): ∀(n:Nat)(k:Ex->K (Value×aG)),MonoE k r->qI (aL n B k) r
 |0,_,_=>λt H h=>by cases h
 |n+1,k,hk=>hB _ λe=>by
  cases e with
  |normal=>exact Js hB n k hk
  |exit id=>exact hk _
  |ret=>exact hk _
theorem MonoE.clr {k:Ex->K (Value×aG)}{r:Value×aG}(h:MonoE k r)(m:Nat):MonoE (jL m k) r:=λe t H hh=>h e _ _ hh
theorem Ju (P:Program){O:aH}(hO:pI O)(n m:Nat){r:Value×aG}: ∀(c:Code)(k:Ex->K (Value×aG)),MonoE k r->qI (eG P O (aL n) m c k) r:=by
 intro c;induction c with
 |skip=>exact λk hk=>hk _
 |ret=>exact λk hk=>hk _
 |exit id=>exact λk hk=>hk _
 |region id ops draw=>
  intro k hk;simp only[eG];split
  ·intro t H h
   simp only at h
   split at h
   ·exact Do P hO _ _ _ _ _ _ _ (hk _) _ _ h
   ·cases h
  ·exact Jv P hO _ _ _ (hk _)
 |seq a b iha ihb=>
  intro k hk;simp only[eG];refine iha _ λe=> ?_
  cases e with
  |normal=>exact ihb k hk
  |exit id=>exact hk _
  |ret=>exact hk _
 |cond c a b iha ihb=>
  intro k hk t H h;simp only[eG] at h
  split at h
  ·split at h
   ·exact iha k hk t H h
   ·exact ihb k hk t H h
  ·cases h
 |block id c ih=>
  intro k hk;simp only[eG];refine ih _ λe=> ?_
  cases e with
  |normal=>exact hk _
  |exit j=>simp only;split<;>exact hk _
  |ret=>exact hk _
 |loop c ih=>
  intro k hk;simp only[eG];exact λt H h=>Js (λk hk=>ih _ (hk.clr m)) n k hk _ _ h
 |scope c ih=>
  intro k hk;simp only[eG];exact ih k hk
 |label l=>exact λk hk=>hk _
 |_=>intro k hk t H h;simp only[eG] at h;cases h
section
variable {P : Program} {ρ : Ren} {H H' : aG} {w : World}
def Looked (ρ:Ren)(t:cU)(a:Act)(ss:List Tmp):Prop:= ∀s∈ss,Vo ρ (gY t s) (a.tmps.getD s undef)
theorem Looked.Am {t:cU}{a:Act}(h:Srs ρ t a.tmps.toList)(ss:List Tmp):Looked ρ t a ss:=by
 intro s _;unfold gY;rw[aS0,aTt];cases ht:t[s]? with
 |none=>
  have:a.tmps[s]? =none:=by
   rw[Array.getElem?_eq_none_iff];have:=List.getElem?_eq_none_iff.1 ht;have h1:=h.1;simp at h1;omega
  rw[this];exact λu hu=>by cases hu;exact .sV ρ
 |some v=>
  obtain⟨v',h1,h2⟩:=h.aEo ht;rw[Array.getElem?_toList] at h1;rw[h1];exact h2
theorem Uk {ops:List Oper}{o:Oper}{t:cU}{a:Act}(h:Looked ρ t a (rG ops o)):yJ ρ t a o.op.operands.toList:=by
 intro x hx v hv;cases x with
 |tmp s=>
  simp only[opv] at hv;exact h s (by simp only[rG,List.mem_append,List.mem_filterMap];left;exact⟨.tmp s,hx,rfl⟩) v hv
 |const c=>
  simp only[opv] at hv
  split at hv
  ·injection hv with hv;subst hv;rename_i hl;exact .mJ hl
  ·cases hv
 |global g=>simp[opv] at hv
 |func f=>
  simp only[opv,aTn] at hv;subst hv;exact .func rfl rfl (λi u v h=>by simp at h) (λi u v h=>by simp at h)
theorem Dp {v v':Value}(h:Vr ρ v v'):(∀b,v= .bool b->v'= .bool b)/\(∀b,v'= .bool b->v= .bool b):=by
 constructor
 ·rintro b rfl;exact h.hZ rfl
 ·rintro b rfl
  cases h with
  |same _=>rfl
theorem Uo {O:aH}(hO:uD P O){ops:Array Oper}{t:cU}{o:Oper}{a:Act}{r:Value}(hr:Rel P ρ (cE H) w)(hl:Looked ρ t a (rG ops.toList o))
  (hf: ∀b,H.length<=b->b<H'.length->ρ b=none)(h:fP P O ops.toList t o H=some (r,H')){K:Act->World->Prop}{Q:Exit->Act->World->Prop}
  (hK: ∀v w',Post P ρ H w r H' v w'->K (a.put o.dst v) w'):
  if Region.wanted o (yielded ops a.tmps) then o.wp P a w K Q∨(o.asks P a w/\LetsOut Q) else K (a.put o.dst undef) w:=by
 have main:aOp P O t o H=some (r,H')->o.wp P a w K Q:=λh=>
  (aFb hO hr (Uk hl) hf h).aES hK
 unfold fP at h;cases hg:o.guard with
 |none=>
  rw[hg] at h;simp only at h;simp only[Region.wanted,hg,if_true];exact .inl (main h)
 |some g=>
  obtain⟨j,want⟩:=g;rw[hg] at h;simp only at h;have undef_case:fP P O ops.toList t o H=some (undef,H)->r=undef->H'=H->K (a.put o.dst undef) w:=by
   rintro _ rfl rfl
   exact hK _ _ ⟨ρ,.sV ρ,Step.pF hr⟩
  cases hd:Ae ops.toList j with
  |none=>
   rw[hd] at h;simp only[aU] at h;injection h with h;injection h with h1 h2;have hy:yielded ops a.tmps j=none:=by
    unfold Ae at hd;unfold yielded;rw[mL,hd];rfl
   have:Region.wanted o (yielded ops a.tmps)=false:=by simp[Region.wanted,hg,hy]
   rw[this];simp only[Bool.false_eq_true,if_false];exact hK _ _ (by rw[<-h1,<-h2];exact⟨ρ,.sV ρ,Step.pF hr⟩)
  |some d=>
   rw[hd] at h;simp only at h;have hv:=hl d (by simp only[rG,hg,hd,List.mem_append];right;simp)
   have hyield:yielded ops a.tmps j=match a.tmps[d]? with|some (.bool b)=>some b|_=>none:=by
    unfold Ae at hd;unfold yielded;rw[mL ops j,hd];rfl
   rw[aTt] at hv
   generalize ht:gY t d=x0 at h hv
   cases x0 with
   |none=>cases h
   |some x=>
   replace hv:=hv x rfl;simp only at h;unfold gd at h
   split at h
   ·rename_i b
    have hb:a.tmps[d]? =some (.bool b):=by
     cases ha:a.tmps[d]? with
     |none=>rw[ha] at hv;have:=(Dp hv).1 b rfl;cases this
     |some y=>rw[ha] at hv;have:=(Dp hv).1 b rfl;simp at this;rw[this]
    rw[hb] at hyield;simp only at hyield
    split at h
    ·rename_i hbw
     have:Region.wanted o (yielded ops a.tmps)=true:=by simp[Region.wanted,hg,hyield,hbw]
     rw[this];simp only[if_true];exact .inl (main h)
    ·rename_i hbw
     have:Region.wanted o (yielded ops a.tmps)=false:=by
      simp only[Region.wanted,hg,hyield];simpa using hbw
     rw[this];simp only[Bool.false_eq_true,if_false];injection h with h;injection h with h1 h2;exact hK _ _ (by rw[<-h1,<-h2];exact⟨ρ,.sV ρ,Step.pF hr⟩)
   ·rename_i hnb
    have hyn:yielded ops a.tmps j=none:=by
     rw[hyield];cases ha:a.tmps[d]? with
     |none=>rfl
     |some y=>
      cases y<;>try rfl
      rename_i b;rw[ha] at hv;have:=(Dp hv).2 b rfl;exact absurd this (hnb b)
    have:Region.wanted o (yielded ops a.tmps)=false:=by simp[Region.wanted,hg,hyn]
    rw[this];simp only[Bool.false_eq_true,if_false];injection h with h;injection h with h1 h2;exact hK _ _ (by rw[<-h1,<-h2];exact⟨ρ,.sV ρ,Step.pF hr⟩)
theorem Srs.aFH {ρ':Ren}{t:cU}{a:Act}{v v':Value}(h:Srs ρ' t a.tmps.toList)(hv:Vr ρ' v v')(d:Option Tmp):Srs ρ' (qH t d v) (a.put d v').tmps.toList:=by
 cases d with
 |none=>exact h
 |some d=>simp only[qH,Act.put,Array.toList_setIfInBounds];exact h.aEq (λu hu=>by cases hu;exact hv) d
theorem Ul (a:Act)(d:Option Tmp)(v:Value):(a.put d v).defers=a.defers:=by cases d<;>rfl
def KGood (P:Program)(ρ:Ren)(H:aG)(w:World)(r:Value×aG)(k:K (Value×aG))(Q:Act->World->Prop):Prop:=
 ∀ρ' t' H' w' a',k t' H'=some r->Step P ρ H w ρ' H' w'->Srs ρ' t' a'.tmps.toList->a'.defers=[]->Q a' w'
theorem KGood.Uj {ρ':Ren}{w':World}{r:Value×aG}{k:K (Value×aG)}{Q:Act->World->Prop}(h:KGood P ρ H w r k Q)(hs:Step P ρ H w ρ' H' w'):KGood P ρ' H' w' r k Q:=
 λρ'' t' H'' w'' a' hk hs' hv hd=>h ρ'' t' H'' w'' a' hk (hs.aEr hs') hv hd
def Free (ρ:Ren)(H:aG)(r:Value×aG):Prop:= ∀b,H.length<=b->b<r.2.length->ρ b=none
theorem Free.Jy {ρ':Ren}{w':World}{r:Value×aG}(h:Free ρ H r)(hs:Step P ρ H w ρ' H' w'):Free ρ' H' r:=by
 intro b h1 h2;cases hb:ρ' b with
 |none=>rfl
 |some pl=>
  rcases hs.new b (by rw[hb];simp) with h3|⟨h3,h4⟩
  ·exact absurd (h b (aTc hs.len h1) h2) h3
  ·omega
theorem Um {O:aH}(hO:uD P O)(hM:pI O)(ops:Array Oper){r:Value×aG}{k:K (Value×aG)}(hk:qI k r){Q:Exit->Act->World->Prop}:
  ∀(l:List Oper)(i:Nat)(ρ:Ren)(t:cU)(H:aG)(w:World)(a:Act),ops.toList.drop i=l->uA P O ops.toList l k t H=some r->Rel P ρ (cE H) w->Srs ρ t a.tmps.toList->a.defers=[]->Free ρ H r->
   KGood P ρ H w r k (Q .normal)->wpOps P ops Q (List.range' i l.length) a w
 |[],i,ρ,t,H,w,a,_,h,hr,ht,hd,_,hq=>hq ρ t H w a h (Step.pF hr) ht hd
 |o::l,i,ρ,t,H,w,a,hi,h,hr,ht,hd,hf,hq=>by
  have ho:ops[i]? =some o:=by
   rw[mL];have:=congrArg (λl:List Oper=>l[0]?) hi
   simpa using this
  have hi':ops.toList.drop (i+1)=l:=by
   have:=congrArg List.tail hi;simpa using this
  simp only[uA] at h
  split at h
  ·cases h
  ·rename_i x hx
   have hlen:=Jv P hM ops.toList l k hk _ _ h;simp only[aTi,List.range'_succ,wpOps,ho];refine Uo hO hr (Looked.Am ht _) (λb h1 h2=>hf b h1 U) hx λv w' ⟨ρ',hv,hs⟩=> ?_
   refine Um hO hM ops hk l (i+1) ρ' _ _ w' _ hi' h hs.rel ((ht.aEp hs.le).aFH hv o.dst) (by rw[Ul];exact hd) (hf.Jy hs) (hq.Uj hs)
end
theorem Jz {f:Value->Value->Bool}: ∀{xs ys:List Value},(∀x y,f x y=true->x=y)->rH f xs ys=true->xs=ys
 |[],[],_,_=>rfl
 |[],_::_,_,h=>by simp[rH] at h
 |_::_,[],_,h=>by simp[rH] at h
 |x::xs,y::ys,hf,h=>by
  simp only[rH,aS4] at h;rw[hf x y h.1,Jz hf h.2]
theorem J0: ∀(n:Nat)(v w:Value),veq n v w=true->v=w
 |0,_,_,h=>by simp[veq] at h
 |n+1,v,w,h=>by
  unfold veq at h
  split at h<;>(try (cases h;done))
  ·simp at h;rw[h]
  ·simp at h;rw[h.1,h.2]
  ·rename_i a b
   simp only[beq_iff_eq] at h;obtain⟨⟨x⟩⟩:=a;obtain⟨⟨y⟩⟩:=b;simp at h;rw[h]
  ·simp at h;rw[h]
  ·simp at h;rw[h.1.1,h.1.2,h.2]
  ·simp at h;rw[h]
  ·rfl
  ·rfl
  ·have:=Jz (λx y=>J0 n x y) h
   rw[Array.ext' this]
  ·have:=Jz (λx y=>J0 n x y) h
   rw[Array.ext' this]
theorem Uq {x:Option (Value×aG)}{v:Value}(h:chk x v=true): ∃G,x=some (v,G):=by
 unfold chk at h
 split at h
 ·rename_i r
  have:=J0 4 _ _ h
  exact⟨r.2,by rw[this]⟩
 ·cases h
theorem Ur: ∀(l:List Oper)(acc:List Nat),(l.foldl (λacc o=>acc++[pD acc o]) acc).length=acc.length+l.length/\(l.foldl (λacc o=>acc++[pD acc o]) acc).take acc.length=acc/\
  ∀(j:Nat)(o:Oper),l[j]? =some o->(l.foldl (λacc o=>acc++[pD acc o]) acc)[acc.length+j]? =some (pD ((l.foldl (λacc o=>acc++[pD acc o]) acc).take (acc.length+j)) o)
 |[],acc=>⟨by simp,by simp,λj o h=>by simp at h⟩
 |x::l,acc=>by
  obtain⟨h1,h2,h3⟩:=Ur l (acc++[pD acc x]);simp only[List.foldl_cons]
  generalize l.foldl (λacc o=>acc++[pD acc o]) (acc++[pD acc x])=R at h1 h2 h3
  simp only[aS8,aTi,List.length_nil] at h1 h2 h3;have h4:R.take acc.length=acc:=by
   have:=congrArg (List.take acc.length) h2;rw[List.take_take] at this;simpa using this
  refine⟨by simp;omega,h4,λj o hj=> ?_⟩
  cases j with
  |zero=>
   simp at hj;subst hj;simp only[Nat.add_zero];rw[h4];have:=congrArg (λl:List Nat=>l[acc.length]?) h2
   simp only[List.getElem?_take,List.getElem?_append] at this;simpa using this
  |succ j=>
   have:=h3 j o (by simpa using hj)
   rw[show acc.length+(0+1)+j=acc.length+(j+1) by omega] at this
   exact this
theorem aFL {l:List Oper}{i:Nat}{o:Oper}(h:l[i]? =some o):(mI l).getD i 0=pD ((mI l).take i) o:=by
 have:=(Ur l []).2.2 i o h;simp only[List.length_nil,aTh] at this;rw[aS0]
 show((mI l)[i]?).getD 0=_
 rw[show(mI l)[i]? =some (pD ((mI l).take i) o) from this]
 rfl
theorem Ut (acc:List Nat)(j:Nat): ∀(es:List Edge)(s:Nat),(es.foldl (λs e=>if Region.binds .any e then s|||(1<<<e.on)|||acc.getD e.on 0 else s) s).testBit j=true↔
  s.testBit j=true∨ ∃e∈es,Region.binds .any e=true/\(e.on=j∨(acc.getD e.on 0).testBit j=true)
 |[],s=>by simp
 |e::es,s=>by
  simp only[List.foldl_cons];rw[Ut acc j es];by_cases hb:Region.binds .any e=true
  ·rw[if_pos hb]
   simp only[Nat.testBit_or,Bool.or_eq_true,Nat.one_shiftLeft,Nat.testBit_two_pow,decide_eq_true_eq,aTf,exists_eq_or_imp,hb,true_and];constructor
   ·rintro (((h|h)|h)|h)
    ·exact .inl h
    ·exact .inr (.inl (.inl h))
    ·exact .inr (.inl (.inr h))
    ·exact .inr (.inr h)
   ·rintro (h|(h|h)|h)
    ·exact .inl (.inl (.inl h))
    ·exact .inl (.inl (.inr h))
    ·exact .inl (.inr h)
    ·exact .inr h
  ·rw[if_neg hb]
   simp[hb]
theorem aFM {l:List Oper}{i:Nat}{o:Oper}(h:l[i]? =some o)(hlt: ∀e∈o.after.toList,Region.binds .any e=true->e.on<i)(j:Nat)(hj:((mI l).getD i 0).testBit j=true):
  ∃e∈o.after.toList,Region.binds .any e=true/\(e.on=j∨((mI l).getD e.on 0).testBit j=true):=by
 rw[aFL h] at hj;unfold pD at hj;rw[Ut] at hj;rcases hj with hj|⟨e,he,hb,hj⟩
 ·simp at hj
 ·refine⟨e,he,hb,?_⟩
  rcases hj with hj|hj
  ·exact .inl hj
  ·right
   rw[aS0,List.getElem?_take,if_pos (hlt e he hb),<-aS0] at hj;exact hj
def Fixed (m:M Value)(H:aG)(v:Value):Prop:= ∀G:aG,m G=some (v,G)
def yN (m:M Value)(H:aG)(v:Value):Prop:= ∀G:aG,(∀(b:Nat)(x:Blk),H[b]? =some x->G[b]? =some x)->m G=some (v,G)
def aFJ (m:M Value)(H:aG)(v:Value)(H':aG):Prop:= ∃x:Blk,wr (some x)=true/\H'=H++[x]/\ ∀G:aG,G.length=H.length->m G=some (v,G++[x])
theorem aFK {x:Option Value}{H H':aG}{v:Value}(h:aP x H=some (v,H')):H'=H/\Fixed (aP x) H v:=by
 obtain⟨rfl,rfl⟩:=kF h
 exact⟨rfl,λG=>rfl⟩
theorem Uv {sz:Nat}{g:Bool}{a v:Value}{H H':aG}(h:(if g=true then ldN sz a else ld1 a) H=some (v,H')):H'=H/\yN (if g=true then ldN sz a else ld1 a) H v:=by
 cases g with
 |true=>
  simp only[if_true] at h⊢;obtain⟨rfl,b,o,cs,e,k,rfl,hb,hn,rfl⟩:=Jc h
  exact⟨rfl,λG hG=>by simp[ldN,hG b _ hb,hn]⟩
 |false=>
  simp only[Bool.false_eq_true,if_false] at h⊢;obtain⟨rfl,b,o,cs,e,k,rfl,hb,hx⟩:=Jb h
  exact⟨rfl,λG hG=>by simp[ld1,hG b _ hb,hx]⟩
theorem aFY {a v:Value}{H H':aG}(h:oF a H=some (v,H')):H'=H/\yN (oF a) H v:=by
 unfold oF at h
 split at h
 ·injection h with h;injection h with h1 h2;subst h1;subst h2
  exact⟨rfl,λG hG=>rfl⟩
 ·rename_i b o n c
  split at h
  ·rename_i h0
   injection h with h;injection h with h1 h2;subst h1;subst h2;subst h0
   exact⟨rfl,λG hG=>by simp[oF]⟩
  rename_i h0
  split at h
  ·rename_i cs e k hb
   split at h
   ·rename_i hl
    split at h
    ·rename_i bs hbs
     injection h with h;injection h with h1 h2;subst h1;subst h2
     exact⟨rfl,λG hG=>by simp[oF,hG b _ hb,hl,hbs,h0]⟩
    ·cases h
   ·cases h
  ·cases h
 ·cases h
theorem aFW {P:Program}{sz:Nat}{a v:Value}{lo hi mx:Option Value}{H H':aG}(h:slc P sz a lo hi mx H=some (v,H')):H'=H/\yN (slc P sz a lo hi mx) H v:=by
 unfold slc at h
 split at h
 ·split at h
  ·rename_i e1 e2 e3
   injection h with h;injection h with h1 h2;subst h1;subst h2
   exact⟨rfl,λG hG=>by simp[slc,e1,e2,e3]⟩
  ·cases h
 ·rename_i b o n c
  split at h
  ·rename_i cs e k hb
   split at h
   ·rename_i l h' m e1 e2 e3
    split at h
    ·rename_i hc
     injection h with h;injection h with h1 h2;subst h1;subst h2;refine⟨rfl,λG hG=> ?_⟩
     simp only[slc,hG b _ hb,e1,e2,e3];rw[if_pos hc]
    ·cases h
   ·cases h
  ·cases h
 ·cases h
theorem aFX {n sz:Nat}{a v:Value}{lo hi:Option Value}{H H':aG}(h:pB n sz a lo hi H=some (v,H')):H'=H/\yN (pB n sz a lo hi) H v:=by
 unfold pB at h
 split at h
 ·rename_i b o
  split at h
  ·rename_i cs e k hb
   split at h
   ·rename_i l h' e1 e2
    split at h
    ·rename_i hc
     injection h with h;injection h with h1 h2;subst h1;subst h2;refine⟨rfl,λG hG=> ?_⟩
     simp only[pB,hG b _ hb,e1,e2];rw[if_pos hc]
    ·cases h
   ·cases h
  ·cases h
 ·cases h
theorem Fixed.aFI {m:M Value}{H:aG}{v:Value}(h:Fixed m H v):yN m H v:=λG _=>h G
def nO (look:Bool)(m:M Value):Prop:= ∀H v H',m H=some (v,H')->H'=H/\yN m H v/\(look=false->Fixed m H v)
theorem pJ (l:Bool):nO l cG:=λH v H' h=>by cases h
theorem yO (l:Bool)(x:Option Value):nO l (aP x):=λH v H' h=>by
 obtain⟨h1,h2⟩:=aFK h;exact⟨h1,h2.aFI,λ_=>h2⟩
theorem yP (l:Bool)(x:Value):nO l (aU x):=λH v H' h=>by
 injection h with h;injection h with h1 h2;subst h1;subst h2;exact⟨rfl,λG _=>rfl,λ_ G=>rfl⟩
theorem aFO (a:Value):nO true (ld1 a):=λH v H' h=>by
 obtain⟨h1,h2⟩:=Uv (g:=false) (sz:=0) h;exact⟨h1,h2,λh=>by cases h⟩
theorem aFP (n:Nat)(a:Value):nO true (ldN n a):=λH v H' h=>by
 obtain⟨h1,h2⟩:=Uv (g:=true) (sz:=n) h;exact⟨h1,h2,λh=>by cases h⟩
theorem aFV (a:Value):nO true (oF a):=λH v H' h=>by
 obtain⟨h1,h2⟩:=aFY h;exact⟨h1,h2,λh=>by cases h⟩
theorem aFS (P:Program)(sz:Nat)(a:Value)(lo hi mx:Option Value):nO true (slc P sz a lo hi mx):=λH v H' h=>by
 obtain⟨h1,h2⟩:=aFW h;exact⟨h1,h2,λh=>by cases h⟩
theorem aFT (n sz:Nat)(a:Value)(lo hi:Option Value):nO true (pB n sz a lo hi):=λH v H' h=>by
 obtain⟨h1,h2⟩:=aFX h;exact⟨h1,h2,λh=>by cases h⟩
theorem aFR (kt:KeyT)(z:Value)(ok:Bool)(m k:Value):nO true (jK kt z ok m k):=λH v H' h=>by
 unfold jK at h
 split at h
 ·rename_i hk
  split at h
  ·injection h with h;injection h with h1 h2;subst h1;subst h2
   exact⟨rfl,λG _=>by simp[jK,hk],λh=>by cases h⟩
  ·rename_i b
   split at h
   ·rename_i es c hb
    split at h
    ·cases h
    ·rename_i hf
     injection h with h;injection h with h1 h2;subst h1;subst h2
     exact⟨rfl,λG hG=>by simp[jK,hk,hG b _ hb,hf],λh=>by cases h⟩
    ·rename_i hf
     injection h with h;injection h with h1 h2;subst h1;subst h2
     exact⟨rfl,λG hG=>by simp[jK,hk,hG b _ hb,hf],λh=>by cases h⟩
   ·cases h
  ·cases h
 ·cases h
theorem aFQ (m:Value):nO true (oD m):=λH v H' h=>by
 unfold oD at h
 split at h
 ·injection h with h;injection h with h1 h2;subst h1;subst h2
  exact⟨rfl,λG _=>rfl,λh=>by cases h⟩
 ·rename_i b
  split at h
  ·rename_i es c hb
   injection h with h;injection h with h1 h2;subst h1;subst h2
   exact⟨rfl,λG hG=>by simp[oD,hG b _ hb],λh=>by cases h⟩
  ·cases h
 ·cases h
theorem aFU (P:Program)(t:TypeId)(x:Value)(lo hi mx:Option Value):nO true (sS P t x lo hi mx):=by
 unfold sS
 repeat' split
 all_goals first|exact pJ _|(apply yO;done)|(apply aFS;done)|(apply aFT;done)
theorem aFN (P:Program)(s d:TypeId)(v:Value):nO (C1 P s) (cH P s d v):=by
 unfold cH;split
 ·split
  ·exact yP _ _
  ·exact pJ _
 ·split
  ·exact yP _ _
  ·exact pJ _
 ·rename_i e hs _
  have:C1 P s=true:=by simp[C1,hs]
  rw[this];split
  ·exact aFV _
  ·exact pJ _
 ·exact pJ _
theorem Uu (P:Program)(O:aH)(t:cU)(o:Oper)(he:dG o.op=false)(hn:oH o.op=false):nO (oG P o.op) (aOp P O t o):=by
 obtain⟨dst,op,ty0,pos,after,guard⟩:=o;cases op
 case call c=>
  obtain⟨callee,args,ts⟩:=c;cases callee with
  |value f=>simp[dG] at he
  |invoke r m=>
   simp only[aOp]
   split<;>exact pJ _
  |builtin b=>
   simp only[aOp];split
   ·exact pJ _
   ·rename_i vs _
    cases b<;>simp[dG] at he
    ·cases vs with
     |nil=>exact pJ _
     |cons x vs=>
      cases vs with
      |nil=>
       simp only[rC];split
       ·apply yO
       ·apply yO
       ·unfold tX
        split
        ·rename_i p hu
         have:oG P (.call {callee:= .builtin .len,args:=args,argTypes:=ts})=true:=by
          simp only[oG,Tf];cases h0:ts.toList[0]? with
          |none=>simp[h0] at hu
          |some t0=>
           simp[h0] at hu;simp[yK hu]
         rw[this];apply aFQ
        ·exact pJ _
      |cons y vs=>exact pJ _
    ·exact yO _ _
    ·exact yO _ _
 all_goals simp only[dG,oH,Bool.true_eq_false,Bool.false_eq_true,reduceCtorEq] at he hn
 all_goals simp only[aOp,oG]
 all_goals (repeat' split)
 all_goals first
  |exact pJ _|(apply yO;done)|(apply yP;done)|(apply aFP;done)|(apply aFO;done)|(apply aFN;done)|(apply aFU;done)|(apply aFR;done)|skip
def uF (m:M Value):Prop:= ∀H v H',m H=some (v,H')->aFJ m H v H'∨(H'=H/\Fixed m H v)
theorem Uz:uF cG:=λH v H' h=>by cases h
theorem J2 (x:Value):uF (aU x):=λH v H' h=>by
 injection h with h;injection h with h1 h2;subst h1;subst h2;exact .inr ⟨rfl,λG=>rfl⟩
theorem aF3 (e:TypeId)(cs:List Value)(k:Kind)(hk:k≠ .ro):uF (aX e cs k):=λH v H' h=>by
 simp only[aX] at h;injection h with h;injection h with h1 h2;subst h1;subst h2;exact .inl ⟨.cells cs e k,by simpa[wr] using hk,rfl,λG hG=>by simp[aX,hG]⟩
theorem aF4:uF lU:=λH v H' h=>by
 simp only[lU] at h;injection h with h;injection h with h1 h2;subst h1;subst h2;exact .inl ⟨.map [] 0,rfl,rfl,λG hG=>by simp[lU,hG]⟩
theorem aF2 (e:TypeId)(sz by':Nat)(z:List Value)(n c:Value):uF (gZ e sz by' z n c):=λH v H' h=>by
 unfold gZ at h
 split at h
 ·split at h
  ·rename_i hc
   injection h with h;injection h with h1 h2;subst h1;subst h2;refine .inl ⟨_,by simp[wr],rfl,λG hG=> ?_⟩
   simp only[gZ,if_pos hc,hG]
  ·cases h
 ·cases h
theorem aF1 (e:TypeId)(sz n:Nat)(z:List Value)(ps:List (Nat×Value)):uF (bV e sz n z ps):=λH v H' h=>by
 unfold bV at h
 split at h
 ·rename_i cs hc
  injection h with h;injection h with h1 h2;subst h1;subst h2;refine .inl ⟨_,by simp[wr],rfl,λG hG=> ?_⟩
  simp only[bV,hc,hG]
 ·cases h
theorem Uy (P:Program)(O:aH)(t:cU)(o:Oper)(hn:oH o.op=true):uF (aOp P O t o):=by
 obtain⟨dst,op,ty0,pos,after,guard⟩:=o;cases op<;>simp only[oH,Bool.false_eq_true] at hn<;>simp only[aOp]
 all_goals (repeat' split)
 all_goals first|exact Uz|(apply aF3;simp;done)|(apply aF2;done)|(apply aF1;done)|exact aF4
theorem U1 (P:Program)(O:aH)(ops:List Oper)(t:cU)(o:Oper)(he:dG o.op=false)(hn:oH o.op=false):nO (oG P o.op) (fP P O ops t o):=by
 unfold fP;split
 ·exact Uu P O t o he hn
 ·split
  ·split
   ·unfold gd
    split
    ·split
     ·exact Uu P O t o he hn
     ·exact yP _ _
    ·exact yP _ _
   ·exact pJ _
  ·exact yP _ _
theorem U0 (P:Program)(O:aH)(ops:List Oper)(t:cU)(o:Oper)(hn:oH o.op=true):uF (fP P O ops t o):=by
 unfold fP;split
 ·exact Uy P O t o hn
 ·split
  ·split
   ·unfold gd
    split
    ·split
     ·exact Uy P O t o hn
     ·exact J2 _
    ·exact J2 _
   ·exact Uz
  ·exact J2 _
theorem Ux {op:Op}(h:oH op=true):dG op=false:=by cases op<;>simp_all [oH,dG]
structure Trace (P:Program)(O:aH)(ops:List Oper)(ms:List Nat)(l:List Oper)(i:Nat)(rs:List Rd)(es:List Ef)(t:cU)(H:aG)(T:Nat->cU)(HH:Nat->aG)(V:Nat->Value):Prop where
 t0:T 0=t
 h0:HH 0=H
 st: ∀(j:Nat)(o:Oper),l[j]? =some o->fP P O ops (T j) o (HH j)=some (V j,HH (j+1))/\T (j+1)=qH (T j) o.dst (V j)
 rs: ∀(j:Nat)(o:Oper),l[j]? =some o->dG o.op=true-> ∀q∈rs,(ms.getD (i+j) 0).testBit q.i=true∨chk (fP P O ops q.t q.o (HH (j+1))) q.v=true
 es: ∀(j:Nat)(o:Oper),l[j]? =some o->dG o.op=false->oG P o.op=true-> ∀e∈es,(ms.getD (i+j) 0).testBit e.i=true∨chk (fP P O ops (T j) o e.h) (V j)=true
 le: ∀(j:Nat)(o:Oper),l[j]? =some o->dG o.op=true-> ∀(j':Nat)(o':Oper),j'<j->l[j']? =some o'->dG o'.op=false->oG P o'.op=true->
  (ms.getD (i+j) 0).testBit (i+j')=true∨chk (fP P O ops (T j') o' (HH (j+1))) (V j')=true
 el: ∀(j:Nat)(o:Oper),l[j]? =some o->dG o.op=false->oG P o.op=true-> ∀(j':Nat)(o':Oper),j'<j->l[j']? =some o'->dG o'.op=true->
  (ms.getD (i+j) 0).testBit (i+j')=true∨chk (fP P O ops (T j) o (HH j')) (V j)=true
def yQ {α:Type}(x:α)(f:Nat->α):Nat->α
 |0=>x
 |n+1=>f n
theorem U2 {P:Program}{O:aH}{ops:List Oper}{ms:List Nat}{r:Value×aG}{k:K (Value×aG)}: ∀(l:List Oper)(i:Nat)(rs:List Rd)(es:List Ef)(t:cU)(H:aG),
    oI P O ops ms l i rs es k t H=some r-> ∃T HH V,Trace P O ops ms l i rs es t H T HH V/\k (T l.length) (HH l.length)=some r
  |[],i,rs,es,t,H,h=>⟨λ_=>t,λ_=>H,λ_=>undef,⟨rfl,rfl,by simp,by simp,by simp,by simp,by simp⟩,h⟩
  |o::l,i,rs,es,t,H,h=>by
    simp only[oI] at h
    split at h
    · cases h
    · rename_i x hx
      -- what the head adds to the two lists
      have key: ∀(rs':List Rd)(es':List Ef),(∀q∈rs,q∈rs')->(∀e∈es,e∈es')->(dG o.op=true->(⟨i,H⟩:Ef)∈es')->(dG o.op=false->oG P o.op=true->(⟨i,o,t,x.1⟩:Rd)∈rs')->
          (dG o.op=true-> ∀q∈rs,(ms.getD i 0).testBit q.i=true∨chk (fP P O ops q.t q.o x.2) q.v=true)->
          (dG o.op=false->oG P o.op=true-> ∀e∈es,(ms.getD i 0).testBit e.i=true∨chk (fP P O ops t o e.h) x.1=true)->
          oI P O ops ms l (i+1) rs' es' k (qH t o.dst x.1) x.2=some r-> ∃T HH V,Trace P O ops ms (o::l) i rs es t H T HH V/\k (T (o::l).length) (HH (o::l).length)=some r:=by
        intro rs' es' hrs hes hef hrd hc1 hc2 h';obtain⟨T,HH,V,tr,hk⟩:=U2 l (i+1) rs' es' _ _ h';refine⟨yQ t T,yQ H HH,yQ x.1 V,⟨rfl,rfl,?_,?_,?_,?_,?_⟩,hk⟩
        · intro j o' hj
          cases j with
          |zero=>simp at hj;subst hj;exact⟨by simp only[yQ];rw[tr.h0];exact hx,by simp only[yQ];exact tr.t0⟩
          |succ j=>exact tr.st j o' (by simpa using hj)
        · intro j o' hj he q hq
          cases j with
          |zero=>simp at hj;subst hj;simp only[yQ];rw[tr.h0];exact hc1 he q hq
          |succ j=>have:=tr.rs j o' (by simpa using hj) he q (hrs q hq);rw[show i+1+j=i+(j+1) by omega] at this;exact this
        · intro j o' hj he hl e hee
          cases j with
          |zero=>simp at hj;subst hj;exact hc2 he hl e hee
          |succ j=>have:=tr.es j o' (by simpa using hj) he hl e (hes e hee);rw[show i+1+j=i+(j+1) by omega] at this;exact this
        · intro j o' hj he j' o'' hlt hj' he' hl'
          cases j with
          |zero=>omega
          |succ j=>
            cases j' with
            |zero=>
              simp at hj';subst hj';have:=tr.rs j o' (by simpa using hj) he _ (hrd he' hl')
              rw[show i+1+j=i+(j+1) by omega] at this;exact this
            |succ j'=>
              have:=tr.le j o' (by simpa using hj) he j' o'' U (by simpa using hj') he' hl'
              rw[show i+1+j=i+(j+1) by omega,show i+1+j'=i+(j'+1) by omega] at this;exact this
        · intro j o' hj he hl j' o'' hlt hj' he'
          cases j with
          |zero=>omega
          |succ j=>
            cases j' with
            |zero=>
              simp at hj';subst hj';have:=tr.es j o' (by simpa using hj) he hl _ (hef he')
              rw[show i+1+j=i+(j+1) by omega] at this;exact this
            |succ j'=>
              have:=tr.el j o' (by simpa using hj) he hl j' o'' U (by simpa using hj') he'
              rw[show i+1+j=i+(j+1) by omega,show i+1+j'=i+(j'+1) by omega] at this;exact this
      split at h
      · rename_i he
        split at h
        · rename_i hc
          simp only[aTB,Bool.or_eq_true] at hc;exact key rs _ (λ_ h=>h) (λ_ h=>aTd _ h) (λ_=>aS5 ..) (λh0=>by rw[he] at h0;cases h0) (λ_=>hc) (λh0=>by rw[he] at h0;cases h0) h
        · cases h
      · rename_i he
        have he':dG o.op=false:=by simpa using he
        split at h
        · rename_i hl
          split at h
          · rename_i hc
            simp only[aTB,Bool.or_eq_true] at hc;exact key _ es (λ_ h=>aTd _ h) (λ_ h=>h) (λh0=>by rw[he'] at h0;cases h0) (λ_ _=>aS5 ..) (λh0=>by rw[he'] at h0;cases h0) (λ_ _=>hc) h
          · cases h
        · rename_i hl
          exact key rs es (λ_ h=>h) (λ_ h=>h) (λh0=>by rw[he'] at h0;cases h0) (λ_ h0=>absurd h0 hl) (λh0=>by rw[he'] at h0;cases h0) (λ_ h0=>absurd h0 hl) h
structure StepN (P:Program)(W N:Nat->Prop)(ρ:Ren)(G:Nat->Option Blk)(w:World)(ρ':Ren)(G':Nat->Option Blk)(w':World):Prop where
 rel:Rel P ρ' G' w'
 le:ρ.pE ρ'
 sub: ∀b,N b->W b
 new: ∀b:Nat,ρ' b≠none->ρ b≠none∨N b
 size:w.heap.size<=w'.heap.size
 frame: ∀c:Nat,c<w.heap.size->(∀(b:Nat)(pl:Pl),ρ b=some pl->wr (G b)=true->pl.c≠c)->w'.heap[c]? =w.heap[c]?
 un: ∀b:Nat,¬W b->ρ b=none->G' b=G b
 dead: ∀b:Nat,¬W b->G b=some .dead->G' b=some .dead
 kd: ∀b:Nat,¬W b->wr (G' b)=true->wr (G b)=true
 fresh: ∀(b:Nat)(pl:Pl),ρ b=none->ρ' b=some pl->w.heap.size<=pl.c∨ ∃b0 p0,ρ b0=some p0/\wr (G b0)=true/\p0.c=pl.c
 os:w'.os=w.os
 tape:w'.tape=w.tape
 output:w'.output=w.output
theorem StepN.aF0 {P:Program}{W N1 N2:Nat->Prop}{ρ ρ' ρ'':Ren}{G G' G'':Nat->Option Blk}{w w' w'':World}(hW: ∀b,W b->ρ b=none)
  (h:StepN P W N1 ρ G w ρ' G' w')(h':StepN P W N2 ρ' G' w' ρ'' G'' w'')(kd2: ∀b pl,ρ b=some pl->wr (G' b)=true->wr (G b)=true):StepN P W (λb=>N1 b∨N2 b) ρ G w ρ'' G'' w'' where
 rel:=h'.rel
 le:=Ren.Tg h.le h'.le
 sub:=λb hb=>hb.elim (h.sub b) (h'.sub b)
 new:=λb hb=>by
  rcases h'.new b hb with h1|h1
  ·rcases h.new b h1 with h2|h2
   ·exact .inl h2
   ·exact .inr (.inl h2)
  ·exact .inr (.inr h1)
 size:=aTc h.size h'.size
 frame:=λc hc hf=>by
  have h1:=h.frame c hc hf;rw[h'.frame c (aTb hc h.size) ?_,h1];intro b pl hb hw;cases hρ:ρ b with
  |some pl0=>
   have:=h.le b pl0 hρ;rw[hb] at this;injection this with e;subst e;exact hf b pl hρ (kd2 b pl hρ hw)
  |none=>
   rcases h.fresh b pl hρ hb with hge|⟨b0,p0,h3,h4,h5⟩
   ·omega
   ·rw[<-h5];exact hf b0 p0 h3 h4
 un:=λb hb hn=>by
  have hn':ρ' b=none:=by
   cases hρ:ρ' b with
   |none=>rfl
   |some pl=>
    rcases h.new b (by simp[hρ]) with h1|h1
    ·exact absurd hn h1
    ·exact absurd (h.sub b h1) hb
  rw[h'.un b hb hn',h.un b hb hn]
 dead:=λb hb hd=>h'.dead b hb (h.dead b hb hd)
 kd:=λb hb hw=>h.kd b hb (h'.kd b hb hw)
 fresh:=λb pl hn hb=>by
  cases hρ:ρ' b with
  |some pl0=>
   have:=h'.le b pl0 hρ;rw[hb] at this;injection this with e;subst e;exact h.fresh b pl hn hρ
  |none=>
   rcases h'.fresh b pl hρ hb with hge|⟨b0,p0,h3,h4,h5⟩
   ·exact .inl (aTc h.size hge)
   ·cases h0:ρ b0 with
    |some p1=>
     have:=h.le b0 p1 h0;rw[h3] at this;injection this with e;subst e;exact .inr ⟨b0,p0,h0,kd2 b0 p0 h0 h4,h5⟩
    |none=>
     rw[<-h5];exact h.fresh b0 p0 h0 h3
 os:=h'.os.trans h.os
 tape:=h'.tape.trans h.tape
 output:=h'.output.trans h.output
def eH (ini:Nat->Option Blk)(C:aG):Nat->Option Blk:=λb=>if b<C.length then C[b]? else ini b
def J1 (ini:Nat->Option Blk):Prop:= ∀b x,ini b=some x->wr (some x)=true
theorem fY {ini:Nat->Option Blk}{C:aG}{b:Nat}(h:b<C.length):eH ini C b=C[b]? :=by simp[eH,h]
theorem iH {ini:Nat->Option Blk}{C:aG}{b:Nat}(h: ¬b<C.length):eH ini C b=ini b:=by simp[eH,h]
theorem Rel.aFZ {P:Program}{ρ:Ren}{ini:Nat->Option Blk}{C:aG}{w:World}(hi:J1 ini)(h:Rel P ρ (eH ini C) w):Rel P ρ (cE C) w:=by
 refine⟨h.lt,λb pl x hb hx=> ?_,λb1 b2 p1 p2 hne h1 h2 hw hd=> ?_,λg hg=>⟨(h.tab g hg).1,λb pl hb hw=>(h.tab g hg).2 b pl hb (by
  obtain⟨x,hx,_⟩:=vR hw;rw[fY (mW hx)];exact hw)⟩⟩
 ·have hlt:=mW hx
  exact h.blk b pl x hb (by rw[fY hlt];exact hx)
 ·obtain⟨x,hx,_⟩:=vR hw
  have hlt:=mW hx;refine h.sep b1 b2 p1 p2 hne h1 h2 (by rw[fY hlt];exact hw) ?_
  by_cases h2':b2<C.length
  ·rw[fY h2'];exact hd
  ·rw[iH h2']
   intro e;have:=hi b2 _ e;cases this
theorem Step.Uw {P:Program}{W:Nat->Prop}{ρ ρ':Ren}{ini:Nat->Option Blk}{C C':aG}{w w':World}(hi:J1 ini)(hr:Rel P ρ (eH ini C) w)(h:Step P ρ C w ρ' C' w')
    (hW: ∀b,C.length<=b->b<C'.length->W b):StepN P W (λb=>C.length<=b/\b<C'.length) ρ (eH ini C) w ρ' (eH ini C') w':=by
  have wrC: ∀b,wr C[b]? =true->wr (eH ini C b)=true:=by
    intro b hb;obtain⟨x,hx,_⟩:=vR hb;rw[fY (mW hx)];exact hb
  have iniwr: ∀b x,ini b=some x->wr (ini b)=true:=by
    intro b x hx;rw[hx];exact hi b x hx
  have inind: ∀b,ini b≠some .dead:=by
    intro b e;have:=hi b _ e;cases this
  -- a pending block that is mapped behind the step was mapped ahead of it
  have pend: ∀b p,¬b<C'.length->ρ' b=some p->ρ b=some p:=by
    intro b p hb hp;cases hρ:ρ b with
    |some p0=>have:=h.le b p0 hρ;rw[hp] at this;exact this.symm▸rfl
    |none=>
      rcases h.new b (by rw[hp];simp) with h1|⟨_,h2⟩
      · exact absurd hρ h1
      · exact absurd h2 hb
  have geC: ∀b,¬b<C'.length-> ¬b<C.length:=λb hb hc=>hb (aTb hc h.len)
  -- where a pending block lies, nothing living of the heap lies
  have apart: ∀b1 b2 p1 p2,¬b1<C'.length->b2<C'.length->ρ' b1=some p1->ρ' b2=some p2->ini b1≠none->C'[b2]? ≠some .dead->p1.c≠p2.c:=by
    intro b1 b2 p1 p2 hb1 hb2 h1 h2 hini hd;have hρ1:=pend b1 p1 hb1 h1;obtain⟨x1,hx1⟩:=Option.ne_none_iff_exists'.1 hini;have hg1:eH ini C b1=ini b1:=iH (geC b1 hb1);cases hρ2:ρ b2 with
    |some p20=>
      have:=h.le b2 p20 hρ2;rw[h2] at this;injection this with e;subst e;refine hr.sep b1 b2 p1 p2 U hρ1 hρ2 (by rw[hg1];exact iniwr b1 x1 hx1) ?_
      by_cases hc:b2<C.length
      · rw[fY hc];intro hdd;exact hd (h.dead b2 hdd)
      · rw[iH hc];exact inind b2
    |none=>
      rcases h.fresh b2 p2 hρ2 h2 with hge|⟨b0,p0,h3,h4,h5⟩
      · have:=hr.lt b1 p1 hρ1;omega
      · rw[<-h5]
        have hne:b0≠b1:=by
          rintro rfl
          obtain⟨x,hx,_⟩:=vR h4;exact geC b0 hb1 (mW hx)
        exact λe=>hr.sep b0 b1 p0 p1 hne h3 hρ1 (wrC b0 h4) (by rw[hg1];exact inind b1) e.symm
  have htb:Tab P ρ' (eH ini C') w':=λg hg=>⟨(h.rel.tab g hg).1,λb pl hb hw=>by
    by_cases hl:b<C'.length
    · rw[fY hl] at hw
      exact(h.rel.tab g hg).2 b pl hb hw
    · rw[iH hl] at hw
      exact(hr.tab g hg).2 b pl (pend b pl hl hb) (by rw[iH (geC b hl)];exact hw)⟩
  refine⟨⟨h.rel.lt,?_,?_,htb⟩,h.le,λb hb=>hW b hb.1 hb.2,h.new,h.size,?_,?_,?_,?_,?_,h.os,h.tape,h.output⟩
  · intro b p x hp hx
    by_cases hb:b<C'.length
    · rw[fY hb] at hx;exact h.rel.blk b p x hp hx
    · rw[iH hb] at hx
      have hρ:=pend b p hb hp;have hg:eH ini C b=some x:=by rw[iH (geC b hb)];exact hx
      have hB:=hr.blk b p x hρ hg;rw[h.frame p.c (hr.lt b p hρ) ?_]
      · exact hB.I2 h.le
      · intro b0 p0 h0 hw0
        have hne:b0≠b:=by
          rintro rfl
          obtain⟨y,hy,_⟩:=vR hw0;exact geC b0 hb (mW hy)
        exact hr.sep b0 b p0 p hne h0 hρ (wrC b0 hw0) (by rw[hg];intro h;have:=hi b x hx;cases h;cases this)
  · intro b1 b2 p1 p2 hne h1 h2 hw hd
    by_cases hb1:b1<C'.length
    · rw[fY hb1] at hw
      by_cases hb2:b2<C'.length
      · rw[fY hb2] at hd;exact h.rel.sep b1 b2 p1 p2 hne h1 h2 hw hd
      · exact h.rel.sep b1 b2 p1 p2 hne h1 h2 hw (by simp only[cE];rw[aS7 U];simp)
    · rw[iH hb1] at hw
      have hini:ini b1≠none:=by intro e;rw[e] at hw;simp[wr] at hw
      by_cases hb2:b2<C'.length
      · rw[fY hb2] at hd;exact apart b1 b2 p1 p2 hb1 hb2 h1 h2 hini hd
      · refine hr.sep b1 b2 p1 p2 hne (pend b1 p1 hb1 h1) (pend b2 p2 hb2 h2) (by rw[iH (geC b1 hb1)];exact hw) (by rw[iH (geC b2 hb2)];exact inind b2)
  · intro c hc hf
    exact h.frame c hc λb p hb hw=>hf b p hb (wrC b hw)
  · intro b hb hn
    by_cases h1:b<C.length
    · rw[fY h1,fY (aTb h1 h.len)];exact h.un b h1 hn
    · by_cases h2:b<C'.length
      · exact absurd (hW b U h2) hb
      · rw[iH h1,iH h2]
  · intro b hb hd
    by_cases h1:b<C.length
    · rw[fY h1] at hd
      rw[fY (aTb h1 h.len)];exact h.dead b hd
    · rw[iH h1] at hd;exact absurd hd (inind b)
  · intro b hb hw
    by_cases h1:b<C.length
    · rw[fY (aTb h1 h.len)] at hw
      rw[fY h1];exact h.kd b h1 hw
    · by_cases h2:b<C'.length
      · exact absurd (hW b U h2) hb
      · rw[iH h2] at hw;rw[iH h1];exact hw
  · intro b p hn hp
    rcases h.fresh b p hn hp with h1|⟨b0,p0,h3,h4,h5⟩
    · exact .inl h1
    · exact .inr ⟨b0,p0,h3,wrC b0 h4,h5⟩
end Go.Abs
