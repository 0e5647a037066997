/-
  PARTS OF THIS CLAIM'S PROOF, laid together by a program of mine.
-/
import Derived.Test.YtmimdleeihjdoaaGreatDoorAbsM4
import Derived.Test.YtmimdleeihjdoaaGreatDoorAbsM3
import Derived.Test.YtmimdleeihjdoaaGreatDoorAbsM2
import Derived.Test.YtmimdleeihjdoaaGreatDoorAbsM1
import Derived.Calls
import Derived.LoopN
import Derived.Orders
import Derived.Laws.Sem
import Derived.Laws.Tables
import Derived.Laws.Cells
import Derived.Laws.StructEq
import Derived.Laws.Append
import Derived.Laws.MakeOwn
import Derived.Laws.Slices
import Derived.Lib.UnsafeStr
import Derived.Laws.BytesString
import Derived.Laws.BytesArg
import Derived.Laws.Pointers
import Derived.Lib.SliceRun
import Derived.Laws.Cover3
import Derived.MapKept
import Derived.WideKeyRuns
import Derived.Scope
import Derived.Test.YtmimdleeihjdoaaGreatDoorProg
import Derived.KernelRfl
import Derived.ProofKit
import Derived.RowKit
import Derived.RowKit3
import Derived.ChangeSame
import Derived.Sort.Grow
import Derived.Ground.NamesProg
import Derived.Shelf.Sort.Plain
import Derived.Shelf.Slices.In.SortNone
import Derived.OpenShut
import Derived.Deep.Slices
import Derived.SizedLaws
set_option linter.unusedVariables false
set_option linter.unusedSimpArgs false
set_option linter.unusedSectionVars false
set_option maxRecDepth 100000
namespace Go.Proofs.YtmimdleeihjdoaaGreatDoor
open Go.Proofs.Tryz
open Go.Abs
def ofL (c:List Nat)(n:Nat):List Int:=(List.range n).map λj=>((c.getD j 0%(j+1):Nat):Int)
def ofT (c:List Nat):List Int:=if min c.length 5=0 then [0] else ofL c (min c.length 5)
def iH (t:List Int):Bool:=(List.range t.length).all (λi=>decide (0<=t.getD i 0)&&decide (t.getD i 0<=i))&&decide ((t.length:Int)<=5)
def upL (t:List Int):Nat->Int->List Int
 |0,v=>[v]
 |q+1,v=>if 0<v then v::upL t q (t.getD (v-1).toNat 0) else [v]
def upT (t:List Int)(v:Int):List Int:=upL t v.toNat v
def Bp:Nat->List Int->List Int->List Int×List Int
 |0,a,b=>(a,b)
 |q+1,a,b=>if 1<a.length/\1<b.length/\a.getD (a.length-2) 0=b.getD (b.length-2) 0 then Bp q (a.take (a.length-1)) (b.take (b.length-1)) else(a,b)
def E6 (s:List Int×List Int):List Int:=s.1++(s.2.take (s.2.length-1)).reverse
def oV (t:List Int)(v w:Int):List Int:=if iH t=true/\0<=v/\v<=t.length/\0<=w/\w<=t.length then E6 (Bp (upT t v).length (upT t v) (upT t w)) else []
def tQ (t:List Int):List Ed:=(List.range t.length).map λi=>(t.getD i 0,((i+1:Nat):Int))
def nJ (t:List Int):List (List Int):=tab (t.length+1) λv w=>if v=w then(v:Int) else(oV t v w).getD 1 0
def qX (p:PlanD)(t:List Int):PlanD:={p with nodes:=((t.length+1:Nat):Int),edges:=tQ t,next:=nJ t}
theorem Wv {t:List Int}(h:iH t=true){i:Nat}{x:Int}(hx:t[i]? =some x):0<=x/\x<=i/\t.length<=5:=by
 unfold iH at h;rw[aOe,aOM] at h;have:=h.1 i (aOL.mpr (aN6.mp hx).1);rw[aOa,hx] at this;simp at this;have h2:=of_decide_eq_true h.2;omega
theorem L7 (t:List Int): ∀(q:Nat)(v:Int),0<(upL t q v).length/\(upL t q v).length<=q+1
 |0,v=>by simp[upL]
 |q+1,v=>by
  unfold upL;split
  ·have:=L7 t q (t.getD (v-1).toNat 0)
   simp only[aOt];omega
  ·simp
section
variable {H : aC} {m : Nat} {p : PlanD} {ev wv nv : Value}
theorem u6 {l:List Int}{i:Nat}{x:Int}(h:l[i]? =some x):l.getD i 0=x:=by rw[aOa,h];rfl
theorem aHP {H0:aC}{cv:Value}{c:List Nat}(hc:Us H0 cv c)(hu8: ∀x∈c,x<256)(hl:c.length<=72057594037927936): ∀(q i k:Nat)(H1:aC)(acc:Value),min c.length 5-i=q->i<=min c.length 5->q<k->Ext H0 H1->Iw H1 acc (ofL c i)->New H0 acc-> ∀(x1 x2 x5 x6 x7 x8 x9 bK bM aR aN aM aP aZ bG aQ bC bJ bL bI bE aS aT aU aV aW aX aY bA bB:Value),
  ∃H' u,aI k (aK prog (lvl prog cD m) (aI m) Lo) (Lq (lvl prog cD m) (aI m)) [cv,x1,x2,acc,(.int .i64 (i:Nat)),x5,x6,x7,x8,x9,bK,bM,aR,aN,aM,aP,aZ,bG,aQ,bC,bJ,bL,bI,bE,aS,aT,aU,aV,aW,aX,aY,bA,bB] H1=some (u,H')/\Ext H0 H'/\Iw H' u (ofT c)/\New H0 u:=by
 intro q;induction q with
 |zero=>
  intro i k H1 acc hq hi hk he ha hnew;intros;obtain⟨k,rfl⟩:=aB k (by omega)
  have hlen:=(hc.ext he).kC;have hal:=ha.yG;have hal2:(ofL c i).length=i:=by simp[ofL]
  rw[hal2] at hal;have tail: ∀(x1 x2 x5 x6 x7 x8 x9 bK bM aR aN aM aP aZ bG aQ bC bJ bL bI bE aS aT aU aV aW aX aY bA bB:Value),∃H' u,Lp (lvl prog cD m) (aI m) cv x1 x2 acc (.int .i64 (i:Nat)) x5 x6 x7 x8 x9 bK bM aR aN aM aP aZ bG aQ bC bJ bL bI bE aS aT aU aV aW aX aY bA bB H1=some (u,H')/\Ext H0 H'/\Iw H' u (ofT c)/\New H0 u:=by
   intros;unfold Lp;by_cases h0:i=0
   ·have e0:((i:Int)==0)=true:=by simp[h0]
    subst h0;have ha':Iw H1 acc []:=ha;obtain⟨acc2,H2,t1,t2,t3,t4⟩:=ha'.rP (by':=8) iQ o7 (by decide) 0 hnew he (by decide)
    simp -implicitDefEqProofs only[gsR,hal,e0,oT,t1];have:ofT c=[0]:=by unfold ofT;rw[if_pos (by omega)]
    rw[this]
    exact⟨_,_,rfl,t4,t2,t3⟩
   ·have e0:((i:Int)==0)=false:=by simp;omega
    simp -implicitDefEqProofs only[gsR,hal,e0];have:ofT c=ofL c i:=by unfold ofT;rw[if_neg (by omega)];congr 1;omega
    rw[this]
    exact⟨_,_,rfl,he,ha,hnew⟩
  rw[eD,V2];by_cases hcl:i<c.length
  ·have e1:decide ((i:Int)<(c.length:Int))=true:=aOQ (by omega)
   have e2:decide ((i:Int)<5)=false:=aOR (by omega)
   simp -implicitDefEqProofs only[gsR,hlen,e1,e2];rw[V3];exact tail ..
  ·have e1:decide ((i:Int)<(c.length:Int))=false:=aOR (by omega)
   simp -implicitDefEqProofs only[gsR,hlen,e1];rw[V3];exact tail ..
 |succ q ih=>
  intro i k H1 acc hq hi hk he ha hnew;intros;obtain⟨k,rfl⟩:=aB k (by omega)
  have hlen:=(hc.ext he).kC;have e1:decide ((i:Int)<(c.length:Int))=true:=aOQ (by omega)
  have e2:decide ((i:Int)<5)=true:=aOQ (by omega)
  have e3:=aA (i:=i) (by omega)
  obtain⟨x,hx⟩: ∃x,c[i]? =some x:=⟨_,aN8 (by omega)⟩
  have hx8:=hu8 x (aOg hx);obtain⟨b,o,g1,_,g3⟩:=(hc.ext he).iS Ky hx .i64;have g4:ld1 (.pointer (some ⟨b,o,none⟩)) H1=some (.int .u8 x,H1):=(g3 H1 rfl).2.1 0 _ rfl;have c1:=λH=>cvU H x hx8
  have c2:=rS x (i+1) (i+1:Nat) rfl (by omega)
  have hal2:(ofL c i).length=i:=by simp[ofL]
  obtain⟨acc2,H2,t1,t2,t3,t4⟩:=ha.rP (by':=8) iQ o7 (by decide) ((x%(i+1):Nat):Int) hnew he (kH (n:=1000) (by decide) (by omega))
  have hn:ofL c (i+1)=ofL c i++[((x%(i+1):Nat):Int)]:=by
   unfold ofL;rw[aOG,List.map_append];simp only[aOC,List.map_nil];rw[aOa,hx];rfl
  rw[eD,V2];simp -implicitDefEqProofs only[gsR,hlen,e1,e2,g1,g4,c1,cI,e3,c2,oT,t1];exact ih (i+1) k H2 acc2 (by omega) (by omega) (by omega) t4 (by rw[hn];exact t2) t3 ..
theorem aHO {cv:Value}{c:List Nat}(hc:Us H cv c)(hu8: ∀x∈c,x<256)(hl:c.length<=72057594037927936)(hm:100<m): ∃H' u,lvl prog cD m (.func 84) [cv] H=some (u,H')/\Ext H H'/\Iw H' u (ofT c)/\New H u:=by
 refine iP (iC rfl rfl) (by omega) ?_
 rw[aGZ];exact aHP hc hu8 hl (min c.length 5) 0 (m-1) H (.slice none 0 0) (by omega) (by omega) (by omega) (Fr.nF _ _) Rw.lE (New.nG _) ..
theorem aHQ {tv:Value}{t:List Int}(ht:Is H tv t)(hl:t.length<=72057594037927936): ∀(q i k:Nat),t.length-i=q->i<=t.length->q<k->(∀j,j<i->(decide (0<=t.getD j 0)&&decide (t.getD j 0<=j))=true)-> ∀(x1 x2 x4 x5 x6 x7 x8 x9 bK bM aR aN aM aP aZ bG aQ bC bJ bL bI bE aS aT:Value),
  aI k (aK prog (lvl prog cD m) (aI m) K4) (Em (lvl prog cD m) (aI m)) [tv,x1,x2,(.int .i64 (i:Nat)),x4,x5,x6,x7,x8,x9,bK,bM,aR,aN,aM,aP,aZ,bG,aQ,bC,bJ,bL,bI,bE,aS,aT] H=some (.bool (iH t),H):=by
 intro q;have hlen:=ht.kC;induction q with
 |zero=>
  intro i k hq hi hk hpre;intros;obtain⟨k,rfl⟩:=aB k (by omega)
  have e:decide ((i:Int)<(t.length:Int))=false:=aOR (by omega)
  have hr:iH t=decide ((t.length:Int)<=5):=by
   unfold iH;rw[aOM.mpr (λj hj=>hpre j (by have:=aOL.mp hj;omega)),aOu]
  rw[hr,eD,Vo];simp -implicitDefEqProofs only[gsR,hlen,e];rw[aGF];simp -implicitDefEqProofs only[gsR,hlen]
 |succ q ih=>
  intro i k hq hi hk hpre;intros;obtain⟨k,rfl⟩:=aB k (by omega)
  have e:decide ((i:Int)<(t.length:Int))=true:=aOQ (by omega)
  have e3:=aA (i:=i) (by omega)
  obtain⟨x,hx⟩: ∃x,t[i]? =some x:=⟨_,aN8 (by omega)⟩
  obtain⟨b,o,g1,_,g3⟩:=ht.iS iQ hx .i64;have g4:ld1 (.pointer (some ⟨b,o,none⟩)) H=some (.int .i64 x,H):=(g3 H rfl).2.1 0 _ rfl;have hd:=u6 hx;have bad:(decide (0<=x)&&decide (x<=i))=false->iH t=false:=λh=>by
   rw[<-Bool.not_eq_true];unfold iH;rw[aOe,aOM];rintro ⟨hh,_⟩
   have:=hh i (aOL.mpr (by omega))
   rw[hd,h] at this;cases this
  rw[eD,Vo];by_cases c1:x<0
  ·have d1:decide (x<0)=true:=aOQ c1
   rw[bad (by rw[aOR (by omega)];rfl)]
   simp -implicitDefEqProofs only[gsR,hlen,e,g1,g4,d1];rw[Vp];rfl
  ·have d1:decide (x<0)=false:=aOR c1
   by_cases c2:(i:Int)<x
   ·have d2:decide ((i:Int)<x)=true:=aOQ c2
    rw[bad (by rw[aOR (show¬x<=i by omega),Bool.and_false])]
    simp -implicitDefEqProofs only[gsR,hlen,e,g1,g4,d1,d2];rw[Vp];rfl
   ·have d2:decide ((i:Int)<x)=false:=aOR c2
    simp -implicitDefEqProofs only[gsR,hlen,e,g1,g4,d1,d2,cI,e3];refine ih (i+1) k (by omega) (by omega) (by omega) (λj hj=> ?_) ..
    by_cases hji:j=i
    ·rw[hji,hd,aOQ (by omega),aOQ (by omega)];rfl
    ·exact hpre j (by omega)
theorem Ww {tv:Value}{t:List Int}(ht:Is H tv t)(hm:t.length+10<m)(hm2:m<=72057594037927936):lvl prog cD m (.func 160) [tv] H=some (.bool (iH t),H):=by
 refine dA (iC rfl rfl) (by omega) ?_
 rw[aGG];exact aHQ ht (by omega) t.length 0 (m-1) (by omega) (by omega) (by omega) (λj hj=>absurd hj (by omega)) ..
theorem aHU {H0:aC}{tv:Value}{t:List Int}(ht:Is H0 tv t)(hr:iH t=true): ∀(q k:Nat)(v:Int)(H1:aC)(acc:Value)(pre:List Int),v.toNat<=q->0<=v/\v<=t.length->q<k->pre.length+q<=20->Ext H0 H1->Iw H1 acc (pre++[v])->New H0 acc-> ∀(x2 x3 x4 x6 x7 x8 x9 bK bM aR aN aM aP aZ bG aQ bC:Value),
  ∃H' u,aI k (aK prog (lvl prog cD m) (aI m) Lf) (Lg (lvl prog cD m) (aI m)) [tv,(.int .i64 v),x2,x3,x4,acc,x6,x7,x8,x9,bK,bM,aR,aN,aM,aP,aZ,bG,aQ,bC] H1=some (u,H')/\Ext H0 H'/\Iw H' u (pre++upL t q v)/\New H0 u:=by
 intro q;induction q with
 |zero=>
  intro k v H1 acc pre hv hvr hk hpl he ha hnew;intros;obtain⟨k,rfl⟩:=aB k (by omega)
  have e:decide (0<v)=false:=aOR (by omega)
  rw[eD,Vw];simp -implicitDefEqProofs only[gsR,e];rw[Vx]
  exact⟨H1,acc,rfl,he,ha,hnew⟩
 |succ q ih=>
  intro k v H1 acc pre hv hvr hk hpl he ha hnew;intros;obtain⟨k,rfl⟩:=aB k (by omega)
  rw[eD,Vw];unfold upL;by_cases h0:0<v
  ·have e:decide (0<v)=true:=aOQ h0
   rw[if_pos h0];have hev:v-1=(((v-1).toNat:Nat):Int):=by omega
   obtain⟨x,hx⟩: ∃x,t[(v-1).toNat]? =some x:=⟨_,aN8 (by omega)⟩
   have hxr:=Wv hr hx;obtain⟨b,o,g1,_,g3⟩:=(ht.ext he).iS iQ hx .i64;rw[<-hev] at g1;have g4:ld1 (.pointer (some ⟨b,o,none⟩)) H1=some (.int .i64 x,H1):=(g3 H1 rfl).2.1 0 _ rfl;have e4:IntKind.i64.wrap (v-1)=v-1:=dM (by omega) (by omega)
   obtain⟨acc2,H2,t1,t2,t3,t4⟩:=ha.rP (by':=8) iQ o7 (by decide) x hnew he (kH (n:=1000) (by decide) (by simp;omega))
   simp -implicitDefEqProofs only[gsR,e,iF,e4,g1,g4,oT,t1];have:=ih k x H2 acc2 (pre++[v]) (by omega) (by omega) (by omega) (by simp;omega) t4 t2 t3
   rw[u6 hx];simp only[aOd,List.singleton_append] at this;exact this ..
  ·have e:decide (0<v)=false:=aOR h0
   rw[if_neg h0];simp -implicitDefEqProofs only[gsR,e];rw[Vx]
   exact⟨H1,acc,rfl,he,ha,hnew⟩
theorem Wx {tv:Value}{t:List Int}(ht:Is H tv t)(hr:iH t=true){v:Int}(hv:0<=v/\v<=t.length)(hm:100<m): ∃H' u,lvl prog cD m (.func 223) [tv,.int .i64 v] H=some (u,H')/\Ext H H'/\Iw H' u (upT t v)/\New H u:=by
 have h5:t.length<=5:=by
  unfold iH at hr;rw[aOe] at hr;have:=of_decide_eq_true hr.2;omega
 have one:Iw (H++[.cells (inC v) 3 .row]) (.slice (some ⟨H.length,0,none⟩) 1 1) ([]++[v]):=⟨rfl,.inr ⟨_,1,[],rfl,by simp,rfl,by simp⟩⟩
 have hnew:New H (.slice (some ⟨H.length,0,none⟩) 1 1):=λb ⟨_,_,_,hh⟩=>by cases hh;exact aOb _
 refine iP (iC rfl rfl) (by omega) ?_
 rw[aGR];simp -implicitDefEqProofs only[gsR,oT];exact aHU ht hr v.toNat (m-1) v _ _ [] (aOb _) hv (by omega) (by simp;omega) (Fr.app _ _ _) one hnew ..
theorem aHT {H0:aC}{bv:Value}{b:List Int}(hb:Is H0 bv b)(hbl:b.length<=10): ∀(q k:Nat)(H1:aC)(acc:Value)(pre:List Int),q<=b.length->q<k->pre.length+q<=40->Ext H0 H1->Iw H1 acc pre->New H0 acc-> ∀(x0 x1 x2 x3 x4 x5 x6 x7 bM aR aN aM aP aZ bG aQ bC bJ bL bI bE aS aT aU aV aW aX aY bA bB bN bO bP bQ bR bS bT bU bV bY cE cG cH cL cQ cU cV cM cN cO cR cY cW cX cZ dD dH dE dI dP dQ dV dW dX dY dZ eA eC eJ eK eM eN eO eP eQ eS eT eU eV eW fC fD fE fF fG fH fI fJ:Value),
  ∃H' u,aI k (aK prog (lvl prog cD m) (aI m) K6) (La (lvl prog cD m) (aI m)) [x0,x1,x2,x3,x4,x5,x6,x7,bv,acc,(.int .i64 ((q:Int)-1)),bM,aR,aN,aM,aP,aZ,bG,aQ,bC,bJ,bL,bI,bE,aS,aT,aU,aV,aW,aX,aY,bA,bB,bN,bO,bP,bQ,bR,bS,bT,bU,bV,bY,cE,cG,cH,cL,cQ,cU,cV,cM,cN,cO,cR,cY,cW,cX,cZ,dD,dH,dE,dI,dP,dQ,dV,dW,dX,dY,dZ,eA,eC,eJ,eK,eM,eN,eO,eP,eQ,eS,eT,eU,eV,eW,fC,fD,fE,fF,fG,fH,fI,fJ] H1=some (u,H')/\Ext H0 H'/\Iw H' u (pre++(b.take q).reverse)/\New H0 u:=by
 intro q;induction q with
 |zero=>
  intro k H1 acc pre hq hk hpl he ha hnew;intros;obtain⟨k,rfl⟩:=aB k (by omega)
  have e:decide (0<=((0:Nat):Int)-1)=false:=by decide
  rw[eD,Vq];simp -implicitDefEqProofs only[gsR,e];rw[aGI]
  exact⟨H1,acc,rfl,he,by simpa using ha,hnew⟩
 |succ q ih=>
  intro k H1 acc pre hq hk hpl he ha hnew;intros;obtain⟨k,rfl⟩:=aB k (by omega)
  have e:decide (0<=((q+1:Nat):Int)-1)=true:=aOQ (by omega)
  have eq:(((q+1:Nat):Int)-1)=((q:Nat):Int):=by omega
  have e3:IntKind.i64.wrap (((q:Nat):Int)-1)=((q:Nat):Int)-1:=dM (by omega) (by omega)
  obtain⟨x,hx⟩: ∃x,b[q]? =some x:=⟨_,aN8 (by omega)⟩
  obtain⟨c,o,g1,_,g3⟩:=(hb.ext he).iS iQ hx .i64;have g4:ld1 (.pointer (some ⟨c,o,none⟩)) H1=some (.int .i64 x,H1):=(g3 H1 rfl).2.1 0 _ rfl;obtain⟨acc2,H2,t1,t2,t3,t4⟩:=ha.rP (by':=8) iQ o7 (by decide) x hnew he (kH (n:=1000) (by decide) (by omega))
  rw[eD,Vq];simp -implicitDefEqProofs only[gsR,e,eq,g1,g4,oT,t1,iF,e3];have:=ih k H2 acc2 (pre++[x]) (by omega) (by omega) (by simp;omega) t4 t2 t3
  have hr:(b.take (q+1)).reverse=x::(b.take q).reverse:=by rw[List.take_add_one,hx];simp
  rw[hr];simp only[aOd,List.singleton_append] at this;exact this ..
theorem aHS {H0:aC}(hm:100<m): ∀(q k:Nat)(a b:List Int)(av bv:Value),a.length<=q->q<k->0<a.length->0<b.length->a.length<=10->b.length<=10->Is H0 av a->Is H0 bv b-> ∀(x0 x1 x2 x3 x4 x5 x6 x9 bK bM aR aN aM aP aZ bG aQ bC bJ bL bI bE aS aT aU aV aW aX aY bA bB bN bO bP bQ bR bS bT bU bV bY cE cG cH cL cQ cU cV cM cN cO cR cY cW cX cZ dD dH dE dI dP dQ dV dW dX dY dZ eA eC eJ eK eM eN eO eP eQ eS eT eU eV eW fC fD fE fF fG fH fI fJ:Value),
  ∃H' u,aI k (aK prog (lvl prog cD m) (aI m) K5) (K9 (lvl prog cD m) (aI m)) [x0,x1,x2,x3,x4,x5,x6,av,bv,x9,bK,bM,aR,aN,aM,aP,aZ,bG,aQ,bC,bJ,bL,bI,bE,aS,aT,aU,aV,aW,aX,aY,bA,bB,bN,bO,bP,bQ,bR,bS,bT,bU,bV,bY,cE,cG,cH,cL,cQ,cU,cV,cM,cN,cO,cR,cY,cW,cX,cZ,dD,dH,dE,dI,dP,dQ,dV,dW,dX,dY,dZ,eA,eC,eJ,eK,eM,eN,eO,eP,eQ,eS,eT,eU,eV,eW,fC,fD,fE,fF,fG,fH,fI,fJ] H0=some (u,H')/\Ext H0 H'/\Iw H' u (E6 (Bp q a b))/\New H0 u:=by
 intro q;have fin: ∀(a b:List Int)(av bv:Value),0<b.length->a.length<=10->b.length<=10->Is H0 av a->Is H0 bv b-> ∀(x0 x1 x2 x3 x4 x5 x6 x9 bK bM aR aN aM aP aZ bG aQ bC bJ bL bI bE aS aT aU aV aW aX aY bA bB bN bO bP bQ bR bS bT bU bV bY cE cG cH cL cQ cU cV cM cN cO cR cY cW cX cZ dD dH dE dI dP dQ dV dW dX dY dZ eA eC eJ eK eM eN eO eP eQ eS eT eU eV eW fC fD fE fF fG fH fI fJ:Value),∃H' u,K7 (lvl prog cD m) (aI m) x0 x1 x2 x3 x4 x5 x6 av bv x9 bK bM aR aN aM aP aZ bG aQ bC bJ bL bI bE aS aT aU aV aW aX aY bA bB bN bO bP bQ bR bS bT bU bV bY cE cG cH cL cQ cU cV cM cN cO cR cY cW cX cZ dD dH dE dI dP dQ dV dW dX dY dZ eA eC eJ eK eM eN eO eP eQ eS eT eU eV eW fC fD fE fF fG fH fI fJ H0=some (u,H')/\Ext H0 H'/\Iw H' u (E6 (a,b))/\New H0 u:=by
  intro a b av bv hb0 ha hb hav hbv;intros;obtain⟨v',H',t1,t2,t3,t4⟩:=(Rw.lE (el:=inC) (e:=3) (sz:=1) (H:=H0)).tL iQ o7 (by decide) (by':=8) hav (New.nG H0) (Fr.nF _ H0) (kH (n:=1000) (by decide) (by simp;omega))
  rw[List.nil_append] at t2;have hlen:=(hbv.ext t4).kC;have e3:IntKind.i64.wrap ((b.length:Int)-2)=((b.length-1:Nat):Int)-1:=by rw[dM (by omega) (by omega)];omega
  unfold K7;simp -implicitDefEqProofs only[gsR,t1,hlen,iF,e3];exact Exists.imp (λH2 h=>Exists.imp (λu h=>⟨h.1,h.2.1,h.2.2⟩) h) (aHT (m:=m) hbv hb (b.length-1) m H' v' a (by omega) (by omega) (by omega) t4 t2 t3 ..)
 induction q with
 |zero=>intro k a b av bv h1 _ h2;omega
 |succ q ih=>
  intro k a b av bv haq hk ha0 hb0 ha10 hb10 hav hbv;intros;obtain⟨k,rfl⟩:=aB k (by omega)
  have la:=hav.kC;have lb:=hbv.kC;rw[eD,aGH];unfold Bp;by_cases c1:1<a.length
  ·have d1:decide ((1:Int)<(a.length:Int))=true:=aOQ (by omega)
   by_cases c2:1<b.length
   ·have d2:decide ((1:Int)<(b.length:Int))=true:=aOQ (by omega)
    obtain⟨x,hx⟩: ∃x,a[a.length-2]? =some x:=⟨_,aN8 (by omega)⟩
    obtain⟨y,hy⟩: ∃y,b[b.length-2]? =some y:=⟨_,aN8 (by omega)⟩
    have ea:IntKind.i64.wrap ((a.length:Int)-2)=((a.length-2:Nat):Int):=by rw[dM (by omega) (by omega)];omega
    have eb:IntKind.i64.wrap ((b.length:Int)-2)=((b.length-2:Nat):Int):=by rw[dM (by omega) (by omega)];omega
    have ea1:IntKind.i64.wrap ((a.length:Int)-1)=((a.length-1:Nat):Int):=by rw[dM (by omega) (by omega)];omega
    have eb1:IntKind.i64.wrap ((b.length:Int)-1)=((b.length-1:Nat):Int):=by rw[dM (by omega) (by omega)];omega
    obtain⟨c,o,g1,_,g3⟩:=hav.iS iQ hx .i64;have g4:ld1 (.pointer (some ⟨c,o,none⟩)) H0=some (.int .i64 x,H0):=(g3 H0 rfl).2.1 0 _ rfl;obtain⟨c',o',k1,_,k3⟩:=hbv.iS iQ hy .i64;have k4:ld1 (.pointer (some ⟨c',o',none⟩)) H0=some (.int .i64 y,H0):=(k3 H0 rfl).2.1 0 _ rfl;by_cases c3:x=y
    ·have d3:(x==y)=true:=by simp[c3]
     rw[if_pos ⟨c1,c2,by rw[u6 hx,u6 hy,c3]⟩]
     have na:a≠[]:=λh=>by rw[h] at ha0;simp at ha0
     have nb:b≠[]:=λh=>by rw[h] at hb0;simp at hb0
     obtain⟨a',s1,s2,_⟩:=hav.Dm (P:=prog) iQ szI na (lo:=none) rfl (nT a.length .i64 (a.length-1)) (Nat.zero_le _) (by omega)
     obtain⟨b',s3,s4,_⟩:=hbv.Dm (P:=prog) iQ szI nb (lo:=none) rfl (nT b.length .i64 (b.length-1)) (Nat.zero_le _) (by omega)
     rw[List.drop_zero] at s2 s4;simp -implicitDefEqProofs only[gsR,la,d1,lb,d2,iF,ea,eb,g1,g4,k1,k4,d3,ea1,eb1,s1,s3];exact ih k _ _ a' b' (by simp;omega) (by omega) (by simp;omega) (by simp;omega) (by simp;omega) (by simp;omega) s2 s4 ..
    ·have d3:(x==y)=false:=by simp[c3]
     rw[if_neg (by rw[u6 hx,u6 hy];rintro ⟨_,_,h⟩;exact c3 h)]
     simp -implicitDefEqProofs only[gsR,la,d1,lb,d2,iF,ea,eb,g1,g4,k1,k4,d3];rw[K8];exact fin a b av bv hb0 ha10 hb10 hav hbv ..
   ·have d2:decide ((1:Int)<(b.length:Int))=false:=aOR (by omega)
    rw[if_neg (by omega)]
    simp -implicitDefEqProofs only[gsR,la,d1,lb,d2];rw[K8];exact fin a b av bv hb0 ha10 hb10 hav hbv ..
  ·have d1:decide ((1:Int)<(a.length:Int))=false:=aOR (by omega)
   rw[if_neg (by omega)]
   simp -implicitDefEqProofs only[gsR,la,d1];rw[K8];exact fin a b av bv hb0 ha10 hb10 hav hbv ..
theorem aHR {tv:Value}{t:List Int}(ht:Is H tv t)(hr:iH t=true){v w:Int}(hv:0<=v/\v<=t.length)(hw:0<=w/\w<=t.length)(hm:200<m)(hm2:m<=72057594037927936):
  ∃H' u,lvl prog cD m (.func 161) [tv,.int .i64 v,.int .i64 w] H=some (u,H')/\Ext H H'/\Iw H' u (oV t v w)/\New H u:=by
 have h5:t.length<=5:=by
  unfold iH at hr;rw[aOe] at hr;have:=of_decide_eq_true hr.2;omega
 have g1:=Ww ht (m:=m-1) (by omega) (by omega)
 rw[hr] at g1;have hlen:=ht.kC;have d1:decide (v<0)=false:=aOR (by omega)
 have d2:decide ((t.length:Int)<v)=false:=aOR (by omega)
 have d3:decide (w<0)=false:=aOR (by omega)
 have d4:decide ((t.length:Int)<w)=false:=aOR (by omega)
 obtain⟨H1,a,g2,x1,qa,_⟩:=Wx ht hr hv (m:=m-1) (by omega)
 obtain⟨H2,b,g3,x2,qb,_⟩:=Wx (ht.ext x1) hr hw (m:=m-1) (by omega)
 have la:=L7 t v.toNat v;have lb:=L7 t w.toNat w;have e:oV t v w=E6 (Bp (upT t v).length (upT t v) (upT t w)):=by unfold oV;rw[if_pos ⟨hr,hv.1,hv.2,hw.1,hw.2⟩]
 refine iP (iC rfl rfl) (by omega) ?_
 rw[aGJ];simp -implicitDefEqProofs only[gsR,g1,hlen,d1,d2,d3,d4,g2,g3];rw[e];have hla:(upT t v).length=(upL t v.toNat v).length:=rfl;have hlb:(upT t w).length=(upL t w.toNat w).length:=rfl;exact Exists.imp (λH' h=>Exists.imp (λu h=>⟨h.1,(x1.tr x2).tr h.2.1,h.2.2.1,λc hc=>aOm (x1.tr x2).1 (h.2.2.2 c hc)⟩) h) (aHS (m:=m-1) (by omega) (upT t v).length (m-1) _ _ a b (aOb _) (by omega) (by omega) (by omega) (by omega) (by omega) (qa.rs.ext x2) qb.rs ..)
end
def tR:Nat->List (List Int)
 |0=>[[]]
 |k+1=>(tR k).flatMap λt=>(List.range (k+1)).map λx:Nat=>t++[(x:Int)]
theorem aH0 {t:List Int}{x:Int}(h:iH (t++[x])=true):iH t=true/\0<=x/\x<=t.length:=by
 have hx:=Wv h (i:=t.length) (x:=x) (by simp)
 refine⟨?_,hx.1,hx.2.1⟩;unfold iH at h⊢;rw[aOe,aOM] at h⊢;refine⟨λj hj=> ?_,?_⟩
 ·have hjl:=aOL.mp hj
  have:=h.1 j (aOL.mpr (by simp;omega))
  rw[aOa,aN9 hjl] at this;rw[aOa];exact this
 ·have h2:=of_decide_eq_true h.2
  simp at h2;exact aOQ (by omega)
theorem Wy: ∀(k:Nat)(t:List Int),t.length=k->iH t=true->t∈tR k
 |0,t,hl,_=>by
  rw[aOo.mp hl];simp[tR]
 |k+1,t,hl,h=>by
  obtain⟨s,x,rfl⟩: ∃s x,t=s++[x]:=by
   refine⟨t.dropLast,t.getLast (λhh=>by rw[hh] at hl;simp at hl),?_⟩
   exact(List.dropLast_concat_getLast _).symm
  obtain⟨h1,h2,h3⟩:=aH0 h;have hsl:s.length=k:=by simpa using hl
  unfold tR;rw[List.mem_flatMap];refine⟨s,Wy k s hsl h1,aOK.mpr ⟨x.toNat,aOL.mpr (by omega),?_⟩⟩
  rw[show((x.toNat:Nat):Int)=x by omega]
def yP (t:List Int):PlanD:=cpP (t.length+1) (tQ t) (nJ t)
def wR (t:List Int):Bool:=lP (yP t)&&(decide (mP (yP t)=0)&&(List.range (t.length+1)).all λv=>(List.range (t.length+1)).all λw=>decide (uY (yP t) v w=oV t v w)&&(decide (v=w)||decide (2<=(oV t v w).length)))
theorem aHV:(tR 1).all wR=true:=by decide+kernel
theorem aHW:(tR 2).all wR=true:=by decide+kernel
theorem aHX:(tR 3).all wR=true:=by decide+kernel
theorem aHY:(tR 4).all wR=true:=by decide+kernel
theorem aHZ:(tR 5).all wR=true:=by decide+kernel
theorem aH9 {t:List Int}(hr:iH t=true)(h1:1<=t.length):wR t=true:=by
 have h5:t.length<=5:=by
  unfold iH at hr;rw[aOe] at hr;have:=of_decide_eq_true hr.2;omega
 have hm:=Wy t.length t rfl hr;have hc:t.length=1∨t.length=2∨t.length=3∨t.length=4∨t.length=5:=by omega
 rcases hc with h|h|h|h|h<;>rw[h] at hm
 ·exact aOM.mp aHV t hm
 ·exact aOM.mp aHW t hm
 ·exact aOM.mp aHX t hm
 ·exact aOM.mp aHY t hm
 ·exact aOM.mp aHZ t hm
def E8 (t:List Int)(v:Nat):List Int:=(List.range (t.length+1)).map λw:Nat=>if v=w then(v:Int) else(oV t v w).getD 1 0
structure TG (t:List Int):Prop where
 ok:lP (yP t)=true
 er:mP (yP t)=0
 pa: ∀v w:Nat,v<=t.length->w<=t.length->uY (yP t) v w=oV t v w
 l2: ∀v w:Nat,v<=t.length->w<=t.length->v≠w->2<=(oV t v w).length
theorem Wz {t:List Int}(hr:iH t=true)(h1:1<=t.length):TG t:=by
 have h:=aH9 hr h1;unfold wR at h;simp only[aOe,decide_eq_true_eq,aOM,aOL,Bool.or_eq_true] at h;obtain⟨h1,h2,h3⟩:=h
 exact⟨h1,h2,λv w hv hw=>(h3 v (by omega) w (by omega)).1,λv w hv hw hne=>((h3 v (by omega) w (by omega)).2).resolve_left hne⟩
theorem aH8 {p:PlanD}{t:List Int}(hp:lP p=true)(hg:TG t):lP (qX p t)=true:=by
 have h:=hg.ok;unfold lP uU wN uW at*;simp only[aOe] at*
 exact⟨⟨h.1.1,hp.1.2⟩,h.2.1,hp.2.2.1,hp.2.2.2.1,h.2.2.2.2⟩
theorem aH4 {p:PlanD}{t:List Int}(hp:lP p=true)(hg:TG t):mP (qX p t)=0/\ ∀v w:Nat,v<=t.length->w<=t.length->uY (qX p t) v w=oV t v w:=by
 obtain⟨_,c2,_,c4⟩:=aHN (aH8 hp hg) hg.ok rfl rfl rfl
 exact⟨by rw[c4];exact hg.er,λv w hv hw=>by rw[c2];exact hg.pa v w hv hw⟩
section
variable {H : aC} {m : Nat} {p : PlanD} {ev wv nv : Value}
theorem aH2 {α:Type}{el:α->List Value}{e e':TypeId}{sz by':Nat}(hsz: ∀x,(el x).length=sz)(hall: ∀x,dR (el x)=true)(h0:0<sz){H0:aC}{v w:Value}{xs ys:List α}{b j:Nat}{cs:List Value}
  (hb:H[b]? =some (.cells cs 40 .fix))(hj:j<cs.length)(hv:Rw el e sz H v xs)(hw:Rs el e' H w ys)(hn:New H0 v)(hbn:H0.length<=b)(he:Ext H0 H)(hr:jQ (xs.length+ys.length) by'=true):
  ∃v' H1 H',app e sz by' v w H=some (v',H1)/\stN 1 (.pointer (some ⟨b,j,none⟩)) v' H1=some (undef,H')/\
   Rw el e sz H' v' (xs++ys)/\New H0 v'/\Ext H0 H'/\H'[b]? =some (.cells (cs.set j v') 40 .fix)/\Ee b e H H':=by
 obtain⟨v',H1,g1,g2,g3,g4,g5⟩:=hv.wH hsz hall h0 (by':=by') hw hr;have hbl:=(aN6.mp hb).1;have hl:=he.1;have hnh: ¬cK v b:=λhh=>by
  obtain⟨c',hc'⟩:=hv.blk hh;rw[hb] at hc';simp at hc'
 have hb1:H1[b]? =some (.cells cs 40 .fix):=by rw[g4 b hbl hnh,hb]
 obtain⟨s1,s2⟩:=g2.yH;have hb1l:=(aN6.mp hb1).1;refine⟨v',H1,H1.set b (.cells (cs.set j v') 40 .fix),g1,?_,g2.gF λc hc=> ?_,λc hc=> ?_,⟨by rw[List.length_set];omega,λc hc _=> ?_⟩,aOc hb1l,λc y hcb hA hy=> ?_⟩
 ·rw[mX 1 _ _ _ (by rw[s1];rfl),hb1,s1,oA _ _ _ _ _ _ (by decide) (by simp;omega) s2]
  rfl
 ·refine aN7 λhh=> ?_
  subst hh;obtain⟨c',hc'⟩:=g2.blk hc;rw[hb1] at hc';simp at hc'
 ·rcases g5 c hc with h|⟨h,_⟩
  ·exact hn c h
  ·omega
 ·rw[aN7 (by omega),g4 c (by omega) (λh=>by have:=hn c h;omega),he.2 c hc id]
 ·have hch: ¬cK v c:=λhh=>by
   obtain⟨c',hc'⟩:=hv.blk hh;rw[hy] at hc';cases hc';exact hA _ rfl
  rw[aN7 (Ne.symm hcb),g4 c (aN6.mp hy).1 hch,hy]
structure LA (H0 H1:aC)(pb rb:Nat)(q:PlanD)(ev wv nv:Value):Prop where
 ext:Ext H0 H1
 blk:H1[pb]? =some (plB q ev wv nv)
 res:H1[rb]? =some plZ
 ne:rb≠pb
 lp:H0.length<=pb
 lr:H0.length<=rb
theorem LA.aH1 {H0 H1 H2:aC}{pb rb:Nat}{q:PlanD}(h:LA H0 H1 pb rb q ev wv nv)(he:Ext H1 H2):LA H0 H2 pb rb q ev wv nv:=⟨h.ext.tr he,fN h.blk he,fN h.res he,h.ne,h.lp,h.lr⟩
theorem L8 {H0 H1:aC}{b rb:Nat}{e:TypeId}(hk:Ee b e H0 H1)(hr:H0[rb]? =some plZ)(hne:rb≠b):H1[rb]? =some plZ:=hk rb _ hne (λcs hh=>by simp[plZ] at hh) hr
def E7 (H0:aC)(q:PlanD)(H':aC)(r:Value):Prop:= ∃ev wv nv,r= .tuple #[plV q ev wv nv,.int .i64 0]/\Ext H0 H'/\PV H' q ev wv nv
variable {t : List Int} {tv : Value} {H0 : aC} {pb rb : Nat}
theorem aH7 {Hb:aC}{v:Nat}(hr:iH t=true)(hg:TG t)(ht:Is Hb tv t)(hv:v<t.length+1)(hm:400<m)(hm2:m<=72057594037927936){K:Ex->K (Value×aC)}{Q:aC->Value->Prop}
  (hK: ∀(H':aC)(u:Value),Ext Hb H'->Iw H' u ((List.range (t.length+1)).map λw=>if v=w then(v:Int) else(oV t v w).getD 1 0)->New Hb u-> ∀(x0 x3 x5 x7 x8 bM aR aN aM aP aZ bG aQ bC bJ bL bI bE aS aT aU aV aW aX aY bA bB bN bO bP bQ bR bS bT bU bV bY cE cG cH cL cQ cU cV cM cN cO cR cY cW cX cZ dD dH dE dI dP dQ dV dW dX dY dZ eA eC eJ eK eM eN eO eP eQ eS eT eU eV eW:Value),∃H2 r,Lk (lvl prog cD m) (aI m) K x0 tv (.pointer (some ⟨pb,0,none⟩)) x3 (.pointer (some ⟨rb,0,none⟩)) x5 (.int .i64 (t.length+1:Nat)) x7 x8 (.int .i64 (v:Nat)) u bM aR aN aM aP aZ bG aQ bC bJ bL bI bE aS aT aU aV aW aX aY bA bB bN bO bP bQ bR bS bT bU bV bY cE cG cH cL cQ cU cV cM cN cO cR cY cW cX cZ dD dH dE dI dP dQ dV dW dX dY dZ eA eC eJ eK eM eN eO eP eQ eS eT eU eV eW H'=some (r,H2)/\Q H2 r):
  ∀(k0 w k:Nat)(H1:aC)(acc:Value),t.length+1-w=k0->w<=t.length+1->k0<k->Ext Hb H1->Iw H1 acc ((List.range w).map λw=>if v=w then(v:Int) else(oV t v w).getD 1 0)->New Hb acc-> ∀(x0 x3 x5 x7 x8 aR aN aM aP aZ bG aQ bC bJ bL bI bE aS aT aU aV aW aX aY bA bB bN bO bP bQ bR bS bT bU bV bY cE cG cH cL cQ cU cV cM cN cO cR cY cW cX cZ dD dH dE dI dP dQ dV dW dX dY dZ eA eC eJ eK eM eN eO eP eQ eS eT eU eV eW:Value),
  ∃H' r,aI k (aK prog (lvl prog cD m) (aI m) Lj) (Ln (lvl prog cD m) (aI m) K) [x0,tv,(.pointer (some ⟨pb,0,none⟩)),x3,(.pointer (some ⟨rb,0,none⟩)),x5,(.int .i64 (t.length+1:Nat)),x7,x8,(.int .i64 (v:Nat)),acc,(.int .i64 (w:Nat)),aR,aN,aM,aP,aZ,bG,aQ,bC,bJ,bL,bI,bE,aS,aT,aU,aV,aW,aX,aY,bA,bB,bN,bO,bP,bQ,bR,bS,bT,bU,bV,bY,cE,cG,cH,cL,cQ,cU,cV,cM,cN,cO,cR,cY,cW,cX,cZ,dD,dH,dE,dI,dP,dQ,dV,dW,dX,dY,dZ,eA,eC,eJ,eK,eM,eN,eO,eP,eQ,eS,eT,eU,eV,eW] H1=some (r,H')/\Q H' r:=by
 intro k0;have h5:t.length<=5:=by
  unfold iH at hr;rw[aOe] at hr;have:=of_decide_eq_true hr.2;omega
 induction k0 with
 |zero=>
  intro w k H1 acc hq hi hk he ha hnew;intros;obtain⟨k,rfl⟩:=aB k (by omega)
  obtain rfl:w=t.length+1:=by omega
  have e:decide (((t.length+1:Nat):Int)<((t.length+1:Nat):Int))=false:=by simp
  rw[eD,V1];simp -implicitDefEqProofs only[gsR,e];rw[aGX];exact hK H1 acc he ha hnew ..
 |succ k0 ih=>
  intro w k H1 acc hq hi hk he ha hnew;intros;obtain⟨k,rfl⟩:=aB k (by omega)
  have e:decide ((w:Int)<((t.length+1:Nat):Int))=true:=aOQ (by omega)
  have e3:=aA (i:=w) (by omega)
  have hrow: ∀x:Int,(if v=w then(v:Int) else(oV t v w).getD 1 0)=x->((List.range (w+1)).map λw=>if v=w then(v:Int) else(oV t v w).getD 1 0)=((List.range w).map λw=>if v=w then(v:Int) else(oV t v w).getD 1 0)++[x]:=λx hx=>by
   rw[aOG,List.map_append];simp only[aOC,List.map_nil];rw[hx]
  rw[eD,V1];by_cases hvw:v=w
  ·have d:((v:Int)!=(w:Int))=false:=by simp[hvw]
   obtain⟨acc2,H2,t1,t2,t3,t4⟩:=ha.rP (by':=8) iQ o7 (by decide) (v:Int) hnew he (kH (n:=1000) (by decide) (by simp;omega))
   simp -implicitDefEqProofs only[gsR,e,d,oT,t1,cI,e3];exact ih (w+1) k H2 acc2 (by omega) (by omega) (by omega) t4 (by rw[hrow v (if_pos hvw)];exact t2) t3 ..
  ·have d:((v:Int)!=(w:Int))=true:=by simp;omega
   obtain⟨H2,u,g1,x2,q2,_⟩:=aHR (ht.ext he) hr (v:=v) (w:=w) (by omega) (by omega) (m:=m) (by omega) (by omega)
   obtain⟨x,hx⟩: ∃x,(oV t v w)[1]? =some x:=by
    have:=hg.l2 v w (by omega) (by omega) hvw
    exact⟨_,aN8 (by omega)⟩
   obtain⟨c,o,k1,_,k3⟩:=q2.rs.iS iQ hx .i64;have k1:bH 1 u (.int .i64 1)=some (.pointer (some ⟨c,o,none⟩)):=k1;have k4:ld1 (.pointer (some ⟨c,o,none⟩)) H2=some (.int .i64 x,H2):=(k3 H2 rfl).2.1 0 _ rfl;have ha2:=ha.gF (H':=H2) λb hb=>x2.2 b (ha.iO hb) id
   obtain⟨acc2,H3,t1,t2,t3,t4⟩:=ha2.rP (by':=8) iQ o7 (by decide) x hnew (he.tr x2) (kH (n:=1000) (by decide) (by simp;omega))
   simp -implicitDefEqProofs only[gsR,e,d,g1,k1,k4,oT,t1,cI,e3];exact ih (w+1) k H3 acc2 (by omega) (by omega) (by omega) t4 (by rw[hrow x (by rw[if_neg hvw,u6 hx])];exact t2) t3 ..
theorem aH6 {q:PlanD}{ev1 wv1:Value}(hr:iH t=true)(hg:TG t)(ht:Is H0 tv t)(hm:500<m)(hm2:m<=72057594037927936)(hqe:q.edges=tQ t)(hqw:q.weights.length<=1000):
  ∀(k0 v k:Nat)(H1:aC)(nv1:Value)(us:List SV),t.length+1-v=k0->v<=t.length+1->k0<k->LA H0 H1 pb rb q ev1 wv1 nv1->Ew H1 ev1 q.edges->Iw H1 wv1 q.weights->Rw sC 37 1 H1 nv1 us->New H0 nv1->WR H1 us ((List.range v).map (E8 t))-> ∀(x0 x3 x5 x7 x8 bK bM aR aN aM aP aZ bG aQ bC bJ bL bI bE aS aT aU aV aW aX aY bA bB bN bO bP bQ bR bS bT bU bV bY cE cG cH cL cQ cU cV cM cN cO cR cY cW cX cZ dD dH dE dI dP dQ dV dW dX dY dZ eA eC eJ eK eM eN eO eP eQ eS eT eU eV eW:Value),
  ∃H' r,aI k (aK prog (lvl prog cD m) (aI m) Li) (Lm (lvl prog cD m) (aI m)) [x0,tv,(.pointer (some ⟨pb,0,none⟩)),x3,(.pointer (some ⟨rb,0,none⟩)),x5,(.int .i64 (t.length+1:Nat)),x7,x8,(.int .i64 (v:Nat)),bK,bM,aR,aN,aM,aP,aZ,bG,aQ,bC,bJ,bL,bI,bE,aS,aT,aU,aV,aW,aX,aY,bA,bB,bN,bO,bP,bQ,bR,bS,bT,bU,bV,bY,cE,cG,cH,cL,cQ,cU,cV,cM,cN,cO,cR,cY,cW,cX,cZ,dD,dH,dE,dI,dP,dQ,dV,dW,dX,dY,dZ,eA,eC,eJ,eK,eM,eN,eO,eP,eQ,eS,eT,eU,eV,eW] H1=some (r,H')/\E7 H0 {q with next:=nJ t} H' r:=by
 intro k0;have h5:t.length<=5:=by
  unfold iH at hr;rw[aOe] at hr;have:=of_decide_eq_true hr.2;omega
 induction k0 with
 |zero=>
  intro v k H1 nv1 us hq hi hk hL he1 hw1 hn1 hnew hwr;intros;obtain⟨k,rfl⟩:=aB k (by omega)
  obtain rfl:v=t.length+1:=by omega
  have e:decide (((t.length+1:Nat):Int)<((t.length+1:Nat):Int))=false:=by simp
  have hrows:Rows H1 nv1 (nJ t):=hwr.Lw hn1.rs;have hb':H1[pb]? =some (plB {q with next:=nJ t} ev1 wv1 nv1):=hL.blk
  have l11:=kP hb';have hqel:q.edges.length<=5:=by rw[hqe];simp[tQ];exact h5
  have hpv:PV H1 {q with next:=nJ t} ev1 wv1 nv1:=⟨he1.rs,hw1.rs,hrows,by show q.edges.length<=_;omega,by show q.weights.length<=_;omega,by show(nJ t).length<=_;unfold nJ;rw[aHM];omega⟩
  have hrl:=(aN6.mp hL.res).1;have hall:=hpv.K3;have st:stN 11 (.pointer (some ⟨rb,0,none⟩)) (plV {q with next:=nJ t} ev1 wv1 nv1) H1=some (undef,H1.set rb (plB {q with next:=nJ t} ev1 wv1 nv1)):=by
   have e1:(plV {q with next:=nJ t} ev1 wv1 nv1).cells.toList=plC {q with next:=nJ t} ev1 wv1 nv1:=rfl
   rw[mX 11 _ _ _ rfl,hL.res,e1];unfold plZ;exact oA _ _ _ _ _ _ (by decide) (by simp[plC]) hall
  have l2:=kP (aOc (a:=plB {q with next:=nJ t} ev1 wv1 nv1) hrl)
  have kp: ∀(b:Nat)(cs:List Value)(e:TypeId),H1[b]? =some (.cells cs e .row)->(H1.set rb (plB {q with next:=nJ t} ev1 wv1 nv1))[b]? =H1[b]? :=λb cs e hb=>by
   refine aN7 λhh=> ?_
   subst hh;rw[hL.res] at hb;simp[plZ] at hb
  have x2:Ext H0 (H1.set rb (plB {q with next:=nJ t} ev1 wv1 nv1)):=tP hL.ext hL.lr
  have hpv2:PV (H1.set rb (plB {q with next:=nJ t} ev1 wv1 nv1)) {q with next:=nJ t} ev1 wv1 nv1:=by
   refine⟨(he1.gF λb hb=> ?_).rs,(hw1.gF λb hb=> ?_).rs,(hwr.Bh λb cs hb=>kp b cs _ hb).Lw (hn1.gF λb hb=> ?_).rs,hpv.be,hpv.bw,hpv.bn⟩
   ·obtain⟨cs,hc⟩:=he1.blk hb
    exact kp b cs _ hc
   ·obtain⟨cs,hc⟩:=hw1.blk hb
    exact kp b cs _ hc
   ·obtain⟨cs,hc⟩:=hn1.blk hb
    exact kp b cs _ hc
  rw[eD,V0];simp -implicitDefEqProofs only[gsR,e];rw[aGW];simp -implicitDefEqProofs only[gsR,l11,st,l2]
  exact⟨_,_,rfl,ev1,wv1,nv1,rfl,x2,hpv2⟩
 |succ k0 ih=>
  intro v k H1 nv1 us hq hi hk hL he1 hw1 hn1 hnew hwr;intros;obtain⟨k,rfl⟩:=aB k (by omega)
  have e:decide ((v:Int)<((t.length+1:Nat):Int))=true:=aOQ (by omega)
  have e3:=aA (i:=v) (by omega)
  rw[eD,V0];simp -implicitDefEqProofs only[gsR,e];refine aH7 (pb:=pb) (rb:=rb) (Q:=E7 H0 {q with next:=nJ t}) hr hg (ht.ext hL.ext) (v:=v) (by omega) (by omega) hm2 (λH2 u x2 hu hun=> ?_) (t.length+1) 0 m H1 _ (by omega) (by omega) (by omega) (Fr.nF _ _) (Rw.lE (el:=inC)) (New.nG _) ..
  intros;have hL2:=hL.aH1 x2;have l10:=eG hL2.blk 10 _ rfl;have hn2:Rw sC 37 1 H2 nv1 us:=hn1.gF λb hb=>x2.2 b (hn1.iO hb) id
  have hwr2:=hwr.Bh (H':=H2) λb cs hb=>x2.2 b (aN6.mp hb).1 id
  have he2:=he1.gF (H':=H2) λb hb=>x2.2 b (he1.iO hb) id
  have hw2:=hw1.gF (H':=H2) λb hb=>x2.2 b (hw1.iO hb) id
  have hul:us.length<=10:=by have:=hwr.len;simp at this;omega
  obtain⟨nv2,H3,H4,r1,r2,r3,r4,r5,r6,r7⟩:=Bd (by':=24) (H0:=H0) (b:=pb) (j:=10) Kv Ku (by decide) (qC hu) hL2.blk (by show 10<11;omega) hn2 hnew hL.lp hL2.ext (kH (n:=1000) (by decide) (by omega))
  have bl:dJ 37 1 1 [.slice none 0 0] [(0,u)] H2=some (.slice (some ⟨H2.length,0,none⟩) 1 1,H2++[.cells (sC (qC hu)) 37 .row]):=by
   have h0:u.cells= #[u]:=(qC hu).2.2;unfold dJ;have:Instr.fill (λi=>some (i*1,1)) (List.replicate 1 [Value.slice none 0 0]).flatten.toArray [(0,u)]=some #[u]:=by
    simp[Instr.fill,h0]
   rw[this];rfl
  have hL4:LA H0 H4 pb rb q ev1 wv1 nv2:=⟨r5,r6,L8 r7 hL2.res hL.ne,hL.ne,hL.lp,hL.lr⟩;have w4:=(hwr2.V8 (s:=qC hu) hu).Bh (H':=H4) λb cs hb=>by
   have hbp:b≠pb:=λhh=>by
    subst hh;rw[hL2.blk] at hb;simp[plB] at hb
   rw[hb];exact r7 b _ hbp (λcs' hh=>by cases hh) hb
  unfold Lk;simp -implicitDefEqProofs only[gsR,l10,bl,r1,r2,cI,e3];refine ih (v+1) k H4 nv2 _ (by omega) (by omega) (by omega) hL4 (Rw.yN he2 r7 hL2.blk (by decide)) (Rw.yN hw2 r7 hL2.blk (by decide)) r3 r4 ?_ ..
  have hrs:(List.range (v+1)).map (E8 t)=(List.range v).map (E8 t)++[E8 t v]:=by rw[aOG,List.map_append];rfl
  exact hrs▸w4
theorem aH5 {q:PlanD}{ws:List Int}{nv0:Value}(hr:iH t=true)(hg:TG t)(ht:Is H0 tv t)(hw0:Is H0 wv ws)(hwl:ws.length<=1000)(hm:500<m)(hm2:m<=72057594037927936)(hqe:q.edges=tQ t)(hqw:q.weights=ws):
  ∀(k0 v k:Nat)(H1:aC)(ev1:Value),t.length-v=k0->v<=t.length->k0<k->LA H0 H1 pb rb q ev1 wv nv0->Ew H1 ev1 ((List.range v).map λi=>(t.getD i 0,((i+1:Nat):Int)))->New H0 ev1-> ∀(x0 x3 x5 x8 x9 bK bM aR aN aM aP aZ bG aQ bC bJ bL bI bE aS aT aU aV aW aX aY bA bB bN bO bP bQ bR bS bT bU bV bY cE cG cH cL cQ cU cV cM cN cO cR cY cW cX cZ dD dH dE dI dP dQ dV dW dX dY dZ eA eC eJ eK eM eN eO eP eQ eS eT eU eV eW:Value),
  ∃H' r,aI k (aK prog (lvl prog cD m) (aI m) Lh) (Ll (lvl prog cD m) (aI m)) [x0,tv,(.pointer (some ⟨pb,0,none⟩)),x3,(.pointer (some ⟨rb,0,none⟩)),x5,(.int .i64 (t.length+1:Nat)),(.int .i64 (v+1:Nat)),x8,x9,bK,bM,aR,aN,aM,aP,aZ,bG,aQ,bC,bJ,bL,bI,bE,aS,aT,aU,aV,aW,aX,aY,bA,bB,bN,bO,bP,bQ,bR,bS,bT,bU,bV,bY,cE,cG,cH,cL,cQ,cU,cV,cM,cN,cO,cR,cY,cW,cX,cZ,dD,dH,dE,dI,dP,dQ,dV,dW,dX,dY,dZ,eA,eC,eJ,eK,eM,eN,eO,eP,eQ,eS,eT,eU,eV,eW] H1=some (r,H')/\E7 H0 {q with next:=nJ t} H' r:=by
 intro k0;have h5:t.length<=5:=by
  unfold iH at hr;rw[aOe] at hr;have:=of_decide_eq_true hr.2;omega
 induction k0 with
 |zero=>
  intro v k H1 ev1 hq hi hk hL he1 hen;intros;obtain⟨k,rfl⟩:=aB k (by omega)
  obtain rfl:v=t.length:=by omega
  have e:decide (((t.length+1:Nat):Int)<((t.length+1:Nat):Int))=false:=by simp
  have l8:=eG hL.blk 8 _ rfl;obtain⟨wv1,H2,H3,r1,r2,r3,r4,r5,r6,r7⟩:=aH2 (by':=8) (H0:=H0) iQ o7 (by decide) hL.blk (show 8<11 by omega) (Rw.lE (el:=inC) (e:=3) (sz:=1)) (hw0.ext hL.ext) (New.nG _) hL.lp hL.ext (kH (n:=100000) (by decide) (by simp;omega))
  rw[List.nil_append] at r3;have hL3:LA H0 H3 pb rb q ev1 wv1 nv0:=⟨r5,r6,L8 r7 hL.res hL.ne,hL.ne,hL.lp,hL.lr⟩;have he3:=Rw.yN he1 r7 hL.blk (by decide)
  have st:=Ek (q':=q) (ev':=ev1) (wv':=wv1) (nv':= .slice none 0 0) (j:=10) (v:= .slice none 0 0) hL3.blk rfl rfl (by omega) rfl
  obtain⟨H4,hH4⟩: ∃H4,H4=H3.set pb (plB q ev1 wv1 (.slice none 0 0)):=⟨_,rfl⟩;rw[<-hH4] at st;have other: ∀b,b≠pb->H4[b]? =H3[b]? :=λb hb=>by rw[hH4];exact aN7 (Ne.symm hb)
  have nrow: ∀(b:Nat)(cs:List Value)(e:TypeId),H3[b]? =some (.cells cs e .row)->b≠pb:=λb cs e hb hh=>by
   subst hh;rw[hL3.blk] at hb;simp[plB] at hb
  have hL4:LA H0 H4 pb rb q ev1 wv1 (.slice none 0 0):=⟨by rw[hH4];exact tP r5 hL.lp,by rw[hH4];exact aOc (aN6.mp hL3.blk).1,by rw[other rb hL.ne];exact hL3.res,hL.ne,hL.lp,hL.lr⟩
  have he4:Ew H4 ev1 (tQ t):=he3.gF λb hb=>by
   obtain⟨cs,hc⟩:=he3.blk hb;exact other b (nrow b cs _ hc)
  have hw4:Iw H4 wv1 ws:=r3.gF λb hb=>by
   obtain⟨cs,hc⟩:=r3.blk hb;exact other b (nrow b cs _ hc)
  rw[eD,Vz];simp -implicitDefEqProofs only[gsR,e];rw[aGV];simp -implicitDefEqProofs only[gsR,l8,r1,r2,st];exact aH6 hr hg ht hm hm2 hqe (by rw[hqw];omega) (t.length+1) 0 m H4 (.slice none 0 0) [] (by omega) (by omega) (by omega) hL4 (by rw[hqe];exact he4) (by rw[hqw];exact hw4) Rw.lE (New.nG _) ⟨rfl,λj s xs h=>by simp at h⟩ ..
 |succ k0 ih=>
  intro v k H1 ev1 hq hi hk hL he1 hen;intros;obtain⟨k,rfl⟩:=aB k (by omega)
  have e:decide (((v+1:Nat):Int)<((t.length+1:Nat):Int))=true:=aOQ (by omega)
  have e3:IntKind.i64.wrap (((v+1:Nat):Int)+1)=((v+1+1:Nat):Int):=by rw[dM (by omega) (by omega)];omega
  have e4:IntKind.i64.wrap (((v+1:Nat):Int)-1)=((v:Nat):Int):=by rw[dM (by omega) (by omega)];omega
  have l1:=eG hL.blk 1 _ rfl;obtain⟨x,hx⟩: ∃x,t[v]? =some x:=⟨_,aN8 (by omega)⟩
  obtain⟨b,o,g1,_,g3⟩:=(ht.ext hL.ext).iS iQ hx .i64;have g4:ld1 (.pointer (some ⟨b,o,none⟩)) H1=some (.int .i64 x,H1):=(g3 H1 rfl).2.1 0 _ rfl;have be:=bEd x ((v+1:Nat):Int);obtain⟨ev2,H2,H3,r1,r2,r3,r4,r5,r6,r7⟩:=Bd (by':=16) (H0:=H0) (b:=pb) (j:=1) sU Kl (by decide) (x,((v+1:Nat):Int)) hL.blk (by show 1<11;omega) he1 hen hL.lp hL.ext (kH (n:=1000) (by decide) (by simp;omega))
  have hL3:LA H0 H3 pb rb q ev2 wv nv0:=⟨r5,r6,L8 r7 hL.res hL.ne,hL.ne,hL.lp,hL.lr⟩;rw[eD,Vz];simp -implicitDefEqProofs only[gsR,e,l1,iF,e4,g1,g4,be,aGD,r1,r2,cI,e3];refine ih (v+1) k H3 ev2 (by omega) (by omega) (by omega) hL3 ?_ r4 ..
  rw[aOG,List.map_append];simp only[aOC,List.map_nil];rw[u6 hx];exact r3
theorem aH3 (hp:PV H p ev wv nv)(hwl:p.weights.length<=1000)(ht:Is H tv t)(hr:iH t=true)(h1:1<=t.length)(hm:600<m)(hm2:m<=72057594037927936):
  ∃H' r,lvl prog cD m (.func 83) [plV p ev wv nv,tv] H=some (r,H')/\E7 H (qX p t) H' r:=by
 have hg:=Wz hr h1;have h5:t.length<=5:=by
  unfold iH at hr;rw[aOe] at hr;have:=of_decide_eq_true hr.2;omega
 obtain⟨Ha,hHa⟩: ∃Ha,Ha=H++[plB p ev wv nv]:=⟨_,rfl⟩;have xa:Ext H Ha:=by rw[hHa];exact Fr.app _ _ _
 have ba:Ha[H.length]? =some (plB p ev wv nv):=by rw[hHa];exact hP _ _
 obtain⟨Hb,hHb⟩: ∃Hb,Hb=Ha++[plZ]:=⟨_,rfl⟩;have xb:Ext Ha Hb:=by rw[hHb];exact Fr.app _ _ _
 have bb:Hb[Ha.length]? =some plZ:=by rw[hHb];exact hP _ _
 have xab:=xa.tr xb;have hra:=Ww (ht.ext xab) (m:=m-1) (by omega) (by omega)
 rw[hr] at hra;have hlen:=(ht.ext xab).kC;have d0:((t.length:Int)==0)=false:=by simp;exact λh=>by rw[h] at h1;simp at h1
 have e1:IntKind.i64.wrap ((t.length:Int)+1)=((t.length+1:Nat):Int):=by rw[dM (by omega) (by omega)];omega
 have bpl:=fN ba xb;have s1:=Ek (q':={p with nodes:=((t.length+1:Nat):Int)}) (ev':=ev) (wv':=wv) (nv':=nv) (j:=0) (v:= .int .i64 (t.length+1:Nat)) bpl rfl rfl (by omega) rfl
 obtain⟨Hc,hHc⟩: ∃Hc,Hc=Hb.set H.length (plB {p with nodes:=((t.length+1:Nat):Int)} ev wv nv):=⟨_,rfl⟩;rw[<-hHc] at s1;have bc:Hc[H.length]? =some (plB {p with nodes:=((t.length+1:Nat):Int)} ev wv nv):=by rw[hHc];exact aOc (aN6.mp bpl).1
 have s2:=Ek (q':=qX p t) (ev':= .slice none 0 0) (wv':=wv) (nv':=nv) (j:=1) (v:= .slice none 0 0) bc rfl rfl (by omega) rfl
 obtain⟨Hd,hHd⟩: ∃Hd,Hd=Hc.set H.length (plB (qX p t) (.slice none 0 0) wv nv):=⟨_,rfl⟩;rw[<-hHd] at s2;have bd:Hd[H.length]? =some (plB (qX p t) (.slice none 0 0) wv nv):=by rw[hHd];exact aOc (aN6.mp bc).1
 have hne:Ha.length≠H.length:=by rw[hHa];simp
 have hL:LA H Hd H.length Ha.length (qX p t) (.slice none 0 0) wv nv:=by
  refine⟨?_,bd,?_,hne,aOb _,xa.1⟩
  ·rw[hHd,hHc];exact tP (tP xab (aOb _)) (aOb _)
  ·rw[hHd,aN7 (Ne.symm hne),hHc,aN7 (Ne.symm hne)]
   exact bb
 refine iP (iC rfl rfl) (by omega) ?_
 rw[aGY];simp -implicitDefEqProofs only[gsR,lG,<-hHa,qW,<-hHb,hra,hlen,d0,cI,e1,s1,s2];have:=aH5 (q:=qX p t) (nv0:=nv) hr hg ht hp.w hwl (m:=m-1) (by omega) (by omega) rfl rfl t.length 0 (m-1) Hd (.slice none 0 0) (by omega) (by omega) (by omega) hL Rw.lE (New.nG _)
 exact this ..
end
end Go.Proofs.YtmimdleeihjdoaaGreatDoor
noncomputable section
namespace Go.Proofs.YtmimdleeihjdoaaGreatDoor
open Go.Proofs.Tryz
open Go.Abs
variable (O:aE)(L:LV)(k:KV)(N P Q R S T U V W X Y Z a b c d e f g i j l m n o p q r s t u v w x y z A B C D E F G H I J zz zy zx zw zv zu zt zs zr zq zp zo zn zm zl zk zj zi zh zg zf ze zd zc zb za yz yy yx yw yv yu yt ys yr yq yp yo yn ym yl yk yj yi yh yg yf ye yd yc yb ya xz xy xx xw xv xu xt xs xr xq xp xo xn xm xl xk xj xi xh xg xf xe xd xc xb xa wz wy wx ww wv wu wt ws wr wq wp wo wn wm wl wk wj wi wh wg wf we wd wc wb wa vz vy vx vw vv vu vt vs vr vq vp vo vn vm vl vk vj vi vh vg vf:Value)(h:aC)
def M2:Code:=b9 [1,1,1,1,0,1,0,0,1,1,0,0,1,1,0,1,0,0] (cC prog 36)
def M6:KV:=(dN 2 (eF prog O L (b9 [1,1,1,1,0,1,0,0,1,1,0,0,1,1,1] (cC prog 36)) (dN 1 (eF prog O L (b9 [1,1,1,1,0,1,0,0,1,1,1] (cC prog 36)) k))))
def M4 (O:aE)(L:LV) (k:KV) (a b c d e f g i j l m n o p q r s t u v w x y z A B C D E F G H I J zz zy zx zw zv zu zt zs zr zq zp zo zn zm zl zk zj zi zh zg zf ze zd zc zb za yz yy yx yw yv yu yt ys yr yq yp yo yn ym yl yk yj yi yh yg yf ye yd yc yb ya xz xy xx xw xv xu xt xs xr xq xp xo xn xm xl xk xj xi xh xg xf xe xd xc xb xa wz wy wx ww wv wu wt ws wr wq wp wo:Value) (h:aC):OV:=ob (M.aD (aO f) h) λaa h=>ob (M.aD (aG 13 aa) h) λab h=>ob (ld1 ab h) λac h=>ifB (true) (ob (ldN 3 j h) λad h=>ifB (true) (ob (dJ 167 3 1 [(.int .i64 0),(.slice none 0 0),(.pointer none)] [(0,ad)] h) λae h=>ob (app 167 3 40 ac ae h) λaf h=>ifB (true) (ob (M.aD (aO f) h) λag h=>ob (M.aD (aG 13 ag) h) λah h=>ob (stN 1 ah af h) λai h=>ifB (true) (ob (M.aD (bin prog .add 3 zk (.int .i64 1)) h) λaj h=>k .normal [a,b,c,d,e,f,g,i,j,l,m,n,o,p,q,r,s,t,u,v,w,x,y,z,A,B,C,D,E,F,G,H,I,J,zz,zy,zx,zw,zv,zu,zt,zs,zr,zq,zp,zo,zn,zm,zl,aj,zj,zi,zh,zg,zf,ze,zd,zc,zb,za,yz,yy,yx,yw,yv,yu,yt,ys,yr,yq,yp,yo,yn,ym,yl,yk,yj,yi,yh,yg,yf,f,f,aa,ab,ac,ad,ae,af,ag,ah,aj,xt,xs,xr,xq,xp,xo,xn,xm,xl,xk,xj,xi,xh,xg,xf,xe,xd,xc,xb,xa,wz,wy,wx,ww,wv,wu,wt,ws,wr,wq,wp,wo] h))))
theorem aI0:M6 O L k (.exit 2) [a,b,c,d,e,f,g,i,j,l,m,n,o,p,q,r,s,t,u,v,w,x,y,z,A,B,C,D,E,F,G,H,I,J,zz,zy,zx,zw,zv,zu,zt,zs,zr,zq,zp,zo,zn,zm,zl,zk,zj,zi,zh,zg,zf,ze,zd,zc,zb,za,yz,yy,yx,yw,yv,yu,yt,ys,yr,yq,yp,yo,yn,ym,yl,yk,yj,yi,yh,yg,yf,ye,yd,yc,yb,ya,xz,xy,xx,xw,xv,xu,xt,xs,xr,xq,xp,xo,xn,xm,xl,xk,xj,xi,xh,xg,xf,xe,xd,xc,xb,xa,wz,wy,wx,ww,wv,wu,wt,ws,wr,wq,wp,wo] h=M4 O L k a b c d e f g i j l m n o p q r s t u v w x y z A B C D E F G H I J zz zy zx zw zv zu zt zs zr zq zp zo zn zm zl zk zj zi zh zg zf ze zd zc zb za yz yy yx yw yv yu yt ys yr yq yp yo yn ym yl yk yj yi yh yg yf ye yd yc yb ya xz xy xx xw xv xu xt xs xr xq xp xo xn xm xl xk xj xi xh xg xf xe xd xc xb xa wz wy wx ww wv wu wt ws wr wq wp wo h:=by kernel_rfl
theorem Xj:aK prog O L M2 k [a,b,c,d,e,f,g,i,j,l,m,n,o,p,q,r,s,t,u,v,w,x,y,z,A,B,C,D,E,F,G,H,I,J,zz,zy,zx,zw,zv,zu,zt,zs,zr,zq,zp,zo,zn,zm,zl,zk,zj,zi,zh,zg,zf,ze,zd,zc,zb,za,yz,yy,yx,yw,yv,yu,yt,ys,yr,yq,yp,yo,yn,ym,yl,yk,yj,yi,yh,yg,yf,ye,yd,yc,yb,ya,xz,xy,xx,xw,xv,xu,xt,xs,xr,xq,xp,xo,xn,xm,xl,xk,xj,xi,xh,xg,xf,xe,xd,xc,xb,xa,wz,wy,wx,ww,wv,wu,wt,ws,wr,wq,wp,wo] h=ob (M.aD (bin prog .lss 3 yz za) h) λaa h74=>aL aa (ob (M.aD (aG 1 j) h74) λab h75=>ob (ld1 ab h75) λac h76=>ifB (true) (ob (M.aD (aG 9 c) h76) λad h77=>ob (ld1 ad h77) λae h78=>ifB (true) (ob (cS prog 23 83 ae h78) λaf h79=>ob (M.aD (aG 3 c) h79) λag h80=>ob (ld1 ag h80) λah h81=>ifB (true) (ob (O (.func 89) [af,ah] h81) λai h82=>ifB (chk ((ld1 ab) h82) ac&&(true)) (ob (M.aD (aG 9 c) h82) λaj h83=>ob (ld1 aj h83) λak h84=>ifB (chk ((ld1 aj) h81) ak&&(true)) (ob (cS prog 23 83 ak h84) λal h85=>ob (M.aD (aG 3 c) h85) λam h86=>ob (ld1 am h86) λan h87=>ifB (chk ((ld1 am) h81) an&&(true)) (ob (O (.func 90) [al,an] h87) λao h88=>ifB (chk ((ld1 ab) h88) ac&&(true)) (ob (M.aD (bld prog 172 [(0,ai),(1,ao)]) h88) λap h89=>ob (dJ 172 2 1 [(.pointer none),(.pointer none)] [(0,ap)] h89) λaq h90=>ob (app 172 2 16 ac aq h90) λar h91=>ifB (true) (ob (M.aD (aG 1 j) h91) λau h92=>ob (stN 1 au ar h92) λav h93=>ifB (true) (ob (M.aD (bin prog .add 3 yz (.int .i64 1)) h93) λaw h94=>k .normal [a,b,c,d,e,f,g,i,j,l,m,n,o,p,q,r,s,t,u,v,w,x,y,z,A,B,C,D,E,F,G,H,I,J,zz,zy,zx,zw,zv,zu,zt,zs,zr,zq,zp,zo,zn,zm,zl,zk,zj,zi,zh,zg,zf,ze,zd,zc,zb,za,aw,aa,ab,ac,ad,ae,af,ag,ah,ai,aj,ak,al,am,an,ao,ap,aq,ar,au,aw,ye,yd,yc,yb,ya,xz,xy,xx,xw,xv,xu,xt,xs,xr,xq,xp,xo,xn,xm,xl,xk,xj,xi,xh,xg,xf,xe,xd,xc,xb,xa,wz,wy,wx,ww,wv,wu,wt,ws,wr,wq,wp,wo] h94)))))))))) (k (.exit 2) [a,b,c,d,e,f,g,i,j,l,m,n,o,p,q,r,s,t,u,v,w,x,y,z,A,B,C,D,E,F,G,H,I,J,zz,zy,zx,zw,zv,zu,zt,zs,zr,zq,zp,zo,zn,zm,zl,zk,zj,zi,zh,zg,zf,ze,zd,zc,zb,za,yz,aa,yx,yw,yv,yu,yt,ys,yr,yq,yp,yo,yn,ym,yl,yk,yj,yi,yh,yg,yf,ye,yd,yc,yb,ya,xz,xy,xx,xw,xv,xu,xt,xs,xr,xq,xp,xo,xn,xm,xl,xk,xj,xi,xh,xg,xf,xe,xd,xc,xb,xa,wz,wy,wx,ww,wv,wu,wt,ws,wr,wq,wp,wo] h74):=by kernel_rfl
def M1:Code:=b9 [1,1,1,1,0,1,0,0] (cC prog 36)
def M5:KV:=(dN 0 (eF prog O L (b9 [1,1,1,1,1] (cC prog 36)) (eX prog Tryz.f36)))
def M3 (O:aE)(L:LV) (a b c d e f g i j l m n o p q r s t u v w x y z A B C D E F G H I J zz zy zx zw zv zu zt zs zr zq zp zo zn zm zl zk zj zi zh zg zf ze zd zc zb za yz yy yx yw yv yu yt ys yr yq yp yo yn ym yl yk yj yi yh yg yf ye yd yc yb ya xz xy xx xw xv xu xt xs xr xq xp xo xn xm xl xk xj xi xh xg xf xe xd xc xb xa wz wy wx ww wv wu wt ws wr wq wp wo:Value) (h:aC):OV:=ob (M.aD (aO f) h) λaa h=>ob (M.aD (aG 13 aa) h) λab h=>ob (ld1 ab h) λac h=>ob (M.aD (bX ac) h) λad h=>ob (O (.func 91) [ad] h) λae h=>ob (M.aD (aO f) h) λaf h=>ob (M.aD (aG 0 af) h) λag h=>ob (stN 1 ag ae h) λah h=>ob (M.aD (aO f) h) λai h=>ob (M.aD (aG 13 ai) h) λaj h=>ob (ld1 aj h) λak h=>ifB (true) (ob (M.aD (bX ak) h) λal h=>ob (M.aD (aG 2 c) h) λam h=>ob (ld1 am h) λan h=>ifB (true) (ob (M.aD (aO f) h) λao h=>ob (M.aD (aG 13 ao) h) λap h=>ob (ld1 ap h) λaq h=>ifB (true) (ob (M.aD (bX aq) h) λar h=>ob (M.aD (aG 2 c) h) λau h=>ob (ld1 au h) λav h=>ifB (true) (ob (M.aD (bin prog .mul 3 ar av) h) λaw h=>ob (M.aD (aG 3 c) h) λax h=>ob (ld1 ax h) λay h=>ifB (true) (ob (M.aD (bin prog .mul 3 aw ay) h) λaz h=>ob (O (.func 92) [al,an,az] h) λba h=>ifB (true) (ob (M.aD (aO f) h) λbb h=>ob (M.aD (aG 15 bb) h) λbc h=>ob (stN 1 bc ba h) λbd h=>ifB (true) (some (aJ [f],h))))))))
theorem aIZ:M5 O L (.exit 0) [a,b,c,d,e,f,g,i,j,l,m,n,o,p,q,r,s,t,u,v,w,x,y,z,A,B,C,D,E,F,G,H,I,J,zz,zy,zx,zw,zv,zu,zt,zs,zr,zq,zp,zo,zn,zm,zl,zk,zj,zi,zh,zg,zf,ze,zd,zc,zb,za,yz,yy,yx,yw,yv,yu,yt,ys,yr,yq,yp,yo,yn,ym,yl,yk,yj,yi,yh,yg,yf,ye,yd,yc,yb,ya,xz,xy,xx,xw,xv,xu,xt,xs,xr,xq,xp,xo,xn,xm,xl,xk,xj,xi,xh,xg,xf,xe,xd,xc,xb,xa,wz,wy,wx,ww,wv,wu,wt,ws,wr,wq,wp,wo] h=M3 O L a b c d e f g i j l m n o p q r s t u v w x y z A B C D E F G H I J zz zy zx zw zv zu zt zs zr zq zp zo zn zm zl zk zj zi zh zg zf ze zd zc zb za yz yy yx yw yv yu yt ys yr yq yp yo yn ym yl yk yj yi yh yg yf ye yd yc yb ya xz xy xx xw xv xu xt xs xr xq xp xo xn xm xl xk xj xi xh xg xf xe xd xc xb xa wz wy wx ww wv wu wt ws wr wq wp wo h:=by kernel_rfl
theorem Xi:aK prog O L M1 k [a,b,c,d,e,f,g,i,j,l,m,n,o,p,q,r,s,t,u,v,w,x,y,z,A,B,C,D,E,F,G,H,I,J,zz,zy,zx,zw,zv,zu,zt,zs,zr,zq,zp,zo,zn,zm,zl,zk,zj,zi,zh,zg,zf,ze,zd,zc,zb,za,yz,yy,yx,yw,yv,yu,yt,ys,yr,yq,yp,yo,yn,ym,yl,yk,yj,yi,yh,yg,yf,ye,yd,yc,yb,ya,xz,xy,xx,xw,xv,xu,xt,xs,xr,xq,xp,xo,xn,xm,xl,xk,xj,xi,xh,xg,xf,xe,xd,xc,xb,xa,wz,wy,wx,ww,wv,wu,wt,ws,wr,wq,wp,wo] h=ob (M.aD (bin prog .lss 3 zk zl) h) λaa h=>aL aa (ob (M.aD (bH 1 zm zk) h) λab h=>ob (ld1 ab h) λac h=>ob (M.aD (aG 8 c) h) λad h=>ob (ld1 ad h) λae h=>ob (O (.func 87) [ae] h) λaf h=>ob (M.aD (bld prog 167 [(0,ac),(2,af)]) h) λag h=>ob (cP 167 [(.int .i64 0),(.slice none 0 0),(.pointer none)] .fix h) λah h=>ob (stN 3 ah ag h) λai h=>ob (M.aD (aG 2 c) h) λaj h=>ob (ld1 aj h) λak h=>L (aK prog O L M2) (M6 O L k) [a,b,c,d,e,f,g,ac,ah,l,m,n,o,p,q,r,s,t,u,v,w,x,y,z,A,B,C,D,E,F,G,H,I,J,zz,zy,zx,zw,zv,zu,zt,zs,zr,zq,zp,zo,zn,zm,zl,zk,aa,ab,ac,ac,ad,ae,af,ag,aj,ak,(.int .i64 0),yy,yx,yw,yv,yu,yt,ys,yr,yq,yp,yo,yn,ym,yl,yk,yj,yi,yh,yg,yf,ye,yd,yc,yb,ya,xz,xy,xx,xw,xv,xu,xt,xs,xr,xq,xp,xo,xn,xm,xl,xk,xj,xi,xh,xg,xf,xe,xd,xc,xb,xa,wz,wy,wx,ww,wv,wu,wt,ws,wr,wq,wp,wo] h) (k (.exit 0) [a,b,c,d,e,f,g,i,j,l,m,n,o,p,q,r,s,t,u,v,w,x,y,z,A,B,C,D,E,F,G,H,I,J,zz,zy,zx,zw,zv,zu,zt,zs,zr,zq,zp,zo,zn,zm,zl,zk,aa,zi,zh,zg,zf,ze,zd,zc,zb,za,yz,yy,yx,yw,yv,yu,yt,ys,yr,yq,yp,yo,yn,ym,yl,yk,yj,yi,yh,yg,yf,ye,yd,yc,yb,ya,xz,xy,xx,xw,xv,xu,xt,xs,xr,xq,xp,xo,xn,xm,xl,xk,xj,xi,xh,xg,xf,xe,xd,xc,xb,xa,wz,wy,wx,ww,wv,wu,wt,ws,wr,wq,wp,wo] h):=by kernel_rfl
theorem Xk:cA prog O L 36 [N,P] h=ob (cP 40 (Value.cells N).toList .fix h) λaa h=>ob (ldN 11 aa h) λab h=>ob (O (.func 85) [ab] h) λac h=>ob (M.aD (bin prog .neq 60 ac (.int .u16 0)) h) λad h=>ob (gd ad false (M.cB P) h) λae h=>ob (gd ad false (M.aD (bin prog .lss 3 ae (.int .i64 0))) h) λaf h=>ob (M.aD (cF ad (.bool true) af) h) λag h=>ob (gd ag false (M.cB P) h) λah h=>ob (gd ag false (M.aD (aG 0 aa)) h) λai h=>ob (gd ag false (ld1 ai) h) λaj h=>ob (gd ag false (M.aD (bin prog .geq 3 ah aj)) h) λak h=>ob (M.aD (cF ag (.bool true) ak) h) λal h=>aL al (some (aJ [(.pointer none)],h)) (ob (ldN 11 aa h) λam h=>ifB (true) (ob (M.aD (aG 2 aa) h) λan h=>ob (ld1 an h) λao h=>ifB (true) (ob (M.aD (aG 4 aa) h) λap h=>ob (ld1 ap h) λaq h=>ifB (true) (ob (O (.func 86) [ao,aq] h) λar h=>ifB (chk ((ldN 11 aa) h) am&&(true)) (ob (M.aD (bld prog 162 [(1,am),(2,P),(4,ar)]) h) λau h=>ob (cP 162 (Value.cells au).toList .fix h) λav h=>ob (M.aD (aO av) h) λaw h=>ob (M.aD (aG 13 aw) h) λax h=>ob (ld1 ax h) λay h=>ifB (true) (ob (M.aD (aG 8 aa) h) λaz h=>ob (ld1 az h) λba h=>ifB (true) (ob (O (.func 87) [ba] h) λbb h=>ifB (chk ((ld1 ax) h) ay&&(true)) (ob (M.aD (bld prog 167 [(0,P),(2,bb)]) h) λbc h=>ob (dJ 167 3 1 [(.int .i64 0),(.slice none 0 0),(.pointer none)] [(0,bc)] h) λbd h=>ob (app 167 3 40 ay bd h) λbe h=>ifB (true) (ob (M.aD (aO av) h) λbf h=>ob (M.aD (aG 13 bf) h) λbg h=>ob (stN 1 bg be h) λbh h=>ifB (true) (ob (ldN 11 aa h) λbi h=>ob (O (.func 88) [bi,P] h) λbj h=>ob (M.aD (bX bj) h) λbk h=>L (aK prog O L M1) (M5 O L) [N,P,aa,undef,(.pointer none),av,undef,undef,undef,ab,ac,ad,ad,ae,af,ag,ag,ah,ai,aj,ak,al,am,P,an,ao,ap,aq,ar,au,av,av,av,aw,ax,ay,P,az,ba,bb,bc,bd,be,bf,bg,bi,P,bj,bk,(.int .i64 0),undef,undef,undef,undef,undef,undef,undef,undef,undef,undef,undef,undef,undef,undef,undef,undef,undef,undef,undef,undef,undef,undef,undef,undef,undef,undef,undef,undef,undef,undef,undef,undef,undef,undef,undef,undef,undef,undef,undef,undef,undef,undef,undef,undef,undef,undef,undef,undef,undef,undef,undef,undef,undef,undef,undef,undef,undef,undef,undef,undef,undef,undef,undef,undef,undef,undef,undef,undef,undef,undef,undef,undef,undef,undef] h)))))))))):=by kernel_rfl
theorem Xl:cA prog O L 38 [N,P] h=ob (cP 31 (Value.cells P).toList .fix h) λaa h=>ob (M.aD (aG 0 aa) h) λab h=>ob (ld1 ab h) λac h=>ifB (true) (ob (M.aD (aO N) h) λad h=>ob (M.aD (aG 12 ad) h) λae h=>ob (ld1 ae h) λaf h=>ifB (true) (ob (M.aD (bin prog .neq 3 ac af) h) λag h=>ob (gd ag false (M.aD (aG 1 aa)) h) λah h=>ob (gd ag false (ld1 ah) h) λai h=>ifB (true) (ob (gd ag false (M.aD (bin prog .lss 3 ai (.int .i64 0))) h) λaj h=>ob (M.aD (cF ag (.bool true) aj) h) λak h=>ob (gd ak false (M.aD (aG 1 aa)) h) λal h=>ob (gd ak false (ld1 al) h) λam h=>ifB (true) (ob (gd ak false (M.cB N) h) λan h=>ob (gd ak false (M.aD (aO an)) h) λao h=>ob (gd ak false (M.aD (aG 1 ao)) h) λap h=>ob (gd ak false (M.aD (aG 0 ap)) h) λaq h=>ob (gd ak false (ld1 aq) h) λar h=>ifB (true) (ob (gd ak false (M.aD (bin prog .geq 3 am ar)) h) λau h=>ob (M.aD (cF ak (.bool true) au) h) λav h=>ob (gd av false (M.aD (aG 1 aa)) h) λaw h=>ob (gd av false (ld1 aw) h) λax h=>ifB (true) (ob (gd av false (M.cB N) h) λay h=>ob (gd av false (M.aD (aO ay)) h) λaz h=>ob (gd av false (M.aD (aG 12 az)) h) λba h=>ob (gd av false (ld1 ba) h) λbb h=>ifB (true) (ob (gd av false (M.aD (bin prog .eql 3 ax bb)) h) λbc h=>ob (M.aD (cF av (.bool true) bc) h) λbd h=>aL bd (some (aJ [(.int .u16 1)],h)) (ob (M.aD (aO N) h) λbe h=>ob (M.aD (aG 14 be) h) λbf h=>ob (ld1 bf h) λbg h=>ifB (true) (ob (ldN 4 aa h) λbh h=>ifB (true) (ob (O (.func 94) [bg,bh] h) λbi h=>ifB (true) (some (aJ [bi],h)))))))))))):=by kernel_rfl
theorem aI1:cA prog O L 39 [N] h=ob (M.aD (aO N) h) λaa h=>ob (M.aD (aG 14 aa) h) λab h=>ob (ld1 ab h) λac h=>some (aJ [ac],h):=by kernel_rfl
theorem aI2:cA prog O L 40 [N,P] h=ob (O (.func 95) [N,P] h) λaa h=>ob (M.aD (un prog .not aa) h) λab h=>aL ab (some (aJ [(.int .i64 0)],h)) (ob (M.aD (aO N) h) λac h=>ob (M.aD (aG 0 ac) h) λad h=>ob (M.aD (qI 3 1 ad P) h) λae h=>ob (ld1 ae h) λaf h=>ob (M.aD (bX af) h) λag h=>some (aJ [ag],h)):=by kernel_rfl
def M7:Code:=b9 [1,1,1,1,0,1,0,0] (cC prog 41)
def M8:KV:=(dN 0 (eF prog O L (b9 [1,1,1,1,1] (cC prog 41)) (eX prog Tryz.f41)))
def Fe (O:aE)(L:LV) (a b c d e f g i j l m n o p q r s t u v w x y z A B C D E F G H I J zz zy zx zw zv zu zt zs zr zq zp zo zn zm zl zk zj zi zh zg zf ze zd zc:Value) (h:aC):OV:=ob (ld1 b h) λaa h=>ob (M.aD (aO aa) h) λab h=>ob (M.aD (aG 16 ab) h) λac h=>ob (ld1 ac h) λad h=>ob (M.aD (bin prog .add 3 ad (.int .i64 1)) h) λae h=>ob (M.aD (aO aa) h) λaf h=>ob (M.aD (aG 16 af) h) λag h=>ob (stN 1 ag ae h) λah h=>ob (ld1 b h) λai h=>ifB (true) (ob (M.aD (aO ai) h) λaj h=>ob (M.aD (aG 16 aj) h) λak h=>ob (ld1 ak h) λal h=>ifB (true) (ob (ld1 b h) λam h=>ifB (true) (ob (M.aD (aO am) h) λan h=>ob (M.aD (aG 1 an) h) λao h=>ob (M.aD (aG 6 ao) h) λap h=>ob (ld1 ap h) λaq h=>ifB (true) (ob (M.aD (bin prog .rem 3 al aq) h) λar h=>ob (M.aD (bin prog .eql 3 ar (.int .i64 0)) h) λau h=>aL au (ob (ld1 b h) λav h=>ob (O (.func 102) [av,e] h) λaw h=>ob (ld1 d h) λax h=>some (aJ [ax],h)) (ob (ld1 d h) λay h=>some (aJ [ay],h))))))
theorem aI3:M8 O L (.exit 0) [a,b,c,d,e,f,g,i,j,l,m,n,o,p,q,r,s,t,u,v,w,x,y,z,A,B,C,D,E,F,G,H,I,J,zz,zy,zx,zw,zv,zu,zt,zs,zr,zq,zp,zo,zn,zm,zl,zk,zj,zi,zh,zg,zf,ze,zd,zc] h=Fe O L a b c d e f g i j l m n o p q r s t u v w x y z A B C D E F G H I J zz zy zx zw zv zu zt zs zr zq zp zo zn zm zl zk zj zi zh zg zf ze zd zc h:=by kernel_rfl
theorem Xm:aK prog O L M7 k [a,b,c,d,e,f,g,i,j,l,m,n,o,p,q,r,s,t,u,v,w,x,y,z,A,B,C,D,E,F,G,H,I,J,zz,zy,zx,zw,zv,zu,zt,zs,zr,zq,zp,zo,zn,zm,zl,zk,zj,zi,zh,zg,zf,ze,zd,zc] h=ob (M.aD (bin prog .lss 3 z y) h) λaa h=>aL aa (ob (M.aD (bH 1 x z) h) λab h=>ob (ld1 ab h) λac h=>ob (M.aD (bin prog .geq 3 ac (.int .i64 0)) h) λad h=>aL ad (ob (ld1 b h) λae h=>ob (O (.func 101) [ae,z,ac,e] h) λaf h=>ob (M.aD (bin prog .add 3 z (.int .i64 1)) h) λag h=>k .normal [a,b,c,d,e,z,ac,i,j,l,m,n,o,p,q,r,s,t,u,v,w,x,y,ag,aa,z,ab,ac,ac,ad,ae,z,ac,e,af,ag,zx,zw,zv,zu,zt,zs,zr,zq,zp,zo,zn,zm,zl,zk,zj,zi,zh,zg,zf,ze,zd,zc] h) (ob (M.aD (bin prog .add 3 z (.int .i64 1)) h) λah h=>k .normal [a,b,c,d,e,z,ac,i,j,l,m,n,o,p,q,r,s,t,u,v,w,x,y,ah,aa,z,ab,ac,ac,ad,G,H,I,J,zz,ah,zx,zw,zv,zu,zt,zs,zr,zq,zp,zo,zn,zm,zl,zk,zj,zi,zh,zg,zf,ze,zd,zc] h)) (k (.exit 0) [a,b,c,d,e,f,g,i,j,l,m,n,o,p,q,r,s,t,u,v,w,x,y,z,aa,B,C,D,E,F,G,H,I,J,zz,zy,zx,zw,zv,zu,zt,zs,zr,zq,zp,zo,zn,zm,zl,zk,zj,zi,zh,zg,zf,ze,zd,zc] h):=by kernel_rfl
theorem aI4:cA prog O L 41 [N] h=ob (cP 58 (Value.cells N).toList .fix h) λaa h0=>ob (cP 68 [(.slice none 0 0)] .fix h0) λab h1=>ob (ld1 aa h1) λac h2=>ob (O (.func 98) [ac] h2) λad h3=>ob (ld1 aa h3) λae h4=>ifB (true) (ob (M.aD (aO ae) h4) λaf h5=>ob (M.aD (aG 0 af) h5) λag h6=>ob (ld1 ag h6) λah h7=>ifB (true) (ob (ld1 aa h7) λai h8=>ifB (true) (ob (O (.func 100) [ai] h8) λaj h9=>ifB (chk ((ld1 ag) h9) ah&&(chk ((ld1 aa) h9) ae&&(true))) (ob (ld1 aa h9) λak h10=>ifB (chk ((ld1 aa) h8) ak&&(true)) (ob (M.aD (aO ak) h10) λal h11=>ob (M.aD (aG 1 al) h11) λam h12=>ob (M.aD (aG 5 am) h12) λan h13=>ob (ld1 an h13) λao h14=>ifB (chk ((ld1 an) h8) ao&&(true)) (ob (O (.func 99) [ah,aj,ao] h14) λap h15=>ifB (true) (ob (M.aD (bX ap) h15) λaq h16=>L (aK prog O L M7) (M8 O L) [N,aa,(.slice none 0 0),ab,(.func (.func 96) #[] #[ab,aa]),undef,undef,(.func (.func 96) #[] #[ab,aa]),ac,ad,ae,af,ag,ah,ai,aj,ak,al,am,an,ao,ap,aq,(.int .i64 0),undef,undef,undef,undef,undef,undef,undef,undef,undef,undef,undef,undef,undef,undef,undef,undef,undef,undef,undef,undef,undef,undef,undef,undef,undef,undef,undef,undef,undef,undef,undef,undef,undef,undef] h16))))))):=by kernel_rfl
theorem Xn:cA prog O L 46 [N,P,Q] h=ob (O (.func 111) [N,P,Q] h) λaa h=>ob (M.aD (ext 0 aa) h) λab h=>ob (M.aD (ext 1 aa) h) λac h=>ob (cP 172 [(.pointer none),(.pointer none)] .fix h) λad h=>ob (stN 2 ad ab h) λae h=>ob (M.aD (aG 0 ad) h) λaf h=>ob (ld1 af h) λag h=>some (aJ [ag],h):=by kernel_rfl
theorem aI5:cA prog O L 47 [N] h=ob (M.aD (aO N) h) λaa h=>ob (M.aD (aG 0 aa) h) λab h=>ob (M.aD (aG 0 ab) h) λac h=>ob (ld1 ac h) λad h=>some (aJ [ad],h):=by kernel_rfl
theorem yQ:cA prog O L 49 [N,P,Q] h=ob (cP 3 (Value.cells P).toList .fix h) λaa h=>ob (M.aD (aO N) h) λab h=>ob (M.aD (aG 13 ab) h) λac h=>ob (ld1 ac h) λad h=>ob (slc prog 3 ad (some (.int .i64 1)) none none h) λae h=>ob (O (.func 114) [ae,(.func (.func 115) #[] #[aa])] h) λaf h=>ob (M.aD (bin prog .add 3 af (.int .i64 1)) h) λag h=>ob (M.aD (bin prog .eql 3 ag (.int .i64 0)) h) λah h=>aL ah (some (aJ [(.int .u16 1)],h)) (ob (O (.func 116) [Q] h) λai h=>ob (M.aD (ext 0 ai) h) λaj h=>ob (M.aD (ext 1 ai) h) λak h=>ob (cP 71 [(.int .u8 0),(.int .u8 0),(.int .u16 0),(.int .u8 0),(.int .u8 0),(.int .u32 0)] .fix h) λal h=>ob (stN 6 al aj h) λam h=>ob (M.aD (bin prog .neq 60 ak (.int .u16 0)) h) λan h=>aL an (some (aJ [ak],h)) (ob (M.aD (aG 1 al) h) λao h=>ob (ld1 ao h) λap h=>ob (cS prog 5 3 ap h) λaq h=>ob (O (.func 111) [N,ag,aq] h) λar h=>ob (M.aD (ext 0 ar) h) λau h=>ob (M.aD (ext 1 ar) h) λav h=>ob (cP 172 [(.pointer none),(.pointer none)] .fix h) λaw h=>ob (stN 2 aw au h) λax h=>ob (M.aD (un prog .not av) h) λay h=>aL ay (some (aJ [(.int .u16 30)],h)) (ob (M.aD (aG 0 al) h) λaz h=>ob (ld1 az h) λba h=>ob (M.aD (bin prog .eql 5 ba (.int .u8 2)) h) λbb h=>aL bb (ob (M.aD (aG 0 aw) h) λbc h=>ob (ld1 bc h) λbd h=>ob (M.aD (aG 2 al) h) λbe h=>ob (ld1 be h) λbf h=>ob (O (.func 117) [bd,bf] h) λbg h=>some (aJ [(.int .u16 0)],h)) (ob (M.aD (aG 0 al) h) λbh h=>ob (ld1 bh h) λbi h=>ob (M.aD (bin prog .eql 5 bi (.int .u8 3)) h) λbj h=>aL bj (ob (M.aD (aG 1 aw) h) λbk h=>ob (ld1 bk h) λbl h=>ob (M.aD (aG 2 al) h) λbm h=>ob (ld1 bm h) λbn h=>ob (O (.func 118) [bl,bn] h) λbo h=>some (aJ [(.int .u16 0)],h)) (ob (ldN 2 aw h) λbp h=>ob (ldN 6 al h) λbq h=>ob (O (.func 119) [N,ag,bp,bq] h) λbr h=>some (aJ [br],h)))))):=by kernel_rfl
theorem aI6:cA prog O L 50 [N] h=ob (M.aD (aO N) h) λaa h=>ob (M.aD (aG 0 aa) h) λab h=>ob (ldN 2 ab h) λac h=>ob (O (.func 120) [ac] h) λad h=>some (aJ [ad],h):=by kernel_rfl
theorem aI7:cA prog O L 52 [N] h=ob (M.aD (aO N) h) λaa h=>ob (M.aD (aG 3 aa) h) λab h=>ob (ld1 ab h) λac h=>ob (O (.func 121) [ac] h) λad h=>some (aJ [ad],h):=by kernel_rfl
theorem aI8:cA prog O L 55 [N,P,Q] h=ob (O (.func 111) [N,P,Q] h) λaa h=>ob (M.aD (ext 0 aa) h) λab h=>ob (M.aD (ext 1 aa) h) λac h=>ob (cP 172 [(.pointer none),(.pointer none)] .fix h) λad h=>ob (stN 2 ad ab h) λae h=>ob (M.aD (aG 1 ad) h) λaf h=>ob (ld1 af h) λag h=>some (aJ [ag],h):=by kernel_rfl
theorem aI9:cA prog O L 86 [N,P] h=ob (M.aD (bin prog .lss 3 N (.int .i64 1)) h) λaa h=>ob (gd aa false (M.cB N) h) λab h=>ob (gd aa false (M.aD (bin prog .gtr 3 ab (.int .i64 3))) h) λac h=>ob (M.aD (cF aa (.bool true) ac) h) λad h=>ob (gd ad false (M.cB P) h) λae h=>ob (gd ad false (M.aD (bin prog .lss 3 ae (.int .i64 1))) h) λaf h=>ob (M.aD (cF ad (.bool true) af) h) λag h=>ob (gd ag false (M.cB P) h) λah h=>ob (gd ag false (M.aD (bin prog .gtr 3 ah (.int .i64 8))) h) λai h=>ob (M.aD (cF ag (.bool true) ai) h) λaj h=>aL aj (some (aJ [(.pointer none)],h)) (ob (M.aD (bld prog 178 [(2,N),(3,P)]) h) λak h=>ob (cP 178 (Value.cells ak).toList .fix h) λal h=>some (aJ [al],h)):=by kernel_rfl
theorem aJa:cA prog O L 89 [N,P] h=ob (M.aD (bin prog .geq 83 N (.int .u64 4611686018427387904)) h) λaa h=>ob (gd aa false (M.cB P) h) λab h=>ob (gd aa false (M.aD (bin prog .lss 3 ab (.int .i64 1))) h) λac h=>ob (M.aD (cF aa (.bool true) ac) h) λad h=>ob (gd ad false (M.cB P) h) λae h=>ob (gd ad false (M.aD (bin prog .gtr 3 ae (.int .i64 8))) h) λaf h=>ob (M.aD (cF ad (.bool true) af) h) λag h=>aL ag (some (aJ [(.pointer none)],h)) (ob (cS prog 3 83 P h) λah h=>ob (M.aD (bin prog .add 83 N ah) h) λai h=>ob (M.aD (bld prog 202 [(0,N),(1,ai)]) h) λaj h=>ob (M.aD (bld prog 204 [(0,aj)]) h) λak h=>ob (cP 204 (Value.cells ak).toList .fix h) λal h=>some (aJ [al],h)):=by kernel_rfl
theorem aJb:cA prog O L 90 [N,P] h=ob (M.aD (bin prog .geq 83 N (.int .u64 4611686018427387904)) h) λaa h=>ob (gd aa false (M.cB P) h) λab h=>ob (gd aa false (M.aD (bin prog .lss 3 ab (.int .i64 1))) h) λac h=>ob (M.aD (cF aa (.bool true) ac) h) λad h=>ob (gd ad false (M.cB P) h) λae h=>ob (gd ad false (M.aD (bin prog .gtr 3 ae (.int .i64 8))) h) λaf h=>ob (M.aD (cF ad (.bool true) af) h) λag h=>aL ag (some (aJ [(.pointer none)],h)) (ob (M.aD (bld prog 225 [(0,N),(2,P)]) h) λah h=>ob (cP 225 (Value.cells ah).toList .fix h) λai h=>some (aJ [ai],h)):=by kernel_rfl
theorem aJc:cA prog O L 91 [N] h=ob (M.aD (bin prog .lss 3 N (.int .i64 1)) h) λaa h=>ob (gd aa false (M.cB N) h) λab h=>ob (gd aa false (M.aD (bin prog .gtr 3 ab (.int .i64 16))) h) λac h=>ob (M.aD (cF aa (.bool true) ac) h) λad h=>aL ad (some (aJ [(.pointer none)],h)) (ob (lC 3 1 8 [(.int .i64 0)] N N h) λae h=>ob (lC 3 1 8 [(.int .i64 0)] N N h) λaf h=>ob (M.aD (bld prog 269 [(0,ae),(1,af)]) h) λag h=>ob (cP 269 (Value.cells ag).toList .fix h) λah h=>some (aJ [ah],h)):=by kernel_rfl
theorem aJd:cA prog O L 93 [N] h=ob (M.aD (aO N) h) λaa h=>ob (M.aD (aG 15 aa) h) λab h=>ob (ld1 ab h) λac h=>some (aJ [ac],h):=by kernel_rfl
theorem M9:cA prog O L 94 [N,P] h=ob (cP 31 (Value.cells P).toList .fix h) λaa h=>ob (M.aD (aG 2 aa) h) λab h=>ob (ld1 ab h) λac h=>ob (O (.func 95) [N,ac] h) λad h=>ob (M.aD (un prog .not ad) h) λae h=>aL ae (some (aJ [(.int .u16 1)],h)) (ob (M.aD (aG 2 aa) h) λaf h=>ob (ld1 af h) λag h=>ifB (true) (ob (M.aD (aO N) h) λah h=>ob (M.aD (aG 0 ah) h) λai h=>ob (M.aD (qI 3 1 ai ag) h) λaj h=>ob (ld1 aj h) λak h=>ifB (true) (ob (M.aD (bX ak) h) λal h=>ob (M.aD (aO N) h) λam h=>ob (M.aD (aG 5 am) h) λan h=>ob (ld1 an h) λao h=>ifB (true) (ob (M.aD (bin prog .eql 3 al ao) h) λap h=>aL ap (some (aJ [(.int .u16 150)],h)) (ob (M.aD (aG 2 aa) h) λaq h=>ob (ld1 aq h) λar h=>ifB (true) (ob (M.aD (aG 2 aa) h) λau h=>ob (ld1 au h) λav h=>ifB (true) (ob (M.aD (aO N) h) λaw h=>ob (M.aD (aG 0 aw) h) λax h=>ob (M.aD (qI 3 1 ax av) h) λay h=>ob (ld1 ay h) λaz h=>ifB (true) (ob (ldN 4 aa h) λba h=>ifB (true) (ob (dJ 31 4 1 [(.int .i64 0),(.int .i64 0),(.int .i64 0),(.int .u32 0)] [(0,ba)] h) λbb h=>ob (app 31 4 32 az bb h) λbc h=>ifB (chk ((ld1 aq) h) ar&&(true)) (ob (M.aD (aO N) h) λbd h=>ob (M.aD (aG 0 bd) h) λbe h=>ob (M.aD (qI 3 1 be ar) h) λbf h=>ob (stN 1 bf bc h) λbg h=>ifB (true) (some (aJ [(.int .u16 0)],h)))))))))))):=by kernel_rfl
theorem aJe:cA prog O L 95 [N,P] h=ob (M.aD (bin prog .geq 3 P (.int .i64 0)) h) λaa h=>ob (gd aa true (M.cB P) h) λab h=>ob (gd aa true (M.cB N) h) λac h=>ob (gd aa true (M.aD (aO ac)) h) λad h=>ob (gd aa true (M.aD (aG 4 ad)) h) λae h=>ob (gd aa true (ld1 ae) h) λaf h=>ob (gd aa true (M.aD (bin prog .lss 3 ab af)) h) λag h=>ob (M.aD (cF aa ag (.bool false)) h) λah h=>some (aJ [ah],h):=by kernel_rfl
theorem aJf:cA prog O L 96 [N,P,Q,R] h=ob (cP 71 (Value.cells P).toList .fix h) λaa h=>ob (ldN 6 aa h) λab h=>ob (O (.func 97) [ab] h) λac h=>ob (M.aD (ext 0 ac) h) λad h=>ob (M.aD (ext 1 ac) h) λae h=>ob (ld1 Q h) λaf h=>ifB (true) (ob (ld1 R h) λag h=>ifB (true) (ob (M.aD (aO ag) h) λah h=>ob (M.aD (aG 13 ah) h) λai h=>ob (ld1 ai h) λaj h=>ifB (true) (ob (M.aD (bH 3 aj N) h) λak h=>ob (M.aD (aG 0 ak) h) λal h=>ob (ld1 al h) λam h=>ifB (true) (ob (M.aD (bld prog 75 [(0,am),(1,ad)]) h) λan h=>ob (dJ 75 2 1 [(.int .i64 0),(.slice none 0 0)] [(0,an)] h) λao h=>ob (app 75 2 32 af ao h) λap h=>ifB (true) (ob (stN 1 Q ap h) λaq h=>ifB (true) (some (aJ [],h))))))):=by kernel_rfl
theorem aJg:cA prog O L 97 [N] h=ob (cP 71 (Value.cells N).toList .fix h) λaa h0=>ob (ldN 6 aa h0) λab h1=>ob (O (.func 172) [ab] h1) λac h2=>ob (M.aD (un prog .not ac) h2) λad h3=>aL ad (some (aJ [(.slice none 0 0),(.int .u16 1)],h3)) (ob (M.aD (aG 0 aa) h3) λae h4=>ob (ld1 ae h4) λaf h5=>ob (M.aD (aG 1 aa) h5) λag h6=>ob (ld1 ag h6) λah h7=>ob (dJ 5 1 2 [(.int .u8 0)] [(0,af),(1,ah)] h7) λai h8=>ob (M.aD (aG 2 aa) h8) λaj h9=>ob (ld1 aj h9) λak h10=>ob (O (.func 173) [ai,ak] h10) λal h11=>ob (M.aD (aG 0 aa) h11) λam h12=>ob (ld1 am h12) λan h13=>ob (M.aD (bin prog .eql 5 an (.int .u8 1)) h13) λao h14=>aL ao (ob (M.aD (aG 3 aa) h14) λap h15=>ob (ld1 ap h15) λaq h16=>ifB (true) (ob (M.aD (aG 4 aa) h16) λar h17=>ob (ld1 ar h17) λau h18=>ifB (true) (ob (dJ 5 1 2 [(.int .u8 0)] [(0,aq),(1,au)] h18) λav h19=>ob (app 5 1 1 al av h19) λaw h20=>ifB (true) (ob (M.aD (aG 5 aa) h20) λax h21=>ob (ld1 ax h21) λay h22=>ifB (chk ((ld1 ax) h19) ay&&(true)) (ob (O (.func 174) [aw,ay] h22) λaz h23=>ifB (true) (ob (O (.func 175) [az] h23) λba h24=>ob (O (.func 173) [az,ba] h24) λbb h25=>some (aJ [bb,(.int .u16 0)],h25))))))) (ob (O (.func 175) [al] h14) λbc h26=>ob (O (.func 173) [al,bc] h26) λbd h27=>some (aJ [bd,(.int .u16 0)],h27))):=by kernel_rfl
def Nb:Code:=b9 [1,0,0,1,1,0,0,1,1,0,1,0,0] (cC prog 98)
def Nd:KV:=(dN 2 (eF prog O L (b9 [1,0,0,1,1,0,0,1,1,1] (cC prog 98)) (dN 1 (eF prog O L (b9 [1,0,0,1,1,1] (cC prog 98)) k))))
def Ff (O:aE)(L:LV) (k:KV) (a b c d e f g i j l m n o p q r s t u v w x y z A B C D E F G H I J zz zy zx zw zv zu zt zs zr zq zp zo zn zm zl zk zj zi zh zg zf ze zd zc zb za yz yy:Value) (h:aC):OV:=ob (M.aD (aO a) h) λaa h16=>ob (M.aD (aG 1 aa) h16) λab h17=>ob (M.aD (aG 3 ab) h17) λac h18=>ob (ld1 ac h18) λad h19=>ob (M.aD (bin prog .geq 3 d ad) h19) λae h20=>aL ae (ob (M.aD (bin prog .add 3 o (.int .i64 1)) h20) λaf h21=>k .normal [a,b,c,d,e,f,g,i,j,l,m,n,af,p,q,r,s,t,u,v,w,x,y,z,A,B,C,D,E,F,G,H,I,d,a,aa,ab,ac,ad,ae,zt,zs,zr,zq,zp,zo,zn,zm,zl,zk,zj,zi,zh,zg,zf,ze,zd,zc,zb,za,yz,af] h21) (ob (M.aD (aO a) h20) λag h22=>ob (M.aD (aG 14 ag) h22) λah h23=>ob (ld1 ah h23) λai h24=>ob (O (.func 176) [ai,c] h24) λaj h25=>ob (M.aD (ext 0 aj) h25) λak h26=>ob (M.aD (ext 1 aj) h26) λal h27=>ob (cP 31 [(.int .i64 0),(.int .i64 0),(.int .i64 0),(.int .u32 0)] .fix h27) λam h28=>ob (stN 4 am ak h28) λan h29=>aL al (ob (M.aD (aO a) h29) λao h30=>ob (M.aD (aG 15 ao) h30) λap h31=>ob (ld1 ap h31) λaq h32=>ifB (true) (ob (M.aD (aG 1 am) h32) λar h33=>ob (ld1 ar h33) λau h34=>ifB (true) (ob (O (.func 178) [a,au] h34) λav h35=>ifB (chk ((ld1 ap) h35) aq&&(true)) (ob (ldN 4 am h35) λaw h36=>ifB (chk ((ldN 4 am) h34) aw&&(true)) (ob (O (.func 177) [aq,(.int .i64 0),av,c,aw] h36) λax h37=>ifB (true) (ob (M.aD (bin prog .add 3 o (.int .i64 1)) h37) λay h38=>k .normal [a,b,c,d,e,am,al,i,j,l,m,n,ay,p,q,r,s,t,u,v,w,x,y,z,A,B,C,D,E,F,G,H,I,d,a,aa,ab,ac,ad,ae,aj,a,ag,ah,ai,c,aj,ak,al,al,a,ao,ap,aq,a,ar,au,av,c,aw,ax,ay] h38)))))) (ob (M.aD (bin prog .add 3 o (.int .i64 1)) h29) λaz h39=>k .normal [a,b,c,d,e,am,al,i,j,l,m,n,az,p,q,r,s,t,u,v,w,x,y,z,A,B,C,D,E,F,G,H,I,d,a,aa,ab,ac,ad,ae,aj,a,ag,ah,ai,c,aj,ak,al,al,zj,zi,zh,zg,zf,ze,zd,zc,zb,za,yz,az] h39))
theorem aJi:Nd O L k (.exit 2) [a,b,c,d,e,f,g,i,j,l,m,n,o,p,q,r,s,t,u,v,w,x,y,z,A,B,C,D,E,F,G,H,I,J,zz,zy,zx,zw,zv,zu,zt,zs,zr,zq,zp,zo,zn,zm,zl,zk,zj,zi,zh,zg,zf,ze,zd,zc,zb,za,yz,yy] h=Ff O L k a b c d e f g i j l m n o p q r s t u v w x y z A B C D E F G H I J zz zy zx zw zv zu zt zs zr zq zp zo zn zm zl zk zj zi zh zg zf ze zd zc zb za yz yy h:=by kernel_rfl
theorem Xp:aK prog O L Nb k [a,b,c,d,e,f,g,i,j,l,m,n,o,p,q,r,s,t,u,v,w,x,y,z,A,B,C,D,E,F,G,H,I,J,zz,zy,zx,zw,zv,zu,zt,zs,zr,zq,zp,zo,zn,zm,zl,zk,zj,zi,zh,zg,zf,ze,zd,zc,zb,za,yz,yy] h=ob (M.aD (bin prog .lss 3 w v) h) λaa h=>aL aa (ob (M.aD (aO a) h) λab h=>ob (M.aD (aG 15 ab) h) λac h=>ob (ld1 ac h) λad h=>ob (O (.func 159) [ad,(.int .i64 0),w,c] h) λae h=>ob (M.aD (bin prog .add 3 d ae) h) λaf h=>ob (M.aD (bin prog .add 3 w (.int .i64 1)) h) λag h=>k .normal [a,b,c,af,w,f,g,i,j,l,m,n,o,p,q,r,s,t,u,v,ag,aa,w,d,a,ab,ac,ad,w,c,ae,af,ag,J,zz,zy,zx,zw,zv,zu,zt,zs,zr,zq,zp,zo,zn,zm,zl,zk,zj,zi,zh,zg,zf,ze,zd,zc,zb,za,yz,yy] h) (k (.exit 2) [a,b,c,d,e,f,g,i,j,l,m,n,o,p,q,r,s,t,u,v,w,aa,y,z,A,B,C,D,E,F,G,H,I,J,zz,zy,zx,zw,zv,zu,zt,zs,zr,zq,zp,zo,zn,zm,zl,zk,zj,zi,zh,zg,zf,ze,zd,zc,zb,za,yz,yy] h):=by kernel_rfl
def Na:Code:=b9 [1,0,0] (cC prog 98)
def Nc (O:aE)(L:LV):KV:=(dN 0 (eX prog Tryz.f98))
theorem aJh:Nc O L (.exit 0) [a,b,c,d,e,f,g,i,j,l,m,n,o,p,q,r,s,t,u,v,w,x,y,z,A,B,C,D,E,F,G,H,I,J,zz,zy,zx,zw,zv,zu,zt,zs,zr,zq,zp,zo,zn,zm,zl,zk,zj,zi,zh,zg,zf,ze,zd,zc,zb,za,yz,yy] h=some (aJ [],h):=by kernel_rfl
theorem Xo:aK prog O L Na k [a,b,c,d,e,f,g,i,j,l,m,n,o,p,q,r,s,t,u,v,w,x,y,z,A,B,C,D,E,F,G,H,I,J,zz,zy,zx,zw,zv,zu,zt,zs,zr,zq,zp,zo,zn,zm,zl,zk,zj,zi,zh,zg,zf,ze,zd,zc,zb,za,yz,yy] h=ob (M.aD (bin prog .lss 3 o n) h) λaa h=>aL aa (ob (M.aD (aO a) h) λab h=>ob (M.aD (aG 13 ab) h) λac h=>ob (ld1 ac h) λad h=>ob (M.aD (bX ad) h) λae h=>L (aK prog O L Nb) (Nd O L k) [a,b,o,(.int .i64 0),e,f,g,i,j,l,m,n,o,aa,o,a,ab,ac,ad,ae,(.int .i64 0),x,y,z,A,B,C,D,E,F,G,H,I,J,zz,zy,zx,zw,zv,zu,zt,zs,zr,zq,zp,zo,zn,zm,zl,zk,zj,zi,zh,zg,zf,ze,zd,zc,zb,za,yz,yy] h) (k (.exit 0) [a,b,c,d,e,f,g,i,j,l,m,n,o,aa,q,r,s,t,u,v,w,x,y,z,A,B,C,D,E,F,G,H,I,J,zz,zy,zx,zw,zv,zu,zt,zs,zr,zq,zp,zo,zn,zm,zl,zk,zj,zi,zh,zg,zf,ze,zd,zc,zb,za,yz,yy] h):=by kernel_rfl
theorem aJj:cA prog O L 98 [N] h=ob (M.aD (aO N) h) λaa h=>ob (M.aD (aG 1 aa) h) λab h=>ob (M.aD (aG 2 ab) h) λac h=>ob (ld1 ac h) λad h=>L (aK prog O L Na) (Nc O L) [N,undef,undef,undef,undef,undef,undef,N,aa,ab,ac,ad,(.int .i64 0),undef,undef,undef,undef,undef,undef,undef,undef,undef,undef,undef,undef,undef,undef,undef,undef,undef,undef,undef,undef,undef,undef,undef,undef,undef,undef,undef,undef,undef,undef,undef,undef,undef,undef,undef,undef,undef,undef,undef,undef,undef,undef,undef,undef,undef,undef,undef,undef,undef] h:=by kernel_rfl
def Ng:Code:=b9 [1,0,1,1,1,1,1,1,0,1,0,0,1,1,0,0,1,1,0,1,0,0] (cC prog 99)
def Nk:KV:=(dN 2 (eF prog O L (b9 [1,0,1,1,1,1,1,1,0,1,0,0,1,1,0,0,1,1,1] (cC prog 99)) (dN 1 (eF prog O L (b9 [1,0,1,1,1,1,1,1,0,1,0,0,1,1,1] (cC prog 99)) k))))
def Ni (O:aE)(L:LV) (k:KV) (a b c d e f g i j l m n o p q r s t u v w x y z A B C D E F G H I J zz zy zx zw zv zu zt zs zr zq zp zo zn zm zl zk zj zi zh zg zf ze zd zc zb za yz yy yx yw yv yu yt ys yr yq yp yo yn ym yl yk yj yi yh yg yf ye yd yc yb ya xz xy xx xw xv xu xt xs xr xq xp xo xn xm xl xk xj xi xh xg xf xe xd xc xb xa wz wy wx ww wv wu wt ws wr wq wp wo wn wm wl wk wj wi wh wg wf we wd:Value) (h:aC):OV:=ob (M.aD (aO l) h) λaa h=>ob (M.aD (aG 1 aa) h) λab h=>ob (ld1 ab h) λac h=>ob (M.aD (bin prog .eql 23 ac o) h) λad h=>aL ad (k (.exit 0) [a,b,c,d,e,f,g,i,j,l,m,n,o,p,q,r,s,t,u,v,w,x,y,z,A,B,C,D,E,F,G,H,I,J,zz,zy,zx,zw,zv,zu,zt,zs,zr,zq,zp,zo,zn,zm,zl,zk,zj,zi,zh,zg,zf,ze,zd,zc,zb,za,yz,yy,yx,yw,yv,yu,yt,ys,yr,yq,yp,yo,yn,ym,yl,yk,yj,yi,yh,yg,yf,ye,yd,yc,yb,ya,xz,xy,xx,xw,xv,xu,xt,xs,xr,xq,xp,xo,xn,xm,xl,xk,xj,xi,xh,xg,xf,xe,xd,xc,xb,xa,wz,wy,wx,ww,wv,wu,wt,ws,wr,wq,wp,wo,l,aa,ab,ac,o,ad,wh,wg,wf,we,wd] h) (ob (M.aD (bin prog .add 3 zm (.int .i64 1)) h) λae h=>k .normal [a,b,c,d,e,f,g,i,j,l,m,n,o,p,q,r,s,t,u,v,w,x,y,z,A,B,C,D,E,F,G,H,I,J,zz,zy,zx,zw,zv,zu,zt,zs,zr,zq,zp,zo,zn,ae,zl,zk,zj,zi,zh,zg,zf,ze,zd,zc,zb,za,yz,yy,yx,yw,yv,yu,yt,ys,yr,yq,yp,yo,yn,ym,yl,yk,yj,yi,yh,yg,yf,ye,yd,yc,yb,ya,xz,xy,xx,xw,xv,xu,xt,xs,xr,xq,xp,xo,xn,xm,xl,xk,xj,xi,xh,xg,xf,xe,xd,xc,xb,xa,wz,wy,wx,ww,wv,wu,wt,ws,wr,wq,wp,wo,l,aa,ab,ac,o,ad,ae,wg,wf,we,wd] h)
theorem aJk:Nk O L k (.exit 2) [a,b,c,d,e,f,g,i,j,l,m,n,o,p,q,r,s,t,u,v,w,x,y,z,A,B,C,D,E,F,G,H,I,J,zz,zy,zx,zw,zv,zu,zt,zs,zr,zq,zp,zo,zn,zm,zl,zk,zj,zi,zh,zg,zf,ze,zd,zc,zb,za,yz,yy,yx,yw,yv,yu,yt,ys,yr,yq,yp,yo,yn,ym,yl,yk,yj,yi,yh,yg,yf,ye,yd,yc,yb,ya,xz,xy,xx,xw,xv,xu,xt,xs,xr,xq,xp,xo,xn,xm,xl,xk,xj,xi,xh,xg,xf,xe,xd,xc,xb,xa,wz,wy,wx,ww,wv,wu,wt,ws,wr,wq,wp,wo,wn,wm,wl,wk,wj,wi,wh,wg,wf,we,wd] h=Ni O L k a b c d e f g i j l m n o p q r s t u v w x y z A B C D E F G H I J zz zy zx zw zv zu zt zs zr zq zp zo zn zm zl zk zj zi zh zg zf ze zd zc zb za yz yy yx yw yv yu yt ys yr yq yp yo yn ym yl yk yj yi yh yg yf ye yd yc yb ya xz xy xx xw xv xu xt xs xr xq xp xo xn xm xl xk xj xi xh xg xf xe xd xc xb xa wz wy wx ww wv wu wt ws wr wq wp wo wn wm wl wk wj wi wh wg wf we wd h:=by kernel_rfl
theorem Xr:aK prog O L Ng k [a,b,c,d,e,f,g,i,j,l,m,n,o,p,q,r,s,t,u,v,w,x,y,z,A,B,C,D,E,F,G,H,I,J,zz,zy,zx,zw,zv,zu,zt,zs,zr,zq,zp,zo,zn,zm,zl,zk,zj,zi,zh,zg,zf,ze,zd,zc,zb,za,yz,yy,yx,yw,yv,yu,yt,ys,yr,yq,yp,yo,yn,ym,yl,yk,yj,yi,yh,yg,yf,ye,yd,yc,yb,ya,xz,xy,xx,xw,xv,xu,xt,xs,xr,xq,xp,xo,xn,xm,xl,xk,xj,xi,xh,xg,xf,xe,xd,xc,xb,xa,wz,wy,wx,ww,wv,wu,wt,ws,wr,wq,wp,wo,wn,wm,wl,wk,wj,wi,wh,wg,wf,we,wd] h=ob (M.aD (bin prog .lss 3 za zb) h) λaa h=>aL aa (ob (M.aD (bH 1 zc za) h) λab h=>ob (ld1 ab h) λac h=>ob (M.aD (aO a) h) λad h=>ob (M.aD (aG 1 ad) h) λae h=>ob (ld1 ae h) λaf h=>ob (M.aD (bH 1 af za) h) λag h=>ob (ld1 ag h) λah h=>ob (O (.func 182) [ac,ah,i] h) λai h=>ob (M.aD (bin prog .eql 3 ai (.int .i64 (-1))) h) λaj h=>aL aj (ob (M.aD (bin prog .add 3 za (.int .i64 1)) h) λak h=>k .normal [a,b,c,d,e,f,g,i,j,l,m,n,o,za,ac,ai,s,t,u,v,w,x,y,z,A,B,C,D,E,F,G,H,I,J,zz,zy,zx,zw,zv,zu,zt,zs,zr,zq,zp,zo,zn,zm,zl,zk,zj,zi,zh,zg,zf,ze,zd,zc,zb,ak,aa,za,ab,ac,ac,a,ad,ae,af,za,ag,ah,i,ai,ai,aj,yj,yi,yh,yg,yf,ye,yd,yc,yb,ya,xz,xy,xx,xw,xv,xu,xt,xs,xr,xq,xp,xo,xn,xm,xl,xk,xj,xi,xh,xg,xf,xe,xd,xc,xb,xa,wz,wy,wx,ww,wv,wu,wt,ws,wr,wq,wp,ak,wn,wm,wl,wk,wj,wi,wh,wg,wf,we,wd] h) (ob (M.aD (aO l) h) λal h=>ob (M.aD (aG 0 al) h) λam h=>ob (ld1 am h) λan h=>ob (M.aD (bH 1 an za) h) λao h=>ob (stN 1 ao ai h) λap h=>ob (M.aD (aO l) h) λaq h=>ob (M.aD (aG 1 aq) h) λar h=>ob (ld1 ar h) λau h=>ifB (true) (ob (M.aD (bin prog .shl 23 (.int .u16 1) za) h) λav h=>ob (M.aD (bin prog .andNot 23 au av) h) λaw h=>ob (M.aD (aO l) h) λax h=>ob (M.aD (aG 1 ax) h) λay h=>ob (stN 1 ay aw h) λaz h=>ifB (true) (ob (M.aD (aO l) h) λba h=>ob (M.aD (aG 2 ba) h) λbb h=>ob (ld1 bb h) λbc h=>ifB (true) (ob (M.aD (bin prog .shl 23 (.int .u16 1) ai) h) λbd h=>ob (M.aD (bin prog .andNot 23 bc bd) h) λbe h=>ob (M.aD (aO l) h) λbf h=>ob (M.aD (aG 2 bf) h) λbg h=>ob (stN 1 bg be h) λbh h=>ifB (true) (ob (M.aD (bin prog .eql 3 n (.int .i64 0)) h) λbi h=>aL bi (ob (M.aD (aO a) h) λbj h=>ob (M.aD (aG 0 bj) h) λbk h=>ob (ld1 bk h) λbl h=>ifB (true) (ob (M.aD (aO a) h) λbm h=>ob (M.aD (aG 1 bm) h) λbn h=>ob (ld1 bn h) λbo h=>ifB (true) (ob (M.aD (bin prog .add 3 za (.int .i64 1)) h) λbp h=>ob (M.aD (bin prog .rem 3 bp i) h) λbq h=>ob (M.aD (bin prog .add 3 ai (.int .i64 1)) h) λbr h=>ob (M.aD (bin prog .rem 3 br i) h) λbs h=>ob (M.aD (bH 1 bl ai) h) λbt h=>ob (stN 1 bt bq h) λbu h=>ifB (true) (ob (M.aD (bH 1 bo za) h) λbv h=>ob (stN 1 bv bs h) λbw h=>ifB (true) (ob (M.aD (bin prog .add 3 za (.int .i64 1)) h) λbx h=>k .normal [a,b,c,d,e,f,g,i,j,l,m,n,o,za,ac,ai,s,t,u,v,w,x,y,z,A,B,C,D,E,F,G,H,I,J,zz,zy,zx,zw,zv,zu,zt,zs,zr,zq,zp,zo,zn,zm,zl,zk,zj,zi,zh,zg,zf,ze,zd,zc,zb,bx,aa,za,ab,ac,ac,a,ad,ae,af,za,ag,ah,i,ai,ai,aj,l,al,am,an,za,ai,ao,l,aq,ar,au,za,av,aw,ax,ay,l,ba,bb,bc,ai,bd,be,bf,bg,n,bi,a,bj,bk,bl,ai,a,bm,bn,bo,za,za,bp,i,bq,ai,br,i,bs,bt,bv,bx,wn,wm,wl,wk,wj,wi,wh,wg,wf,we,wd] h))))) (ob (M.aD (bin prog .add 3 za (.int .i64 1)) h) λbz h=>k .normal [a,b,c,d,e,f,g,i,j,l,m,n,o,za,ac,ai,s,t,u,v,w,x,y,z,A,B,C,D,E,F,G,H,I,J,zz,zy,zx,zw,zv,zu,zt,zs,zr,zq,zp,zo,zn,zm,zl,zk,zj,zi,zh,zg,zf,ze,zd,zc,zb,bz,aa,za,ab,ac,ac,a,ad,ae,af,za,ag,ah,i,ai,ai,aj,l,al,am,an,za,ai,ao,l,aq,ar,au,za,av,aw,ax,ay,l,ba,bb,bc,ai,bd,be,bf,bg,n,bi,xi,xh,xg,xf,xe,xd,xc,xb,xa,wz,wy,wx,ww,wv,wu,wt,ws,wr,wq,wp,bz,wn,wm,wl,wk,wj,wi,wh,wg,wf,we,wd] h))))))) (k (.exit 2) [a,b,c,d,e,f,g,i,j,l,m,n,o,p,q,r,s,t,u,v,w,x,y,z,A,B,C,D,E,F,G,H,I,J,zz,zy,zx,zw,zv,zu,zt,zs,zr,zq,zp,zo,zn,zm,zl,zk,zj,zi,zh,zg,zf,ze,zd,zc,zb,za,aa,yy,yx,yw,yv,yu,yt,ys,yr,yq,yp,yo,yn,ym,yl,yk,yj,yi,yh,yg,yf,ye,yd,yc,yb,ya,xz,xy,xx,xw,xv,xu,xt,xs,xr,xq,xp,xo,xn,xm,xl,xk,xj,xi,xh,xg,xf,xe,xd,xc,xb,xa,wz,wy,wx,ww,wv,wu,wt,ws,wr,wq,wp,wo,wn,wm,wl,wk,wj,wi,wh,wg,wf,we,wd] h):=by kernel_rfl
def Nf:Code:=b9 [1,0,1,1,1,1,1,1,0,1,0,0] (cC prog 99)
def Nj:KV:=(dN 0 (eF prog O L (b9 [1,0,1,1,1,1,1,1,1] (cC prog 99)) (eX prog Tryz.f99)))
def Nh (O:aE)(L:LV) (a b c d e f g i j l m n o p q r s t u v w x y z A B C D E F G H I J zz zy zx zw zv zu zt zs zr zq zp zo zn zm zl zk zj zi zh zg zf ze zd zc zb za yz yy yx yw yv yu yt ys yr yq yp yo yn ym yl yk yj yi yh yg yf ye yd yc yb ya xz xy xx xw xv xu xt xs xr xq xp xo xn xm xl xk xj xi xh xg xf xe xd xc xb xa wz wy wx ww wv wu wt ws wr wq wp wo wn wm wl wk wj wi wh wg wf we wd:Value) (h:aC):OV:=ob (M.aD (aO l) h) λaa h=>ob (M.aD (aG 0 aa) h) λab h=>ob (ld1 ab h) λac h=>some (aJ [ac],h)
theorem Xs:Nj O L (.exit 0) [a,b,c,d,e,f,g,i,j,l,m,n,o,p,q,r,s,t,u,v,w,x,y,z,A,B,C,D,E,F,G,H,I,J,zz,zy,zx,zw,zv,zu,zt,zs,zr,zq,zp,zo,zn,zm,zl,zk,zj,zi,zh,zg,zf,ze,zd,zc,zb,za,yz,yy,yx,yw,yv,yu,yt,ys,yr,yq,yp,yo,yn,ym,yl,yk,yj,yi,yh,yg,yf,ye,yd,yc,yb,ya,xz,xy,xx,xw,xv,xu,xt,xs,xr,xq,xp,xo,xn,xm,xl,xk,xj,xi,xh,xg,xf,xe,xd,xc,xb,xa,wz,wy,wx,ww,wv,wu,wt,ws,wr,wq,wp,wo,wn,wm,wl,wk,wj,wi,wh,wg,wf,we,wd] h=Nh O L a b c d e f g i j l m n o p q r s t u v w x y z A B C D E F G H I J zz zy zx zw zv zu zt zs zr zq zp zo zn zm zl zk zj zi zh zg zf ze zd zc zb za yz yy yx yw yv yu yt ys yr yq yp yo yn ym yl yk yj yi yh yg yf ye yd yc yb ya xz xy xx xw xv xu xt xs xr xq xp xo xn xm xl xk xj xi xh xg xf xe xd xc xb xa wz wy wx ww wv wu wt ws wr wq wp wo wn wm wl wk wj wi wh wg wf we wd h:=by kernel_rfl
theorem Xq:aK prog O L Nf k [a,b,c,d,e,f,g,i,j,l,m,n,o,p,q,r,s,t,u,v,w,x,y,z,A,B,C,D,E,F,G,H,I,J,zz,zy,zx,zw,zv,zu,zt,zs,zr,zq,zp,zo,zn,zm,zl,zk,zj,zi,zh,zg,zf,ze,zd,zc,zb,za,yz,yy,yx,yw,yv,yu,yt,ys,yr,yq,yp,yo,yn,ym,yl,yk,yj,yi,yh,yg,yf,ye,yd,yc,yb,ya,xz,xy,xx,xw,xv,xu,xt,xs,xr,xq,xp,xo,xn,xm,xl,xk,xj,xi,xh,xg,xf,xe,xd,xc,xb,xa,wz,wy,wx,ww,wv,wu,wt,ws,wr,wq,wp,wo,wn,wm,wl,wk,wj,wi,wh,wg,wf,we,wd] h=ob (M.aD (bin prog .lss 3 zm zn) h) λaa h=>aL aa (ob (M.aD (aO l) h) λab h=>ob (M.aD (aG 1 ab) h) λac h=>ob (ld1 ac h) λad h=>ob (O (.func 181) [a,l,m] h) λae h=>ob (M.aD (bX ae) h) λaf h=>L (aK prog O L Ng) (Nk O L k) [a,b,c,d,e,f,g,i,j,l,m,zm,ad,p,q,r,s,t,u,v,w,x,y,z,A,B,C,D,E,F,G,H,I,J,zz,zy,zx,zw,zv,zu,zt,zs,zr,zq,zp,zo,zn,zm,aa,zm,l,ab,ac,ad,a,l,m,ae,af,(.int .i64 0),yz,yy,yx,yw,yv,yu,yt,ys,yr,yq,yp,yo,yn,ym,yl,yk,yj,yi,yh,yg,yf,ye,yd,yc,yb,ya,xz,xy,xx,xw,xv,xu,xt,xs,xr,xq,xp,xo,xn,xm,xl,xk,xj,xi,xh,xg,xf,xe,xd,xc,xb,xa,wz,wy,wx,ww,wv,wu,wt,ws,wr,wq,wp,wo,wn,wm,wl,wk,wj,wi,wh,wg,wf,we,wd] h) (k (.exit 0) [a,b,c,d,e,f,g,i,j,l,m,n,o,p,q,r,s,t,u,v,w,x,y,z,A,B,C,D,E,F,G,H,I,J,zz,zy,zx,zw,zv,zu,zt,zs,zr,zq,zp,zo,zn,zm,aa,zk,zj,zi,zh,zg,zf,ze,zd,zc,zb,za,yz,yy,yx,yw,yv,yu,yt,ys,yr,yq,yp,yo,yn,ym,yl,yk,yj,yi,yh,yg,yf,ye,yd,yc,yb,ya,xz,xy,xx,xw,xv,xu,xt,xs,xr,xq,xp,xo,xn,xm,xl,xk,xj,xi,xh,xg,xf,xe,xd,xc,xb,xa,wz,wy,wx,ww,wv,wu,wt,ws,wr,wq,wp,wo,wn,wm,wl,wk,wj,wi,wh,wg,wf,we,wd] h):=by kernel_rfl
theorem aJl:cA prog O L 99 [N,P,Q] h=ob (M.aD (aO N) h) λaa h=>ob (M.aD (aG 0 aa) h) λab h=>ob (ld1 ab h) λac h=>ob (M.aD (bX ac) h) λad h=>ob (M.aD (bX P) h) λae h=>ob (M.aD (bin prog .neq 3 ae ad) h) λaf h=>ob (gd af false (M.cB Q) h) λag h=>ob (gd af false (M.aD (bin prog .lss 3 ag (.int .i64 1))) h) λah h=>ob (M.aD (cF af (.bool true) ah) h) λai h=>ob (gd ai false (M.cB Q) h) λaj h=>ob (gd ai false (M.aD (bin prog .gtr 3 aj (.int .i64 16))) h) λak h=>ob (M.aD (cF ai (.bool true) ak) h) λal h=>aL al (some (aJ [(.slice none 0 0)],h)) (ob (M.aD (bin prog .shl 23 (.int .u16 1) ad) h) λam h=>ob (M.aD (bin prog .sub 23 am (.int .u16 1)) h) λan h=>ob (dJ 3 1 1 [(.int .i64 0)] [(0,(.int .i64 (-1)))] h) λao h=>ob (O (.func 179) [ao,ad] h) λap h=>ob (M.aD (bld prog 283 [(0,ap),(1,an),(2,an)]) h) λaq h=>ob (cP 283 (Value.cells aq).toList .fix h) λar h=>ob (O (.func 180) [P,ad] h) λau h=>L (aK prog O L Nf) (Nj O L) [N,P,Q,undef,undef,undef,(.slice none 0 0),ad,an,ar,au,undef,undef,undef,undef,undef,N,aa,ab,ac,ad,P,ae,ad,af,af,ag,ah,ai,ai,aj,ak,al,ad,am,an,ao,ad,ap,an,an,aq,ar,P,ad,au,Q,(.int .i64 0),undef,undef,undef,undef,undef,undef,undef,undef,undef,undef,undef,undef,undef,undef,undef,undef,undef,undef,undef,undef,undef,undef,undef,undef,undef,undef,undef,undef,undef,undef,undef,undef,undef,undef,undef,undef,undef,undef,undef,undef,undef,undef,undef,undef,undef,undef,undef,undef,undef,undef,undef,undef,undef,undef,undef,undef,undef,undef,undef,undef,undef,undef,undef,undef,undef,undef,undef,undef,undef,undef,undef,undef,undef,undef,undef,undef,undef,undef,undef,undef,undef,undef,undef,undef,undef,undef,undef] h):=by kernel_rfl
def Ma:Code:=b9 [1,1,0,1,0,0,1,1,0,0,1,1,0,0] (cC prog 100)
def Md:KV:=(dN 2 (dN 1 (eF prog O L (b9 [1,1,0,1,0,0,1,1,1] (cC prog 100)) k)))
def Mb (O:aE)(L:LV) (k:KV) (a b c d e f g i j l m n o p q r s t u v w x y z A B C D E F G H I J zz zy zx zw zv zu zt zs zr zq:Value) (h:aC):OV:=ob (M.aD (bin prog .add 3 t (.int .i64 1)) h) λaa h=>k .normal [a,b,c,d,e,f,g,i,j,l,m,n,o,p,q,r,s,aa,u,v,w,x,y,z,A,B,C,D,E,F,G,H,I,J,zz,zy,zx,zw,zv,zu,zt,zs,aa,zq] h
theorem aIb:Md O L k (.exit 2) [a,b,c,d,e,f,g,i,j,l,m,n,o,p,q,r,s,t,u,v,w,x,y,z,A,B,C,D,E,F,G,H,I,J,zz,zy,zx,zw,zv,zu,zt,zs,zr,zq] h=Mb O L k a b c d e f g i j l m n o p q r s t u v w x y z A B C D E F G H I J zz zy zx zw zv zu zt zs zr zq h:=by kernel_rfl
theorem W4:aK prog O L Ma k [a,b,c,d,e,f,g,i,j,l,m,n,o,p,q,r,s,t,u,v,w,x,y,z,A,B,C,D,E,F,G,H,I,J,zz,zy,zx,zw,zv,zu,zt,zs,zr,zq] h=ob (M.aD (bin prog .lss 3 B A) h) λaa h=>aL aa (ob (O (.func 183) [a,e,B] h) λab h=>ob (M.aD (bin prog .neq 23 ab (.int .u16 0)) h) λac h=>aL ac (ob (M.aD (bH 1 d e) h) λad h=>ob (ld1 ad h) λae h=>ifB (true) (ob (M.aD (bin prog .shl 23 (.int .u16 1) B) h) λaf h=>ob (M.aD (bin prog .or 23 ae af) h) λag h=>ob (M.aD (bH 1 d e) h) λah h=>ob (stN 1 ah ag h) λai h=>ifB (true) (ob (M.aD (bin prog .add 3 B (.int .i64 1)) h) λaj h=>k .normal [a,b,c,d,e,B,g,i,j,l,m,n,o,p,q,r,s,t,u,v,w,x,y,z,A,aj,aa,B,a,e,B,ab,ac,d,e,ad,ae,B,af,ag,ah,aj,zr,zq] h))) (ob (M.aD (bin prog .add 3 B (.int .i64 1)) h) λak h=>k .normal [a,b,c,d,e,B,g,i,j,l,m,n,o,p,q,r,s,t,u,v,w,x,y,z,A,ak,aa,B,a,e,B,ab,ac,J,zz,zy,zx,zw,zv,zu,zt,ak,zr,zq] h)) (k (.exit 2) [a,b,c,d,e,f,g,i,j,l,m,n,o,p,q,r,s,t,u,v,w,x,y,z,A,B,aa,D,E,F,G,H,I,J,zz,zy,zx,zw,zv,zu,zt,zs,zr,zq] h):=by kernel_rfl
def L9:Code:=b9 [1,1,0,1,0,0] (cC prog 100)
def Mc:KV:=(dN 0 (eF prog O L (b9 [1,1,1] (cC prog 100)) (eX prog Tryz.f100)))
theorem aIa:Mc O L (.exit 0) [a,b,c,d,e,f,g,i,j,l,m,n,o,p,q,r,s,t,u,v,w,x,y,z,A,B,C,D,E,F,G,H,I,J,zz,zy,zx,zw,zv,zu,zt,zs,zr,zq] h=some (aJ [d],h):=by kernel_rfl
theorem W0:aK prog O L L9 k [a,b,c,d,e,f,g,i,j,l,m,n,o,p,q,r,s,t,u,v,w,x,y,z,A,B,C,D,E,F,G,H,I,J,zz,zy,zx,zw,zv,zu,zt,zs,zr,zq] h=ob (M.aD (bin prog .lss 3 t s) h) λaa h=>aL aa (ob (M.aD (aO a) h) λab h=>ob (M.aD (aG 13 ab) h) λac h=>ob (ld1 ac h) λad h=>ob (M.aD (bX ad) h) λae h=>L (aK prog O L Ma) (Md O L k) [a,b,c,d,t,f,g,i,j,l,m,n,o,p,q,r,s,t,aa,t,a,ab,ac,ad,ae,(.int .i64 0),C,D,E,F,G,H,I,J,zz,zy,zx,zw,zv,zu,zt,zs,zr,zq] h) (k (.exit 0) [a,b,c,d,e,f,g,i,j,l,m,n,o,p,q,r,s,t,aa,v,w,x,y,z,A,B,C,D,E,F,G,H,I,J,zz,zy,zx,zw,zv,zu,zt,zs,zr,zq] h):=by kernel_rfl
theorem aIc:cA prog O L 100 [N] h=ob (M.aD (aO N) h) λaa h=>ob (M.aD (aG 13 aa) h) λab h=>ob (ld1 ab h) λac h=>ob (M.aD (bX ac) h) λad h=>ob (lC 23 1 2 [(.int .u16 0)] ad ad h) λae h=>ob (M.aD (aO N) h) λaf h=>ob (M.aD (aG 13 af) h) λag h=>ob (ld1 ag h) λah h=>ob (M.aD (bX ah) h) λai h=>L (aK prog O L L9) (Mc O L) [N,undef,(.slice none 0 0),ae,undef,undef,N,aa,ab,ac,ad,ae,N,af,ag,ah,ai,(.int .i64 0),undef,undef,undef,undef,undef,undef,undef,undef,undef,undef,undef,undef,undef,undef,undef,undef,undef,undef,undef,undef,undef,undef,undef,undef,undef,undef] h:=by kernel_rfl
theorem Me:cA prog O L 101 [N,P,Q,R] h=ob (M.aD (aO N) h) λaa h=>ob (M.aD (aG 13 aa) h) λab h=>ob (ld1 ab h) λac h=>ifB (true) (ob (M.aD (bH 3 ac Q) h) λad h=>ob (M.aD (aG 2 ad) h) λae h=>ob (ld1 ae h) λaf h=>ifB (true) (ob (O (.func 183) [N,P,Q] h) λag h=>ifB (chk ((ld1 ae) h) af&&(chk ((ld1 ab) h) ac&&(true))) (ob (O (.func 184) [af,ag] h) λah h=>ifB (true) (ob (M.aD (bin prog .lss 3 ah (.int .i64 0)) h) λai h=>aL ai (some (aJ [],h)) (ob (M.aD (aO N) h) λaj h=>ob (M.aD (aG 15 aj) h) λak h=>ob (ld1 ak h) λal h=>ob (O (.func 185) [al,P,Q,ah] h) λam h=>ob (M.aD (ext 0 am) h) λan h=>ob (M.aD (ext 1 am) h) λao h=>ob (cP 31 [(.int .i64 0),(.int .i64 0),(.int .i64 0),(.int .u32 0)] .fix h) λap h=>ob (stN 4 ap an h) λaq h=>ob (M.aD (bin prog .gtr 3 P (.int .i64 0)) h) λar h=>aL ar (ob (M.aD (aO N) h) λau h=>ob (M.aD (aG 13 au) h) λav h=>ob (ld1 av h) λaw h=>ob (M.aD (bH 3 aw P) h) λax h=>ob (M.aD (aG 1 ax) h) λay h=>ob (ld1 ay h) λaz h=>ob (M.aD (bH 2 az ah) h) λba h=>ob (M.aD (aG 1 ba) h) λbb h=>ob (ld1 bb h) λbc h=>ob (O (.func 186) [bc] h) λbd h=>ob (M.aD (bin prog .eql 3 Q (.int .i64 0)) h) λbe h=>aL be (ob (M.aD (aO N) h) λbf h=>ob (M.aD (aG 14 bf) h) λbg h=>ob (ld1 bg h) λbh h=>ifB (true) (ob (ldN 4 ap h) λbi h=>ifB (true) (ob (O (.func 187) [bh,bi] h) λbj h=>ifB (true) (some (aJ [],h))))) (ob (M.aD (aO N) h) λbk h=>ob (M.aD (aG 13 bk) h) λbl h=>ob (ld1 bl h) λbm h=>ob (M.aD (bH 3 bm Q) h) λbn h=>ob (M.aD (aG 1 bn) h) λbo h=>ob (ld1 bo h) λbp h=>ob (M.aD (bH 2 bp ah) h) λbq h=>ob (M.aD (aG 0 bq) h) λbr h=>ob (ld1 br h) λbs h=>ob (O (.func 188) [bs] h) λbt h=>ob (M.aD (ext 0 bt) h) λbu h=>ob (M.aD (ext 1 bt) h) λbv h=>ob (cS prog 3 5 ah h) λbw h=>ob (cS prog 83 23 bu h) λbx h=>ob (M.aD (aG 0 ap) h) λbz h=>ob (ld1 bz h) λca h=>ob (cS prog 3 5 ca h) λcb h=>ob (M.aD (aG 1 ap) h) λcc h=>ob (ld1 cc h) λcd h=>ob (cS prog 3 5 cd h) λce h=>ob (M.aD (aG 3 ap) h) λcf h=>ob (ld1 cf h) λcg h=>ob (M.aD (bld prog 71 [(0,(.int .u8 1)),(1,bw),(2,bx),(3,cb),(4,ce),(5,cg)]) h) λch h=>ob (n9 O R [Q,ch] h) λci h=>some (aJ [],h))) (ob (M.aD (bin prog .eql 3 Q (.int .i64 0)) h) λcj h=>aL cj (ob (M.aD (aO N) h) λck h=>ob (M.aD (aG 14 ck) h) λcl h=>ob (ld1 cl h) λcm h=>ifB (true) (ob (ldN 4 ap h) λcn h=>ifB (true) (ob (O (.func 187) [cm,cn] h) λco h=>ifB (true) (some (aJ [],h))))) (ob (M.aD (aO N) h) λcp h=>ob (M.aD (aG 13 cp) h) λcq h=>ob (ld1 cq h) λcr h=>ob (M.aD (bH 3 cr Q) h) λcs h=>ob (M.aD (aG 1 cs) h) λct h=>ob (ld1 ct h) λcu h=>ob (M.aD (bH 2 cu ah) h) λcv h=>ob (M.aD (aG 0 cv) h) λcw h=>ob (ld1 cw h) λcx h=>ob (O (.func 188) [cx] h) λcy h=>ob (M.aD (ext 0 cy) h) λcz h=>ob (M.aD (ext 1 cy) h) λda h=>ob (cS prog 3 5 ah h) λdb h=>ob (cS prog 83 23 cz h) λdc h=>ob (M.aD (aG 0 ap) h) λdd h=>ob (ld1 dd h) λde h=>ob (cS prog 3 5 de h) λdf h=>ob (M.aD (aG 1 ap) h) λdg h=>ob (ld1 dg h) λdh h=>ob (cS prog 3 5 dh h) λdi h=>ob (M.aD (aG 3 ap) h) λdj h=>ob (ld1 dj h) λdk h=>ob (M.aD (bld prog 71 [(0,(.int .u8 1)),(1,db),(2,dc),(3,df),(4,di),(5,dk)]) h) λdl h=>ob (n9 O R [Q,dl] h) λdm h=>some (aJ [],h)))))))):=by kernel_rfl
def Mh:Code:=b9 [1,0,0,1,1,0,0,1,1,0,0] (cC prog 102)
def Mj:KV:=(dN 2 (dN 1 (eF prog O L (b9 [1,0,0,1,1,1] (cC prog 102)) k)))
def E9 (O:aE)(L:LV) (k:KV) (a b c d e f g i j l m n o p q r s t u v w x y z A B C D E F G H I J zz zy zx zw zv zu zt zs zr zq zp zo zn zm:Value) (h:aC):OV:=ob (M.aD (bin prog .add 3 p (.int .i64 1)) h) λaa h=>k .normal [a,b,c,d,e,f,g,i,j,l,m,n,o,aa,q,r,s,t,u,v,w,x,y,z,A,B,C,D,E,F,G,H,I,J,zz,zy,zx,zw,zv,zu,zt,zs,zr,zq,zp,zo,zn,aa] h
theorem W6:Mj O L k (.exit 2) [a,b,c,d,e,f,g,i,j,l,m,n,o,p,q,r,s,t,u,v,w,x,y,z,A,B,C,D,E,F,G,H,I,J,zz,zy,zx,zw,zv,zu,zt,zs,zr,zq,zp,zo,zn,zm] h=E9 O L k a b c d e f g i j l m n o p q r s t u v w x y z A B C D E F G H I J zz zy zx zw zv zu zt zs zr zq zp zo zn zm h:=by kernel_rfl
theorem Mf:aK prog O L Mh k [a,b,c,d,e,f,g,i,j,l,m,n,o,p,q,r,s,t,u,v,w,x,y,z,A,B,C,D,E,F,G,H,I,J,zz,zy,zx,zw,zv,zu,zt,zs,zr,zq,zp,zo,zn,zm] h=ob (M.aD (bin prog .lss 3 x w) h) λaa h=>aL aa (ob (M.aD (bH 2 v x) h) λab h=>ob (ldN 2 ab h) λac h=>ob (cP 172 [(.pointer none),(.pointer none)] .fix h) λad h=>ob (stN 2 ad ac h) λae h=>ob (cS prog 3 5 x h) λaf h=>ob (M.aD (aG 0 ad) h) λag h=>ob (ld1 ag h) λah h=>ob (O (.func 47) [ah] h) λai h=>ob (cS prog 83 23 ai h) λaj h=>ob (M.aD (bld prog 71 [(0,(.int .u8 3)),(1,af),(2,aj)]) h) λak h=>ob (n9 O b [e,ak] h) λal h=>ob (cS prog 3 5 x h) λam h=>ob (M.aD (aG 1 ad) h) λan h=>ob (ld1 an h) λao h=>ob (O (.func 154) [ao] h) λap h=>ob (cS prog 83 23 ap h) λaq h=>ob (M.aD (bld prog 71 [(0,(.int .u8 2)),(1,am),(2,aq)]) h) λar h=>ob (n9 O b [e,ar] h) λau h=>ob (M.aD (bin prog .add 3 x (.int .i64 1)) h) λav h=>k .normal [a,b,c,d,e,f,x,ad,j,l,m,n,o,p,q,r,s,t,u,v,w,av,aa,x,ab,ac,b,e,x,af,ag,ah,ai,aj,ak,al,b,e,x,am,an,ao,ap,aq,ar,au,av,zm] h) (k (.exit 2) [a,b,c,d,e,f,g,i,j,l,m,n,o,p,q,r,s,t,u,v,w,x,aa,z,A,B,C,D,E,F,G,H,I,J,zz,zy,zx,zw,zv,zu,zt,zs,zr,zq,zp,zo,zn,zm] h):=by kernel_rfl
def Mg:Code:=b9 [1,0,0] (cC prog 102)
def Mi (O:aE)(L:LV):KV:=(dN 0 (eX prog Tryz.f102))
theorem aId:Mi O L (.exit 0) [a,b,c,d,e,f,g,i,j,l,m,n,o,p,q,r,s,t,u,v,w,x,y,z,A,B,C,D,E,F,G,H,I,J,zz,zy,zx,zw,zv,zu,zt,zs,zr,zq,zp,zo,zn,zm] h=some (aJ [],h):=by kernel_rfl
theorem W5:aK prog O L Mg k [a,b,c,d,e,f,g,i,j,l,m,n,o,p,q,r,s,t,u,v,w,x,y,z,A,B,C,D,E,F,G,H,I,J,zz,zy,zx,zw,zv,zu,zt,zs,zr,zq,zp,zo,zn,zm] h=ob (M.aD (bin prog .lss 3 p o) h) λaa h=>aL aa (ob (M.aD (bH 3 n p) h) λab h=>ob (ldN 3 ab h) λac h=>ob (cP 167 [(.int .i64 0),(.slice none 0 0),(.pointer none)] .fix h) λad h=>ob (stN 3 ad ac h) λae h=>ob (M.aD (aG 1 ad) h) λaf h=>ob (ld1 af h) λag h=>ob (M.aD (bX ag) h) λah h=>L (aK prog O L Mh) (Mj O L k) [a,b,c,d,p,ad,g,i,j,l,m,n,o,p,aa,p,ab,ac,af,ag,ah,(.int .i64 0),y,z,A,B,C,D,E,F,G,H,I,J,zz,zy,zx,zw,zv,zu,zt,zs,zr,zq,zp,zo,zn,zm] h) (k (.exit 0) [a,b,c,d,e,f,g,i,j,l,m,n,o,p,aa,r,s,t,u,v,w,x,y,z,A,B,C,D,E,F,G,H,I,J,zz,zy,zx,zw,zv,zu,zt,zs,zr,zq,zp,zo,zn,zm] h):=by kernel_rfl
theorem aIe:cA prog O L 102 [N,P] h=ob (M.aD (aO N) h) λaa h=>ob (M.aD (aG 13 aa) h) λab h=>ob (ld1 ab h) λac h=>ob (M.aD (bX ac) h) λad h=>L (aK prog O L Mg) (Mi O L) [N,P,undef,undef,undef,undef,undef,undef,N,aa,ab,ac,ad,(.int .i64 0),undef,undef,undef,undef,undef,undef,undef,undef,undef,undef,undef,undef,undef,undef,undef,undef,undef,undef,undef,undef,undef,undef,undef,undef,undef,undef,undef,undef,undef,undef,undef,undef,undef,undef] h:=by kernel_rfl
theorem W7:cA prog O L 111 [N,P,Q] h=ob (cP 172 [(.pointer none),(.pointer none)] .fix h) λaa h=>ob (M.aD (bin prog .lss 3 P (.int .i64 1)) h) λab h=>ob (gd ab false (M.cB P) h) λac h=>ob (gd ab false (M.cB N) h) λad h=>ob (gd ab false (M.aD (aO ad)) h) λae h=>ob (gd ab false (M.aD (aG 13 ae)) h) λaf h=>ob (gd ab false (ld1 af) h) λag h=>ob (gd ab false (M.aD (bX ag)) h) λah h=>ob (gd ab false (M.aD (bin prog .geq 3 ac ah)) h) λai h=>ob (M.aD (cF ab (.bool true) ai) h) λaj h=>ob (gd aj false (M.cB Q) h) λak h=>ob (gd aj false (M.aD (bin prog .lss 3 ak (.int .i64 0))) h) λal h=>ob (M.aD (cF aj (.bool true) al) h) λam h=>ob (gd am false (M.cB Q) h) λan h=>ob (gd am false (M.cB N) h) λao h=>ob (gd am false (M.aD (aO ao)) h) λap h=>ob (gd am false (M.aD (aG 1 ap)) h) λaq h=>ob (gd am false (M.aD (aG 2 aq)) h) λar h=>ob (gd am false (ld1 ar) h) λau h=>ob (gd am false (M.aD (bin prog .geq 3 an au)) h) λav h=>ob (M.aD (cF am (.bool true) av) h) λaw h=>aL aw (ob (M.aD (bld prog 172 []) h) λax h=>ob (stN 2 aa ax h) λay h=>ob (ldN 2 aa h) λw23 _=>some (aJ [w23,(.bool false)],h)) (ob (M.aD (aO N) h) λaz h=>ob (M.aD (aG 13 az) h) λba h=>ob (ld1 ba h) λbb h=>ob (M.aD (bH 3 bb P) h) λbc h=>ob (M.aD (aG 1 bc) h) λbd h=>ob (ld1 bd h) λbe h=>ob (M.aD (bH 2 be Q) h) λbf h=>ob (ldN 2 bf h) λbg h=>ob (stN 2 aa bg h) λbh h=>ob (ldN 2 aa h) λw33 _=>some (aJ [w33,(.bool true)],h)):=by kernel_rfl
def Mk:Code:=b9 [1,0,1,0,0] (cC prog 114)
def Fc:KV:=(dN 0 (eF prog O L (b9 [1,1] (cC prog 114)) (eX prog Tryz.f114)))
theorem aIf:Fc O L (.exit 0) [a,b,c,d,e,f,g,i,j,l,m,n,o,p,q,r,s,t,u] h=some (aJ [(.int .i64 (-1))],h):=by kernel_rfl
theorem aIh:Fc O L .ret [a,b,c,d,e,f,g,i,j,l,m,n,o,p,q,r,s,t,u] h=some (aJ [e],h):=by kernel_rfl
theorem W8:aK prog O L Mk k [a,b,c,d,e,f,g,i,j,l,m,n,o,p,q,r,s,t,u] h=ob (M.aD (bin prog .lss 3 j i) h) λaa h=>aL aa (ob (M.aD (bH 3 a j) h) λab h=>ob (ldN 3 ab h) λac h=>ob (n9 O b [ac] h) λad h=>aL ad (k .ret [a,b,c,d,j,j,g,i,j,aa,j,b,a,j,ab,ac,ad,j,u] h) (ob (M.aD (bin prog .add 3 j (.int .i64 1)) h) λae h=>k .normal [a,b,c,d,e,j,g,i,ae,aa,j,b,a,j,ab,ac,ad,t,ae] h)) (k (.exit 0) [a,b,c,d,e,f,g,i,j,aa,m,n,o,p,q,r,s,t,u] h):=by kernel_rfl
theorem aIg:cA prog O L 114 [N,P] h=ob (M.aD (bX N) h) λaa h=>L (aK prog O L Mk) (Fc O L) [N,P,undef,undef,(.int .i64 0),undef,N,aa,(.int .i64 0),undef,undef,undef,undef,undef,undef,undef,undef,undef,undef] h:=by kernel_rfl
theorem aIi:cA prog O L 115 [N,P] h=ob (cP 167 (Value.cells N).toList .fix h) λaa h=>ob (M.aD (aG 0 aa) h) λab h=>ob (ld1 ab h) λac h=>ob (ld1 P h) λad h=>ob (M.aD (bin prog .eql 3 ac ad) h) λae h=>some (aJ [ae],h):=by kernel_rfl
theorem W9:cA prog O L 116 [N] h=ob (cP 71 [(.int .u8 0),(.int .u8 0),(.int .u16 0),(.int .u8 0),(.int .u8 0),(.int .u32 0)] .fix h) λaa h0=>ob (cP 71 [(.int .u8 0),(.int .u8 0),(.int .u16 0),(.int .u8 0),(.int .u8 0),(.int .u32 0)] .fix h0) λab h1=>ob (M.aD (bX N) h1) λac h2=>ob (M.aD (bin prog .neq 3 ac (.int .i64 6)) h2) λad h3=>ob (gd ad true (M.cB N) h3) λae h4=>ob (gd ad true (M.aD (bX ae)) h4) λaf h5=>ob (gd ad true (M.aD (bin prog .neq 3 af (.int .i64 12))) h5) λag h6=>ob (M.aD (cF ad ag (.bool false)) h6) λah h7=>aL ah (ob (ldN 6 ab h7) λai h8=>ob (stN 6 aa ai h8) λaj h9=>ob (ldN 6 aa h9) λw10 _=>some (aJ [w10,(.int .u16 30)],h9)) (ob (M.aD (bX N) h7) λak h11=>ob (M.aD (bin prog .sub 3 ak (.int .i64 2)) h11) λal h12=>ob (M.aD (bX N) h12) λam h13=>ob (M.aD (bin prog .sub 3 am (.int .i64 2)) h13) λan h14=>ob (slc prog 1 N none (some al) (some an) h14) λao h15=>ifB (true) (ob (O (.func 175) [ao] h15) λap h16=>ifB (true) (ob (cS prog 23 29 ap h16) λaq h17=>ob (M.aD (bX N) h17) λar h18=>ob (M.aD (bin prog .sub 3 ar (.int .i64 2)) h18) λau h19=>ob (slc prog 1 N (some au) none none h19) λav h20=>ifB (chk ((slc prog 1 N (some au) none none) h15) av&&(true)) (ob (O (.func 194) [av] h20) λaw h21=>ifB (true) (ob (M.aD (bin prog .neq 29 aq aw) h21) λax h22=>aL ax (ob (ldN 6 ab h22) λay h23=>ob (stN 6 aa ay h23) λaz h24=>ob (ldN 6 aa h24) λw25 _=>some (aJ [w25,(.int .u16 30)],h24)) (ob (M.aD (bH 1 N (.int .i64 0)) h22) λba h26=>ob (ld1 ba h26) λbb h27=>ob (M.aD (bin prog .eql 5 bb (.int .u8 1)) h27) λbc h28=>ob (M.aD (bX N) h28) λbd h29=>ob (M.aD (bin prog .eql 3 bd (.int .i64 12)) h29) λbe h30=>ob (M.aD (bin prog .neq 4 bc be) h30) λbf h31=>aL bf (ob (ldN 6 ab h31) λbg h32=>ob (stN 6 aa bg h32) λbh h33=>ob (ldN 6 aa h33) λw34 _=>some (aJ [w34,(.int .u16 30)],h33)) (ob (M.aD (bH 1 N (.int .i64 0)) h31) λbi h35=>ob (ld1 bi h35) λbj h36=>ifB (true) (ob (M.aD (bH 1 N (.int .i64 1)) h36) λbk h37=>ob (ld1 bk h37) λbl h38=>ifB (true) (ob (slc prog 1 N (some (.int .i64 2)) (some (.int .i64 4)) none h38) λbm h39=>ifB (true) (ob (O (.func 194) [bm] h39) λbn h40=>ifB (chk ((ld1 bk) h40) bl&&(chk ((ld1 bi) h40) bj&&(true))) (ob (cS prog 29 23 bn h40) λbo h41=>ob (M.aD (bld prog 71 [(0,bj),(1,bl),(2,bo)]) h41) λbp h42=>ob (stN 6 ab bp h42) λbq h43=>ifB (true) (ob (M.aD (bX N) h43) λbr h44=>ob (M.aD (bin prog .eql 3 br (.int .i64 12)) h44) λbs h45=>aL bs (ob (M.aD (bH 1 N (.int .i64 4)) h45) λbt h46=>ob (ld1 bt h46) λbu h47=>ifB (true) (ob (M.aD (bH 1 N (.int .i64 5)) h47) λbv h48=>ob (ld1 bv h48) λbw h49=>ifB (true) (ob (slc prog 1 N (some (.int .i64 6)) (some (.int .i64 10)) none h49) λbx h50=>ifB (true) (ob (O (.func 194) [bx] h50) λbz h51=>ifB (chk ((ld1 bv) h51) bw&&(chk ((ld1 bt) h51) bu&&(true))) (ob (M.aD (aG 3 ab) h51) λca h52=>ob (stN 1 ca bu h52) λcb h53=>ifB (chk ((ld1 bv) h53) bw&&(true)) (ob (M.aD (aG 4 ab) h53) λcc h54=>ob (stN 1 cc bw h54) λcd h55=>ifB (true) (ob (M.aD (aG 5 ab) h55) λce h56=>ob (stN 1 ce bz h56) λcf h57=>ifB (true) (ob (ldN 6 ab h57) λcg h58=>ob (O (.func 172) [cg] h58) λch h59=>ob (M.aD (un prog .not ch) h59) λci h60=>aL ci (ob (M.aD (bld prog 71 []) h60) λcj h61=>ob (stN 6 aa cj h61) λck h62=>ob (ldN 6 aa h62) λw63 _=>some (aJ [w63,(.int .u16 30)],h62)) (ob (ldN 6 ab h60) λcl h64=>ob (stN 6 aa cl h64) λcm h65=>ob (ldN 6 aa h65) λw66 _=>some (aJ [w66,(.int .u16 0)],h65)))))))))) (ob (ldN 6 ab h45) λcn h67=>ob (O (.func 172) [cn] h67) λco h68=>ob (M.aD (un prog .not co) h68) λcp h69=>aL cp (ob (M.aD (bld prog 71 []) h69) λcq h70=>ob (stN 6 aa cq h70) λcr h71=>ob (ldN 6 aa h71) λw72 _=>some (aJ [w72,(.int .u16 30)],h71)) (ob (ldN 6 ab h69) λcs h73=>ob (stN 6 aa cs h73) λct h74=>ob (ldN 6 aa h74) λw75 _=>some (aJ [w75,(.int .u16 0)],h74))))))))))))))):=by kernel_rfl
theorem aIj:cA prog O L 117 [N,P] h=ob (M.aD (aO N) h) λaa h=>ob (M.aD (aG 0 aa) h) λab h=>ob (M.aD (aG 1 ab) h) λac h=>ob (ld1 ac h) λad h=>ob (O (.func 195) [ad,P] h) λae h=>ob (M.aD (aO N) h) λaf h=>ob (M.aD (aG 0 af) h) λag h=>ob (M.aD (aG 1 ag) h) λah h=>ob (ld1 ah h) λai h=>ob (M.aD (bin prog .leq 83 ae ai) h) λaj h=>ob (gd aj false (M.cB ae) h) λak h=>ob (gd aj false (M.cB N) h) λal h=>ob (gd aj false (M.aD (aO al)) h) λam h=>ob (gd aj false (M.aD (aG 0 am)) h) λan h=>ob (gd aj false (M.aD (aG 0 an)) h) λao h=>ob (gd aj false (ld1 ao) h) λap h=>ob (gd aj false (M.aD (bin prog .add 83 ap (.int .u64 8))) h) λaq h=>ob (gd aj false (M.aD (bin prog .gtr 83 ak aq)) h) λar h=>ob (M.aD (cF aj (.bool true) ar) h) λau h=>aL au (some (aJ [(.bool false)],h)) (ob (M.aD (aO N) h) λav h=>ob (M.aD (aG 0 av) h) λaw h=>ob (M.aD (aG 1 aw) h) λax h=>ob (stN 1 ax ae h) λay h=>some (aJ [(.bool true)],h)):=by kernel_rfl
theorem aIk:cA prog O L 118 [N,P] h=ob (O (.func 196) [N,P] h) λaa h=>ob (M.aD (ext 0 aa) h) λab h=>ob (M.aD (ext 1 aa) h) λac h=>ob (M.aD (ext 2 aa) h) λad h=>ob (M.aD (un prog .not ad) h) λae h=>ob (gd ae false (M.cB ac) h) λaf h=>ob (gd ae false (M.aD (bin prog .eql 83 af (.int .u64 0))) h) λag h=>ob (M.aD (cF ae (.bool true) ag) h) λah h=>ob (gd ah false (M.cB ac) h) λai h=>ob (gd ah false (M.cB N) h) λaj h=>ob (gd ah false (M.aD (aO aj)) h) λak h=>ob (gd ah false (M.aD (aG 2 ak)) h) λal h=>ob (gd ah false (ld1 al) h) λam h=>ifB (true) (ob (gd ah false (M.cB N) h) λan h=>ob (gd ah false (M.aD (aO an)) h) λao h=>ob (gd ah false (M.aD (aG 1 ao)) h) λap h=>ob (gd ah false (ld1 ap) h) λaq h=>ifB (true) (ob (gd ah false (M.aD (bin prog .sub 3 am aq)) h) λar h=>ob (gd ah false (cS prog 3 83 ar) h) λau h=>ob (gd ah false (M.aD (bin prog .gtr 83 ai au)) h) λav h=>ob (M.aD (cF ah (.bool true) av) h) λaw h=>aL aw (some (aJ [(.bool false)],h)) (ob (M.aD (aO N) h) λax h=>ob (M.aD (aG 0 ax) h) λay h=>ob (stN 1 ay ab h) λaz h=>some (aJ [(.bool true)],h)))):=by kernel_rfl
theorem Ml:cA prog O L 119 [N,P,Q,R] h=ob (cP 172 (Value.cells Q).toList .fix h) λaa h0=>ob (cP 71 (Value.cells R).toList .fix h0) λab h1=>ob (M.aD (aG 3 ab) h1) λac h2=>ob (ld1 ac h2) λad h3=>ifB (true) (ob (M.aD (aG 4 ab) h3) λae h4=>ob (ld1 ae h4) λaf h5=>ifB (true) (ob (M.aD (lV prog true [ad,af]) h5) λag h6=>ob (cS prog 5 3 ag h6) λah h7=>ob (M.aD (aO N) h7) λai h8=>ob (M.aD (aG 1 ai) h8) λaj h9=>ob (M.aD (aG 0 aj) h9) λak h10=>ob (ld1 ak h10) λal h11=>ifB (true) (ob (M.aD (bin prog .geq 3 ah al) h11) λam h12=>aL am (some (aJ [(.int .u16 30)],h12)) (ob (M.aD (aG 1 aa) h12) λan h13=>ob (ld1 an h13) λao h14=>ob (M.aD (aG 2 ab) h14) λap h15=>ob (ld1 ap h15) λaq h16=>ob (O (.func 197) [ao,aq] h16) λar h17=>ob (M.aD (bin prog .neq 60 ar (.int .u16 0)) h17) λau h18=>aL au (some (aJ [ar],h18)) (ob (M.aD (aG 3 ab) h18) λav h19=>ob (ld1 av h19) λaw h20=>ob (cS prog 5 3 aw h20) λax h21=>ob (M.aD (aG 4 ab) h21) λay h22=>ob (ld1 ay h22) λaz h23=>ob (cS prog 5 3 az h23) λba h24=>ob (M.aD (aG 1 ab) h24) λbb h25=>ob (ld1 bb h25) λbc h26=>ob (cS prog 5 3 bc h26) λbd h27=>ob (M.aD (aG 5 ab) h27) λbe h28=>ob (ld1 be h28) λbf h29=>ob (M.aD (bld prog 31 [(0,ax),(1,ba),(2,bd),(3,bf)]) h29) λbg h30=>ob (cP 31 [(.int .i64 0),(.int .i64 0),(.int .i64 0),(.int .u32 0)] .fix h30) λbh h31=>ob (stN 4 bh bg h31) λbi h32=>ob (M.aD (aO N) h32) λbj h33=>ob (M.aD (aG 15 bj) h33) λbk h34=>ob (ld1 bk h34) λbl h35=>ifB (true) (ob (M.aD (aG 1 bh) h35) λbm h36=>ob (ld1 bm h36) λbn h37=>ifB (true) (ob (O (.func 178) [N,bn] h37) λbo h38=>ifB (chk ((ld1 bk) h38) bl&&(true)) (ob (M.aD (aG 2 bh) h38) λbp h39=>ob (ld1 bp h39) λbq h40=>ifB (chk ((ld1 bp) h37) bq&&(true)) (ob (ldN 4 bh h40) λbr h41=>ifB (chk ((ldN 4 bh) h37) br&&(true)) (ob (O (.func 177) [bl,P,bo,bq,br] h41) λbs h42=>ifB (true) (some (aJ [(.int .u16 0)],h42)))))))))))):=by kernel_rfl
theorem aIl:cA prog O L 120 [N] h=ob (cP 202 (Value.cells N).toList .fix h) λaa h=>ob (M.aD (aG 1 aa) h) λab h=>ob (ld1 ab h) λac h=>ob (M.aD (aG 0 aa) h) λad h=>ob (ld1 ad h) λae h=>ob (M.aD (bin prog .sub 83 ac ae) h) λaf h=>ob (cS prog 83 3 af h) λag h=>some (aJ [ag],h):=by kernel_rfl
theorem Xa:cA prog O L 121 [N] h=ob (M.aD (bin prog .eql 42 N (.slice none 0 0)) h) λaa h=>aL aa (some (aJ [(.slice none 0 0)],h)) (ob (dJ 31 4 0 [(.int .i64 0),(.int .i64 0),(.int .i64 0),(.int .u32 0)] [] h) λab h=>ob (app 31 4 32 ab N h) λac h=>some (aJ [ac],h)):=by kernel_rfl
theorem aIm:cA prog O L 154 [N] h=ob (M.aD (aO N) h) λaa h=>ob (M.aD (aG 0 aa) h) λab h=>ob (ld1 ab h) λac h=>ifB (true) (ob (M.aD (aO N) h) λad h=>ob (M.aD (aG 2 ad) h) λae h=>ob (ld1 ae h) λaf h=>ifB (true) (ob (M.aD (aO N) h) λag h=>ob (M.aD (aG 1 ag) h) λah h=>ob (ld1 ah h) λai h=>ifB (true) (ob (M.aD (bin prog .sub 3 af ai) h) λaj h=>ob (cS prog 3 83 aj h) λak h=>ob (M.aD (bin prog .add 83 ac ak) h) λal h=>some (aJ [al],h)))):=by kernel_rfl
theorem aIn:cA prog O L 172 [N] h=ob (cP 71 (Value.cells N).toList .fix h) λaa h=>ob (M.aD (aG 0 aa) h) λab h=>ob (ld1 ab h) λac h=>ob (M.aD (bin prog .eql 5 ac (.int .u8 1)) h) λad h=>aL ad (ob (M.aD (aG 1 aa) h) λae h=>ob (ld1 ae h) λaf h=>ob (M.aD (bin prog .lss 5 af (.int .u8 3)) h) λag h=>ob (gd ag true (M.aD (aG 3 aa)) h) λah h=>ob (gd ag true (ld1 ah) h) λai h=>ob (gd ag true (M.aD (aG 4 aa)) h) λaj h=>ob (gd ag true (ld1 aj) h) λak h=>ob (gd ag true (M.aD (lV prog true [ai,ak])) h) λal h=>ob (gd ag true (M.aD (bin prog .lss 5 al (.int .u8 6))) h) λam h=>ob (M.aD (cF ag am (.bool false)) h) λan h=>ob (gd an true (M.aD (aG 3 aa)) h) λao h=>ob (gd an true (ld1 ao) h) λap h=>ob (gd an true (M.aD (aG 4 aa)) h) λaq h=>ob (gd an true (ld1 aq) h) λar h=>ob (gd an true (M.aD (bin prog .neq 5 ap ar)) h) λau h=>ob (M.aD (cF an au (.bool false)) h) λav h=>some (aJ [av],h)) (ob (M.aD (bin prog .eql 5 ac (.int .u8 2)) h) λaw h=>aL aw (aL aw (ob (M.aD (aG 1 aa) h) λax h=>ob (ld1 ax h) λay h=>ob (M.aD (bin prog .lss 5 ay (.int .u8 3)) h) λaz h=>ob (gd az true (ldN 6 aa) h) λba h=>ob (gd az true (M.aD (aG 0 aa)) h) λbb h=>ob (gd az true (ld1 bb) h) λbc h=>ob (gd az true (M.aD (aG 1 aa)) h) λbd h=>ob (gd az true (ld1 bd) h) λbe h=>ob (gd az true (M.aD (aG 2 aa)) h) λbf h=>ob (gd az true (ld1 bf) h) λbg h=>ob (gd az true (M.aD (bld prog 71 [(0,bc),(1,be),(2,bg)])) h) λbh h=>ob (gd az true (M.aD (bin prog .eql 71 ba bh)) h) λbi h=>ob (M.aD (cF az bi (.bool false)) h) λbj h=>some (aJ [bj],h)) (some (aJ [(.bool false)],h))) (ob (M.aD (bin prog .eql 5 ac (.int .u8 3)) h) λbk h=>aL bk (ob (M.aD (aG 1 aa) h) λbl h=>ob (ld1 bl h) λbm h=>ob (M.aD (bin prog .lss 5 bm (.int .u8 3)) h) λbn h=>ob (gd bn true (ldN 6 aa) h) λbo h=>ob (gd bn true (M.aD (aG 0 aa)) h) λbp h=>ob (gd bn true (ld1 bp) h) λbq h=>ob (gd bn true (M.aD (aG 1 aa)) h) λbr h=>ob (gd bn true (ld1 br) h) λbs h=>ob (gd bn true (M.aD (aG 2 aa)) h) λbt h=>ob (gd bn true (ld1 bt) h) λbu h=>ob (gd bn true (M.aD (bld prog 71 [(0,bq),(1,bs),(2,bu)])) h) λbv h=>ob (gd bn true (M.aD (bin prog .eql 71 bo bv)) h) λbw h=>ob (M.aD (cF bn bw (.bool false)) h) λbx h=>some (aJ [bx],h)) (some (aJ [(.bool false)],h)))):=by kernel_rfl
theorem aIo:cA prog O L 173 [N,P] h=ob (M.aD (bin prog .shr 23 P (.int .u64 8)) h) λaa h=>ob (cS prog 23 5 aa h) λab h=>ob (cS prog 23 5 P h) λac h=>ob (dJ 5 1 2 [(.int .u8 0)] [(0,ab),(1,ac)] h) λad h=>ob (app 5 1 1 N ad h) λae h=>some (aJ [ae],h):=by kernel_rfl
theorem aIp:cA prog O L 174 [N,P] h=ob (M.aD (bin prog .shr 29 P (.int .u64 16)) h) λaa h=>ob (cS prog 29 23 aa h) λab h=>ob (O (.func 173) [N,ab] h) λac h=>ob (cS prog 29 23 P h) λad h=>ob (O (.func 173) [ac,ad] h) λae h=>some (aJ [ae],h):=by kernel_rfl
def Mm:Code:=b9 [1,1,0,1,0,0] (cC prog 175)
def Mn:KV:=(dN 0 (eF prog O L (b9 [1,1,1] (cC prog 175)) (eX prog Tryz.f175)))
theorem aIq:Mn O L (.exit 0) [a,b,c,d,e,f,g,i,j,l,m,n,o,p,q,r] h=ob (ld1 d h) λaa h=>some (aJ [aa],h):=by kernel_rfl
theorem Xb:aK prog O L Mm k [a,b,c,d,e,f,g,i,j,l,m,n,o,p,q,r] h=ob (M.aD (bin prog .lss 3 j i) h) λaa h=>aL aa (ob (M.aD (bH 1 g j) h) λab h=>ob (ld1 ab h) λac h=>ob (O (.func 233) [d,ac] h) λad h=>ob (M.aD (bin prog .add 3 j (.int .i64 1)) h) λae h=>k .normal [a,b,c,d,e,ac,g,i,ae,aa,ab,ac,ac,ad,ae,r] h) (k (.exit 0) [a,b,c,d,e,f,g,i,j,aa,m,n,o,p,q,r] h):=by kernel_rfl
theorem aIr:cA prog O L 175 [N] h=ob (cP 331 [(.int .u16 0)] .fix h) λaa h=>ob (stN 1 aa (.int .u16 65535) h) λab h=>ob (M.aD (bX N) h) λac h=>L (aK prog O L Mm) (Mn O L) [N,undef,(.int .u16 0),aa,undef,undef,N,ac,(.int .i64 0),undef,undef,undef,undef,undef,undef,undef] h:=by kernel_rfl
theorem Xc:cA prog O L 176 [N,P] h=ob (cP 31 [(.int .i64 0),(.int .i64 0),(.int .i64 0),(.int .u32 0)] .fix h) λaa h=>ob (O (.func 40) [N,P] h) λab h=>ob (M.aD (bin prog .eql 3 ab (.int .i64 0)) h) λac h=>aL ac (ob (M.aD (bld prog 31 []) h) λad h=>ob (stN 4 aa ad h) λae h=>ob (ldN 4 aa h) λw5 _=>some (aJ [w5,(.bool false)],h)) (ob (M.aD (aO N) h) λaf h=>ob (M.aD (aG 0 af) h) λag h=>ob (M.aD (qI 3 1 ag P) h) λah h=>ob (ld1 ah h) λai h=>ob (M.aD (bH 4 ai (.int .i64 0)) h) λaj h=>ob (ldN 4 aj h) λak h=>ob (cP 31 [(.int .i64 0),(.int .i64 0),(.int .i64 0),(.int .u32 0)] .fix h) λal h=>ob (stN 4 al ak h) λam h=>ob (M.aD (aO N) h) λan h=>ob (M.aD (aG 0 an) h) λao h=>ob (M.aD (qI 3 1 ao P) h) λap h=>ob (ld1 ap h) λaq h=>ifB (true) (ob (slc prog 4 aq (some (.int .i64 1)) none none h) λar h=>ifB (true) (ob (M.aD (aO N) h) λau h=>ob (M.aD (aG 0 au) h) λav h=>ob (M.aD (qI 3 1 av P) h) λaw h=>ob (stN 1 aw ar h) λax h=>ifB (true) (ob (ldN 4 al h) λay h=>ob (stN 4 aa ay h) λaz h=>ob (ldN 4 aa h) λw25 _=>some (aJ [w25,(.bool true)],h))))):=by kernel_rfl
theorem aIs:cA prog O L 178 [N,P] h=ob (M.aD (aO N) h) λaa h=>ob (M.aD (aG 12 aa) h) λab h=>ob (ld1 ab h) λac h=>ob (M.aD (bin prog .eql 3 P ac) h) λad h=>aL ad (some (aJ [(.int .i64 0)],h)) (ob (M.aD (aO N) h) λae h=>ob (M.aD (aG 1 ae) h) λaf h=>ob (M.aD (aG 10 af) h) λag h=>ob (ld1 ag h) λah h=>ifB (true) (ob (M.aD (aO N) h) λai h=>ob (M.aD (aG 12 ai) h) λaj h=>ob (ld1 aj h) λak h=>ifB (true) (ob (M.aD (bH 1 ah ak) h) λal h=>ob (ld1 al h) λam h=>ifB (true) (ob (M.aD (bH 1 am P) h) λan h=>ob (ld1 an h) λao h=>ifB (true) (ob (cP 3 [(.int .i64 0)] .fix h) λap h=>ob (stN 1 ap ao h) λaq h=>ifB (true) (ob (M.aD (aO N) h) λar h=>ob (M.aD (aG 13 ar) h) λau h=>ob (ld1 au h) λav h=>ob (slc prog 3 av (some (.int .i64 1)) none none h) λaw h=>ob (O (.func 114) [aw,(.func (.func 236) #[] #[ap])] h) λax h=>ob (M.aD (bin prog .add 3 ax (.int .i64 1)) h) λay h=>some (aJ [ay],h))))))):=by kernel_rfl
def Mo:Code:=b9 [1,1,1,1,1,1,0,0,0] (cC prog 179)
def Mp:KV:=(dN 0 (eF prog O L (b9 [1,1,1,1,1,1,1] (cC prog 179)) (eX prog Tryz.f179)))
theorem aIx:Mp O L (.exit 0) [a,b,c,d,e,f,g,i,j,l,m,n,o,p,q,r,s,t,u,v,w,x,y,z,A,B,C,D,E,F,G,H,I,J,zz,zy,zx,zw,zv,zu,zt,zs,zr,zq,zp,zo,zn,zm] h=some (aJ [i],h):=by kernel_rfl
theorem aIt:aK prog O L Mo k [a,b,c,d,e,f,g,i,j,l,m,n,o,p,q,r,s,t,u,v,w,x,y,z,A,B,C,D,E,F,G,H,I,J,zz,zy,zx,zw,zv,zu,zt,zs,zr,zq,zp,zo,zn,zm] h=ob (M.aD (bX i) h) λaa h=>ob (M.aD (bin prog .lss 3 j aa) h) λab h=>aL ab (ob (slc prog 1 i (some j) none none h) λac h=>ifB (true) (ob (slc prog 1 i none (some j) none h) λad h=>ifB (true) (ob (cpy 1 ac ad h) λae h=>ifB (true) (ob (M.aD (bin prog .add 3 j ae) h) λaf h=>k .normal [a,b,c,d,e,f,g,i,af,l,m,n,o,p,q,r,s,t,u,v,w,x,y,z,A,B,C,D,E,F,G,H,I,J,j,i,aa,ab,j,i,j,ac,i,j,ad,ae,af,zm] h)))) (k (.exit 0) [a,b,c,d,e,f,g,i,j,l,m,n,o,p,q,r,s,t,u,v,w,x,y,z,A,B,C,D,E,F,G,H,I,J,j,i,aa,ab,zv,zu,zt,zs,zr,zq,zp,zo,zn,zm] h):=by kernel_rfl
def aIw:Code:=b9 [1,1,1,1,1,1,0,0,0] (cC prog 179)
def aIB:KV:=(dN 0 (eF prog O L (b9 [1,1,1,1,1,1,1] (cC prog 179)) (eX prog Tryz.f179)))
def aIv:Code:=b9 [1,1,1,1,1,1,0,0,0] (cC prog 179)
def aIA:KV:=(dN 0 (eF prog O L (b9 [1,1,1,1,1,1,1] (cC prog 179)) (eX prog Tryz.f179)))
def aIu:Code:=b9 [1,1,1,1,1,1,0,0,0] (cC prog 179)
def aIz:KV:=(dN 0 (eF prog O L (b9 [1,1,1,1,1,1,1] (cC prog 179)) (eX prog Tryz.f179)))
theorem aIy:cA prog O L 179 [N,P] h=ob (M.aD (bin prog .lss 3 P (.int .i64 0)) h) λaa h=>aL aa (ob (M.dL /- operation -/ h) λab h=>ob (M.dL /- operation -/ h) λac h=>ob (M.aD (bX N) h) λad h=>ob (cS prog 3 187 ad h) λae h=>ob (cS prog 3 187 P h) λaf h=>ob (O (.func 237) [ae,af] h) λag h=>ob (M.aD (ext 0 ag) h) λah h=>ob (M.aD (ext 1 ag) h) λai h=>ob (M.aD (bin prog .gtr 187 ah (.int .u64 0)) h) λaj h=>ob (gd aj false (M.cB ai) h) λak h=>ob (gd aj false (M.aD (bin prog .gtr 187 ak (.int .u64 9223372036854775807))) h) λal h=>ob (M.aD (cF aj (.bool true) al) h) λam h=>aL am (ob (M.dL /- operation -/ h) λan h=>ob (M.dL /- operation -/ h) λao h=>ob (cS prog 187 3 ai h) λap h=>ob (lC 3 1 8 [(.int .i64 0)] ap ap h) λaq h=>ob (cpy 1 aq N h) λar h=>L (aK prog O L aIu) (aIz O L) [N,P,undef,undef,(.slice none 0 0),ah,ai,aq,ar,P,aa,ab,ag,N,ad,ae,P,af,ag,ah,ai,ah,aj,aj,ak,al,am,an,ai,ap,aq,aq,N,ar,undef,undef,undef,undef,undef,undef,undef,undef,undef,undef,undef,undef,undef,undef] h) (ob (cS prog 187 3 ai h) λau h=>ob (lC 3 1 8 [(.int .i64 0)] au au h) λav h=>ob (cpy 1 av N h) λaw h=>L (aK prog O L aIv) (aIA O L) [N,P,undef,undef,(.slice none 0 0),ah,ai,av,aw,P,aa,ab,ag,N,ad,ae,P,af,ag,ah,ai,ah,aj,aj,ak,al,am,undef,ai,au,av,av,N,aw,undef,undef,undef,undef,undef,undef,undef,undef,undef,undef,undef,undef,undef,undef] h)) (ob (M.aD (bX N) h) λax h=>ob (cS prog 3 187 ax h) λay h=>ob (cS prog 3 187 P h) λaz h=>ob (O (.func 237) [ay,az] h) λba h=>ob (M.aD (ext 0 ba) h) λbb h=>ob (M.aD (ext 1 ba) h) λbc h=>ob (M.aD (bin prog .gtr 187 bb (.int .u64 0)) h) λbd h=>ob (gd bd false (M.cB bc) h) λbe h=>ob (gd bd false (M.aD (bin prog .gtr 187 be (.int .u64 9223372036854775807))) h) λbf h=>ob (M.aD (cF bd (.bool true) bf) h) λbg h=>aL bg (ob (M.dL /- operation -/ h) λbh h=>ob (M.dL /- operation -/ h) λbi h=>ob (cS prog 187 3 bc h) λbj h=>ob (lC 3 1 8 [(.int .i64 0)] bj bj h) λbk h=>ob (cpy 1 bk N h) λbl h=>L (aK prog O L aIw) (aIB O L) [N,P,undef,undef,(.slice none 0 0),bb,bc,bk,bl,P,aa,undef,ba,N,ax,ay,P,az,ba,bb,bc,bb,bd,bd,be,bf,bg,bh,bc,bj,bk,bk,N,bl,undef,undef,undef,undef,undef,undef,undef,undef,undef,undef,undef,undef,undef,undef] h) (ob (cS prog 187 3 bc h) λbm h=>ob (lC 3 1 8 [(.int .i64 0)] bm bm h) λbn h=>ob (cpy 1 bn N h) λbo h=>L (aK prog O L Mo) (Mp O L) [N,P,undef,undef,(.slice none 0 0),bb,bc,bn,bo,P,aa,undef,ba,N,ax,ay,P,az,ba,bb,bc,bb,bd,bd,be,bf,bg,undef,bc,bm,bn,bn,N,bo,undef,undef,undef,undef,undef,undef,undef,undef,undef,undef,undef,undef,undef,undef] h)):=by kernel_rfl
def Mq:Code:=b9 [1,1,0,1,0,0] (cC prog 181)
def Mr:KV:=(dN 0 (eF prog O L (b9 [1,1,1] (cC prog 181)) (eX prog Tryz.f181)))
theorem aIC:Mr O L (.exit 0) [a,b,c,d,e,f,g,i,j,l,m,n,o,p,q,r,s,t,u,v,w,x,y,z,A,B,C,D,E,F,G,H,I,J,zz,zy,zx,zw,zv,zu,zt,zs,zr,zq,zp,zo,zn,zm,zl,zk,zj,zi,zh,zg,zf,ze,zd] h=some (aJ [i],h):=by kernel_rfl
theorem Xd:aK prog O L Mq k [a,b,c,d,e,f,g,i,j,l,m,n,o,p,q,r,s,t,u,v,w,x,y,z,A,B,C,D,E,F,G,H,I,J,zz,zy,zx,zw,zv,zu,zt,zs,zr,zq,zp,zo,zn,zm,zl,zk,zj,zi,zh,zg,zf,ze,zd] h=ob (M.aD (bin prog .lss 3 s r) h) λaa h=>aL aa (ob (M.aD (bH 1 q s) h) λab h=>ob (ld1 ab h) λac h=>ob (M.aD (aO b) h) λad h=>ob (M.aD (aG 1 ad) h) λae h=>ob (ld1 ae h) λaf h=>ifB (true) (ob (M.aD (bin prog .and 23 ac af) h) λag h=>ob (M.aD (aO a) h) λah h=>ob (M.aD (aG 0 ah) h) λai h=>ob (ld1 ai h) λaj h=>ifB (true) (ob (M.aD (bH 1 aj s) h) λak h=>ob (ld1 ak h) λal h=>ifB (true) (ob (M.aD (bX c) h) λam h=>ob (O (.func 182) [ag,al,am] h) λan h=>ifB (true) (ob (M.aD (bin prog .neq 3 an (.int .i64 (-1))) h) λao h=>ob (gd ao true (M.cB b) h) λap h=>ob (gd ao true (M.aD (aO ap)) h) λaq h=>ob (gd ao true (M.aD (aG 2 aq)) h) λar h=>ob (gd ao true (ld1 ar) h) λau h=>ob (gd ao true (M.cB s) h) λav h=>ob (gd ao true (O (.func 240) [au,av]) h) λaw h=>ob (M.aD (cF ao aw (.bool false)) h) λax h=>aL ax (ob (M.aD (bH 1 i an) h) λay h=>ob (ld1 ay h) λaz h=>ifB (true) (ob (M.aD (bin prog .shl 23 (.int .u16 1) s) h) λba h=>ob (M.aD (bin prog .or 23 az ba) h) λbb h=>ob (M.aD (bH 1 i an) h) λbc h=>ob (stN 1 bc bb h) λbd h=>ifB (true) (ob (M.aD (bin prog .add 3 s (.int .i64 1)) h) λbe h=>k .normal [a,b,c,d,e,f,g,i,s,ac,an,n,o,p,q,r,be,aa,s,ab,ac,ac,b,ad,ae,af,ag,a,ah,ai,aj,s,ak,al,c,am,an,an,ao,ao,ap,aq,ar,au,av,aw,ax,i,an,ay,az,s,ba,bb,bc,be,zd] h))) (ob (M.aD (bin prog .add 3 s (.int .i64 1)) h) λbf h=>k .normal [a,b,c,d,e,f,g,i,s,ac,an,n,o,p,q,r,bf,aa,s,ab,ac,ac,b,ad,ae,af,ag,a,ah,ai,aj,s,ak,al,c,am,an,an,ao,ao,ap,aq,ar,au,av,aw,ax,zm,zl,zk,zj,zi,zh,zg,zf,bf,zd] h)))))) (k (.exit 0) [a,b,c,d,e,f,g,i,j,l,m,n,o,p,q,r,s,aa,u,v,w,x,y,z,A,B,C,D,E,F,G,H,I,J,zz,zy,zx,zw,zv,zu,zt,zs,zr,zq,zp,zo,zn,zm,zl,zk,zj,zi,zh,zg,zf,ze,zd] h):=by kernel_rfl
theorem aID:cA prog O L 181 [N,P,Q] h=ob (M.aD (bX Q) h) λaa h=>ob (lC 23 1 2 [(.int .u16 0)] aa aa h) λab h=>ob (M.aD (bX Q) h) λac h=>L (aK prog O L Mq) (Mr O L) [N,P,Q,undef,undef,undef,(.slice none 0 0),ab,undef,undef,undef,Q,aa,ab,Q,ac,(.int .i64 0),undef,undef,undef,undef,undef,undef,undef,undef,undef,undef,undef,undef,undef,undef,undef,undef,undef,undef,undef,undef,undef,undef,undef,undef,undef,undef,undef,undef,undef,undef,undef,undef,undef,undef,undef,undef,undef,undef,undef,undef] h:=by kernel_rfl
def Ms:Code:=b9 [1,1,0,1,0,0] (cC prog 183)
def Mt:KV:=(dN 0 (eF prog O L (b9 [1,1,1] (cC prog 183)) (eX prog Tryz.f183)))
theorem aIE:Mt O L (.exit 0) [a,b,c,d,e,f,g,i,j,l,m,n,o,p,q,r,s,t,u,v,w,x,y,z,A,B,C,D,E,F,G,H,I,J,zz,zy,zx,zw,zv,zu,zt,zs,zr,zq,zp,zo,zn,zm,zl,zk] h=some (aJ [i],h):=by kernel_rfl
theorem Xe:aK prog O L Ms k [a,b,c,d,e,f,g,i,j,l,m,n,o,p,q,r,s,t,u,v,w,x,y,z,A,B,C,D,E,F,G,H,I,J,zz,zy,zx,zw,zv,zu,zt,zs,zr,zq,zp,zo,zn,zm,zl,zk] h=ob (M.aD (bin prog .lss 3 q p) h) λaa h=>aL aa (ob (M.aD (aO a) h) λab h=>ob (M.aD (aG 15 ab) h) λac h=>ob (ld1 ac h) λad h=>ob (O (.func 159) [ad,b,c,q] h) λae h=>ob (M.aD (bin prog .eql 3 ae (.int .i64 0)) h) λaf h=>aL af (ob (M.aD (bin prog .add 3 q (.int .i64 1)) h) λag h=>k .normal [a,b,c,d,e,f,g,i,q,l,m,n,o,p,ag,aa,q,a,ab,ac,ad,b,c,q,ae,af,C,D,E,F,G,H,I,J,zz,zy,zx,zw,zv,zu,zt,zs,zr,zq,zp,zo,zn,zm,ag,zk] h) (ob (M.aD (bin prog .eql 3 c (.int .i64 0)) h) λah h=>ob (gd ah false (M.cB a) h) λai h=>ob (gd ah false (M.aD (aO ai)) h) λaj h=>ob (gd ah false (M.aD (aG 13 aj)) h) λak h=>ob (gd ah false (ld1 ak) h) λal h=>ob (gd ah false (M.cB c) h) λam h=>ob (gd ah false (M.aD (bH 3 al am)) h) λan h=>ob (gd ah false (M.aD (aG 1 an)) h) λao h=>ob (gd ah false (ld1 ao) h) λap h=>ob (gd ah false (M.cB q) h) λaq h=>ob (gd ah false (M.aD (bH 2 ap aq)) h) λar h=>ob (gd ah false (M.aD (aG 0 ar)) h) λau h=>ob (gd ah false (ld1 au) h) λav h=>ob (gd ah false (O (.func 50) [av]) h) λaw h=>ob (gd ah false (M.aD (bin prog .gtr 3 aw (.int .i64 0))) h) λax h=>ob (M.aD (cF ah (.bool true) ax) h) λay h=>aL ay (ob (M.aD (bin prog .shl 23 (.int .u16 1) q) h) λaz h=>ob (M.aD (bin prog .or 23 i az) h) λba h=>ob (M.aD (bin prog .add 3 q (.int .i64 1)) h) λbb h=>k .normal [a,b,c,d,e,f,g,ba,q,l,m,n,o,p,bb,aa,q,a,ab,ac,ad,b,c,q,ae,af,c,ah,ah,ai,aj,ak,al,am,an,ao,ap,aq,ar,au,av,aw,ax,ay,i,q,az,ba,bb,zk] h) (ob (M.aD (bin prog .add 3 q (.int .i64 1)) h) λbc h=>k .normal [a,b,c,d,e,f,g,i,q,l,m,n,o,p,bc,aa,q,a,ab,ac,ad,b,c,q,ae,af,c,ah,ah,ai,aj,ak,al,am,an,ao,ap,aq,ar,au,av,aw,ax,ay,zp,zo,zn,zm,bc,zk] h))) (k (.exit 0) [a,b,c,d,e,f,g,i,j,l,m,n,o,p,q,aa,s,t,u,v,w,x,y,z,A,B,C,D,E,F,G,H,I,J,zz,zy,zx,zw,zv,zu,zt,zs,zr,zq,zp,zo,zn,zm,zl,zk] h):=by kernel_rfl
theorem aIF:cA prog O L 183 [N,P,Q] h=ob (M.aD (aO N) h) λaa h=>ob (M.aD (aG 1 aa) h) λab h=>ob (M.aD (aG 2 ab) h) λac h=>ob (ld1 ac h) λad h=>L (aK prog O L Ms) (Mt O L) [N,P,Q,undef,undef,undef,(.int .u16 0),(.int .u16 0),undef,N,aa,ab,ac,ad,(.int .i64 0),undef,undef,undef,undef,undef,undef,undef,undef,undef,undef,undef,undef,undef,undef,undef,undef,undef,undef,undef,undef,undef,undef,undef,undef,undef,undef,undef,undef,undef,undef,undef,undef,undef,undef,undef] h:=by kernel_rfl
theorem aIG:cA prog O L 184 [N,P] h=ob (M.aD (aO N) h) λaa h0=>ob (M.aD (aG 0 aa) h0) λab h1=>ob (ld1 ab h1) λac h2=>ob (M.aD (bX ac) h2) λad h3=>ob (M.aD (bin prog .shl 23 (.int .u16 1) ad) h3) λae h4=>ob (M.aD (bin prog .sub 23 ae (.int .u16 1)) h4) λaf h5=>ob (M.aD (bin prog .and 23 P af) h5) λag h6=>ob (M.aD (bin prog .eql 23 ag (.int .u16 0)) h6) λah h7=>aL ah (some (aJ [(.int .i64 (-1))],h7)) (ob (O (.func 241) [N] h7) λai h8=>ob (M.aD (bin prog .and 23 ag ai) h8) λaj h9=>ob (M.aD (bin prog .eql 23 aj (.int .u16 0)) h9) λak h10=>aL ak (ob (M.aD (aO N) h10) λal h11=>ob (M.aD (aG 1 al) h11) λam h12=>ob (ld1 am h12) λan h13=>ifB (true) (ob (M.aD (aO N) h13) λao h14=>ob (M.aD (aG 0 ao) h14) λap h15=>ob (ld1 ap h15) λaq h16=>ifB (true) (ob (cpy 1 an aq h16) λar h17=>ifB (true) (ob (O (.func 241) [N] h17) λau h18=>ifB (true) (ob (M.aD (bin prog .and 23 ag au) h18) λav h19=>ob (M.aD (aO N) h19) λaw h20=>ob (M.aD (aG 2 aw) h20) λax h21=>ob (ld1 ax h21) λay h22=>ifB (chk ((ld1 ax) h17) ay&&(true)) (ob (O (.func 182) [av,ay,ad] h22) λaz h23=>ifB (true) (ob (M.aD (aO N) h23) λba h24=>ob (M.aD (aG 1 ba) h24) λbb h25=>ob (ld1 bb h25) λbc h26=>ob (M.aD (bH 1 bc az) h26) λbd h27=>ob (ld1 bd h27) λbe h28=>ob (M.aD (bin prog .sub 3 be (.int .i64 1)) h28) λbf h29=>ob (M.aD (bH 1 bc az) h29) λbg h30=>ob (stN 1 bg bf h30) λbh h31=>ob (M.aD (bin prog .add 3 az (.int .i64 1)) h31) λbi h32=>ob (M.aD (bin prog .rem 3 bi ad) h32) λbj h33=>ob (M.aD (aO N) h33) λbk h34=>ob (M.aD (aG 2 bk) h34) λbl h35=>ob (stN 1 bl bj h35) λbm h36=>some (aJ [az],h36)))))))) (ob (O (.func 241) [N] h10) λbn h37=>ifB (true) (ob (M.aD (bin prog .and 23 ag bn) h37) λbo h38=>ob (M.aD (aO N) h38) λbp h39=>ob (M.aD (aG 2 bp) h39) λbq h40=>ob (ld1 bq h40) λbr h41=>ifB (chk ((ld1 bq) h10) br&&(true)) (ob (O (.func 182) [bo,br,ad] h41) λbs h42=>ifB (true) (ob (M.aD (aO N) h42) λbt h43=>ob (M.aD (aG 1 bt) h43) λbu h44=>ob (ld1 bu h44) λbv h45=>ob (M.aD (bH 1 bv bs) h45) λbw h46=>ob (ld1 bw h46) λbx h47=>ob (M.aD (bin prog .sub 3 bx (.int .i64 1)) h47) λbz h48=>ob (M.aD (bH 1 bv bs) h48) λca h49=>ob (stN 1 ca bz h49) λcb h50=>ob (M.aD (bin prog .add 3 bs (.int .i64 1)) h50) λcc h51=>ob (M.aD (bin prog .rem 3 cc ad) h51) λcd h52=>ob (M.aD (aO N) h52) λce h53=>ob (M.aD (aG 2 ce) h53) λcf h54=>ob (stN 1 cf cd h54) λcg h55=>some (aJ [bs],h55)))))):=by kernel_rfl
theorem aIH:cA prog O L 186 [N] h=ob (M.aD (aO N) h) λaa h=>ob (M.aD (aG 1 aa) h) λab h=>ob (ld1 ab h) λac h=>ob (M.aD (bin prog .eql 3 ac (.int .i64 0)) h) λad h=>aL ad (some (aJ [(.bool false)],h)) (ob (M.aD (aO N) h) λae h=>ob (M.aD (aG 1 ae) h) λaf h=>ob (ld1 af h) λag h=>ob (M.aD (bin prog .sub 3 ag (.int .i64 1)) h) λah h=>ob (M.aD (aO N) h) λai h=>ob (M.aD (aG 1 ai) h) λaj h=>ob (stN 1 aj ah h) λak h=>some (aJ [(.bool true)],h)):=by kernel_rfl
theorem aII:cA prog O L 187 [N,P] h=ob (cP 31 (Value.cells P).toList .fix h) λaa h=>ob (M.aD (aO N) h) λab h=>ob (M.aD (aG 3 ab) h) λac h=>ob (ld1 ac h) λad h=>ifB (true) (ob (ldN 4 aa h) λae h=>ifB (true) (ob (dJ 31 4 1 [(.int .i64 0),(.int .i64 0),(.int .i64 0),(.int .u32 0)] [(0,ae)] h) λaf h=>ob (app 31 4 32 ad af h) λag h=>ifB (true) (ob (M.aD (aO N) h) λah h=>ob (M.aD (aG 3 ah) h) λai h=>ob (stN 1 ai ag h) λaj h=>ifB (true) (some (aJ [],h))))):=by kernel_rfl
theorem aIJ:cA prog O L 188 [N] h=ob (M.aD (aO N) h) λaa h=>ob (M.aD (aG 0 aa) h) λab h=>ob (ldN 2 ab h) λac h=>ob (O (.func 120) [ac] h) λad h=>ob (M.aD (bin prog .eql 3 ad (.int .i64 0)) h) λae h=>aL ae (some (aJ [(.int .u64 0),(.bool false)],h)) (ob (M.aD (aO N) h) λaf h=>ob (M.aD (aG 0 af) h) λag h=>ob (M.aD (aG 0 ag) h) λah h=>ob (ld1 ah h) λai h=>ob (M.aD (aO N) h) λaj h=>ob (M.aD (aG 0 aj) h) λak h=>ob (M.aD (aG 0 ak) h) λal h=>ob (ld1 al h) λam h=>ob (M.aD (bin prog .add 83 am (.int .u64 1)) h) λan h=>ob (M.aD (aO N) h) λao h=>ob (M.aD (aG 0 ao) h) λap h=>ob (M.aD (aG 0 ap) h) λaq h=>ob (stN 1 aq an h) λar h=>some (aJ [ai,(.bool true)],h)):=by kernel_rfl
def Mu:Code:=b9 [1,1,0,1,0,0] (cC prog 194)
def Mw:KV:=(dN 0 (eF prog O L (b9 [1,1,1] (cC prog 194)) (eX prog Tryz.f194)))
theorem aIK:Mw O L (.exit 0) [a,b,c,d,e,f,g,i,j,l,m,n,o,p,q,r,s,t,u] h=some (aJ [d],h):=by kernel_rfl
theorem Xf:aK prog O L Mu k [a,b,c,d,e,f,g,i,j,l,m,n,o,p,q,r,s,t,u] h=ob (M.aD (bin prog .lss 3 j i) h) λaa h=>aL aa (ob (M.aD (bH 1 g j) h) λab h=>ob (ld1 ab h) λac h=>ob (M.aD (bin prog .shl 29 d (.int .u64 8)) h) λad h=>ob (cS prog 5 29 ac h) λae h=>ob (M.aD (bin prog .or 29 ad ae) h) λaf h=>ob (M.aD (bin prog .add 3 j (.int .i64 1)) h) λag h=>k .normal [a,b,c,af,e,ac,g,i,ag,aa,ab,ac,d,ad,ac,ae,af,ag,u] h) (k (.exit 0) [a,b,c,d,e,f,g,i,j,aa,m,n,o,p,q,r,s,t,u] h):=by kernel_rfl
theorem aIL:cA prog O L 194 [N] h=ob (M.aD (bX N) h) λaa h=>L (aK prog O L Mu) (Mw O L) [N,undef,(.int .u32 0),(.int .u32 0),undef,undef,N,aa,(.int .i64 0),undef,undef,undef,undef,undef,undef,undef,undef,undef,undef] h:=by kernel_rfl
theorem aIM:cA prog O L 195 [N,P] h=ob (M.aD (bin prog .sub 83 N (.int .u64 32768)) h) λaa h=>ob (O (.func 247) [aa] h) λab h=>ob (M.aD (bin prog .sub 23 P ab) h) λac h=>ob (cS prog 23 83 ac h) λad h=>ob (M.aD (bin prog .add 83 aa ad) h) λae h=>some (aJ [ae],h):=by kernel_rfl
theorem aIN:cA prog O L 196 [N,P] h=ob (M.aD (aO N) h) λaa h=>ob (M.aD (aG 0 aa) h) λab h=>ob (ld1 ab h) λac h=>ob (O (.func 195) [ac,P] h) λad h=>ob (M.aD (aO N) h) λae h=>ob (M.aD (aG 0 ae) h) λaf h=>ob (ld1 af h) λag h=>ifB (true) (ob (M.aD (bin prog .sub 83 ad ag) h) λah h=>ob (M.aD (aO N) h) λai h=>ob (M.aD (aG 0 ai) h) λaj h=>ob (ld1 aj h) λak h=>ifB (true) (ob (M.aD (bin prog .geq 83 ad ak) h) λal h=>some (aJ [ad,ah,al],h))):=by kernel_rfl
theorem aIO:cA prog O L 197 [N,P] h=ob (O (.func 196) [N,P] h) λaa h=>ob (M.aD (ext 0 aa) h) λab h=>ob (M.aD (ext 1 aa) h) λac h=>ob (M.aD (ext 2 aa) h) λad h=>ob (M.aD (un prog .not ad) h) λae h=>aL ae (some (aJ [(.int .u16 60)],h)) (ob (M.aD (aO N) h) λaf h=>ob (M.aD (aG 2 af) h) λag h=>ob (ld1 ag h) λah h=>ifB (true) (ob (M.aD (aO N) h) λai h=>ob (M.aD (aG 1 ai) h) λaj h=>ob (ld1 aj h) λak h=>ifB (true) (ob (M.aD (bin prog .sub 3 ah ak) h) λal h=>ob (cS prog 3 83 al h) λam h=>ob (M.aD (bin prog .geq 83 ac am) h) λan h=>aL an (some (aJ [(.int .u16 61)],h)) (ob (M.aD (bin prog .add 83 ab (.int .u64 1)) h) λao h=>ob (M.aD (aO N) h) λap h=>ob (M.aD (aG 0 ap) h) λaq h=>ob (stN 1 aq ao h) λar h=>ob (M.aD (aO N) h) λau h=>ob (M.aD (aG 1 au) h) λav h=>ob (ld1 av h) λaw h=>ob (M.aD (bin prog .add 3 aw (.int .i64 1)) h) λax h=>ob (M.aD (aO N) h) λay h=>ob (M.aD (aG 1 ay) h) λaz h=>ob (stN 1 az ax h) λba h=>some (aJ [(.int .u16 0)],h))))):=by kernel_rfl
def Mx:Code:=b9 [1,1,0,0] (cC prog 233)
def My (O:aE)(L:LV):KV:=(dN 0 (eX prog Tryz.f233))
theorem aIP:My O L (.exit 0) [a,b,c,d,e,f,g,i,j,l,m,n,o,p,q,r,s] h=some (aJ [],h):=by kernel_rfl
theorem Xg:aK prog O L Mx k [a,b,c,d,e,f,g,i,j,l,m,n,o,p,q,r,s] h=ob (M.aD (bin prog .lss 3 o (.int .i64 8)) h) λaa h=>aL aa (ob (O (.func 271) [a] h) λab h=>ob (M.aD (bin prog .add 3 o (.int .i64 1)) h) λac h=>k .normal [a,b,c,d,e,f,g,i,j,l,m,n,ac,aa,a,ab,ac] h) (k (.exit 0) [a,b,c,d,e,f,g,i,j,l,m,n,o,aa,q,r,s] h):=by kernel_rfl
theorem aIQ:cA prog O L 233 [N,P] h=ob (M.aD (aO N) h) λaa h=>ob (ld1 aa h) λab h=>ob (cS prog 5 331 P h) λac h=>ob (M.aD (bin prog .shl 331 ac (.int .u64 8)) h) λad h=>ob (M.aD (bin prog .xor 331 ab ad) h) λae h=>ob (M.aD (aO N) h) λaf h=>ob (stN 1 af ae h) λag h=>L (aK prog O L Mx) (My O L) [N,P,undef,undef,N,aa,ab,P,ac,ad,ae,af,(.int .i64 0),undef,undef,undef,undef] h:=by kernel_rfl
theorem aIR:cA prog O L 236 [N,P] h=ob (cP 167 (Value.cells N).toList .fix h) λaa h=>ob (M.aD (aG 0 aa) h) λab h=>ob (ld1 ab h) λac h=>ob (ld1 P h) λad h=>ob (M.aD (bin prog .eql 3 ac ad) h) λae h=>some (aJ [ae],h):=by kernel_rfl
theorem aIT:cA prog O L 240 [N,P] h=ob (M.aD (bin prog .geq 3 P (.int .i64 0)) h) λaa h=>ob (gd aa true (M.cB P) h) λab h=>ob (gd aa true (M.aD (bin prog .lss 3 ab (.int .i64 16))) h) λac h=>ob (M.aD (cF aa ac (.bool false)) h) λad h=>ob (gd ad true (M.cB N) h) λae h=>ob (gd ad true (M.cB P) h) λaf h=>ob (gd ad true (M.aD (bin prog .shr 23 ae af)) h) λag h=>ob (gd ad true (M.aD (bin prog .and 23 ag (.int .u16 1))) h) λah h=>ob (gd ad true (M.aD (bin prog .eql 23 ah (.int .u16 1))) h) λai h=>ob (M.aD (cF ad ai (.bool false)) h) λaj h=>some (aJ [aj],h):=by kernel_rfl
def Mz:Code:=b9 [1,1,0,1,0,0] (cC prog 241)
def M0:KV:=(dN 0 (eF prog O L (b9 [1,1,1] (cC prog 241)) (eX prog Tryz.f241)))
theorem aIU:M0 O L (.exit 0) [a,b,c,d,e,f,g,i,j,l,m,n,o,p,q,r,s,t,u,v,w,x,y,z] h=some (aJ [d],h):=by kernel_rfl
theorem Xh:aK prog O L Mz k [a,b,c,d,e,f,g,i,j,l,m,n,o,p,q,r,s,t,u,v,w,x,y,z] h=ob (M.aD (bin prog .lss 3 n m) h) λaa h=>aL aa (ob (M.aD (bH 1 l n) h) λab h=>ob (ld1 ab h) λac h=>ob (M.aD (bin prog .gtr 3 ac (.int .i64 0)) h) λad h=>aL ad (ob (M.aD (bin prog .shl 23 (.int .u16 1) n) h) λae h=>ob (M.aD (bin prog .or 23 d ae) h) λaf h=>ob (M.aD (bin prog .add 3 n (.int .i64 1)) h) λag h=>k .normal [a,b,c,af,n,ac,g,i,j,l,m,ag,aa,n,ab,ac,ac,ad,d,n,ae,af,ag,z] h) (ob (M.aD (bin prog .add 3 n (.int .i64 1)) h) λah h=>k .normal [a,b,c,d,n,ac,g,i,j,l,m,ah,aa,n,ab,ac,ac,ad,u,v,w,x,ah,z] h)) (k (.exit 0) [a,b,c,d,e,f,g,i,j,l,m,n,aa,p,q,r,s,t,u,v,w,x,y,z] h):=by kernel_rfl
theorem aIV:cA prog O L 241 [N] h=ob (M.aD (aO N) h) λaa h=>ob (M.aD (aG 1 aa) h) λab h=>ob (ld1 ab h) λac h=>ob (M.aD (bX ac) h) λad h=>L (aK prog O L Mz) (M0 O L) [N,undef,(.int .u16 0),(.int .u16 0),undef,undef,N,aa,ab,ac,ad,(.int .i64 0),undef,undef,undef,undef,undef,undef,undef,undef,undef,undef,undef,undef] h:=by kernel_rfl
theorem aIW:cA prog O L 247 [N] h=ob (cS prog 83 23 N h) λaa h=>some (aJ [aa],h):=by kernel_rfl
theorem aIX:cA prog O L 271 [N] h=ob (M.aD (aO N) h) λaa h=>ob (ld1 aa h) λab h=>ob (M.aD (bin prog .and 331 ab (.int .u16 32768)) h) λac h=>ob (M.aD (aO N) h) λad h=>ob (ld1 ad h) λae h=>ob (M.aD (bin prog .shl 331 ae (.int .u64 1)) h) λaf h=>ob (M.aD (aO N) h) λag h=>ob (stN 1 ag af h) λah h=>ob (M.aD (bin prog .neq 331 ac (.int .u16 0)) h) λai h=>aL ai (ob (M.aD (aO N) h) λaj h=>ob (ld1 aj h) λak h=>ob (M.aD (bin prog .xor 331 ak (.int .u16 4129)) h) λal h=>ob (M.aD (aO N) h) λam h=>ob (stN 1 am al h) λan h=>some (aJ [],h)) (some (aJ [],h)):=by kernel_rfl
theorem aIS:cA prog O L 237 [N,P] h=aL (.bool false) (ob (cS prog 187 29 N h) λaa h=>ob (cS prog 187 29 P h) λab h=>ob (O (.func 272) [aa,ab] h) λac h=>ob (M.aD (ext 0 ac) h) λad h=>ob (M.aD (ext 1 ac) h) λae h=>ob (cS prog 29 187 ad h) λaf h=>ob (cS prog 29 187 ae h) λag h=>some (aJ [af,ag],h)) (ob (O (.func 273) [N,P] h) λah h=>ob (M.aD (ext 0 ah) h) λai h=>ob (M.aD (ext 1 ah) h) λaj h=>some (aJ [ai,aj],h)):=by kernel_rfl
theorem aIY:cA prog O L 273 [N,P] h=ob (M.aD (bin prog .and 83 N (.int .u64 4294967295)) h) λaa h=>ob (M.aD (bin prog .shr 83 N (.int .u64 32)) h) λab h=>ob (M.aD (bin prog .and 83 P (.int .u64 4294967295)) h) λac h=>ob (M.aD (bin prog .shr 83 P (.int .u64 32)) h) λad h=>ob (M.aD (bin prog .mul 83 aa ac) h) λae h=>ob (M.aD (bin prog .mul 83 ab ac) h) λaf h=>ob (M.aD (bin prog .shr 83 ae (.int .u64 32)) h) λag h=>ob (M.aD (bin prog .add 83 af ag) h) λah h=>ob (M.aD (bin prog .and 83 ah (.int .u64 4294967295)) h) λai h=>ob (M.aD (bin prog .shr 83 ah (.int .u64 32)) h) λaj h=>ob (M.aD (bin prog .mul 83 aa ad) h) λak h=>ob (M.aD (bin prog .add 83 ai ak) h) λal h=>ob (M.aD (bin prog .mul 83 ab ad) h) λam h=>ob (M.aD (bin prog .add 83 am aj) h) λan h=>ob (M.aD (bin prog .shr 83 al (.int .u64 32)) h) λao h=>ob (M.aD (bin prog .add 83 an ao) h) λap h=>ob (M.aD (bin prog .mul 83 N P) h) λaq h=>some (aJ [ap,aq],h):=by kernel_rfl
end Go.Proofs.YtmimdleeihjdoaaGreatDoor
end
namespace Go.Abs
theorem Xt: ∀(cs:List Value)(o:Nat)(v:Value),eH cs o [v]=cs.set o v
 |[],_,_=>by simp[eH]
 |c::cs,0,v=>by simp[eH]
 |c::cs,o+1,v=>by
  rw[List.set_cons_succ,<-Xt cs o v];simp[eH]
theorem cT {H:aC}{b o:Nat}{cs:List Value}{e:TypeId}{k:Kind}{v:Value}(h:H[b]? =some (.cells cs e k))(hv:cs[o]? =some v):ld1 (.pointer (some ⟨b,o,none⟩)) H=some (v,H):=by
 rw[kO,h,tI,hv,wB]
theorem yT {H:aC}{b o n:Nat}{cs:List Value}{e:TypeId}{k:Kind}(h:H[b]? =some (.cells cs e k))(hn:o+n<=cs.length):ldN n (.pointer (some ⟨b,o,none⟩)) H=some (.agg ((cs.drop o).take n).toArray,H):=by
 rw[rO,h,sI _ _ _ _ _ hn]
theorem sY {H:aC}{b o:Nat}{cs:List Value}{e:TypeId}{k:Kind}{v:Value}(h:H[b]? =some (.cells cs e k))(hk:k≠ .ro)(ho:o<cs.length)(hv:v.cells.toList=[v])(ha:dR [v]=true):
  stN 1 (.pointer (some ⟨b,o,none⟩)) v H=some (undef,H.set b (.cells (cs.set o v) e k)):=by
 rw[mX 1 b o v (by rw[hv];rfl),h,hv,oA b cs e k o [v] hk (by simp only[aOt,List.length_nil];omega) ha,Xt]
theorem yU {H:aC}{b o n:Nat}{cs vs:List Value}{e:TypeId}{k:Kind}{v:Value}(h:H[b]? =some (.cells cs e k))(hk:k≠ .ro)(hv:v.cells.toList=vs)(hn:vs.length=n)(ho:o+n<=cs.length)(ha:dR vs=true):
  stN n (.pointer (some ⟨b,o,none⟩)) v H=some (undef,H.set b (.cells (eH cs o vs) e k)):=by
 subst hv;rw[mX n b o v hn,h,oA b cs e k o _ hk (by rw[hn];exact ho) ha]
theorem lQ {H:aC}{b o:Nat}{cs:List Value}{e:TypeId}{k:Kind}{q:IntKind}{n:Int}(h:H[b]? =some (.cells cs e k))(hk:k≠ .ro)(ho:o<cs.length):
  stN 1 (.pointer (some ⟨b,o,none⟩)) (.int q n) H=some (undef,H.set b (.cells (cs.set o (.int q n)) e k)):=sY h hk ho rfl rfl
theorem iT {H:aC}{b:Nat}{x y:Blk}(h:H[b]? =some x):(H.set b y)[b]? =some y:=aOc (aN6.mp h).1
theorem Nn (H:aC)(b:Nat)(x y:Blk):(H.set b x).set b y=H.set b y:=by simp
theorem dK (H:aC)(x:Blk):(H++[x])[H.length]? =some x:=by simp
theorem nL (H:aC)(x y:Blk):(H++[x]).set H.length y=H++[y]:=by simp
theorem nK {H:aC}{b:Nat}{x:Blk}(h:H[b]? =some x)(y:Blk):(H++[y])[b]? =some x:=by rw[aN9 (aN6.mp h).1,h]
theorem dC {H:aC}{b:Nat}{x:Blk}(h:H[b]? =some x):b<H.length:=(aN6.mp h).1
theorem aJp (a b:Nat)(ha:a<18446744073709551616)(hb:b<18446744073709551616):IntKind.u64.wrap ((a:Int)-b)=(((a+(18446744073709551616-b))%18446744073709551616:Nat):Int):=by rw[sS];omega
theorem aJn (a b:Nat):IntKind.u64.wrap ((a:Int)+b)=(((a+b)%18446744073709551616:Nat):Int):=by rw[sS];omega
theorem aJo (a b:Nat)(ha:a<65536)(hb:b<65536):IntKind.u16.wrap ((a:Int)-b)=(((a+65536-b)%65536:Nat):Int):=by rw[A4];omega
theorem yR (a:Nat)(ha:a<18446744073709551616):IntKind.u64.wrap (a:Int)=a:=aEi (by omega) (by omega)
theorem Nl (a:Nat)(ha:a<4294967296):IntKind.u32.wrap (a:Int)=a:=Rt (by omega) (by omega)
theorem Bq (a:Nat):IntKind.u16.wrap (a:Int)=((a%65536:Nat):Int):=by rw[A4];omega
theorem Nm (a:Nat):IntKind.u8.wrap (a:Int)=((a%256:Nat):Int):=by rw[A5];omega
theorem yS (a:Nat)(ha:a<9223372036854775808):IntKind.i64.wrap (a:Int)=a:=dM (by omega) (by omega)
theorem Br.ext {H H':aC}{u:Value}{bs:List UInt8}(h:Br H u bs)(he:Ext H H'):Br H' u bs:=by
 rcases h with h|⟨b,o,c,cs,e,k,h1,h2,h3,h4⟩
 ·exact .inl h
 ·exact .inr ⟨b,o,c,cs,e,k,h1,h2,by rw[he.2 b (dC h3) id,h3],h4⟩
theorem Rs.aJm {α:Type}{el:α->List Value}{e:TypeId}{sz:Nat}{H:aC}{v:Value}{xs:List α}{P:Program}(hsz: ∀x,(el x).length=sz)(he:P.cellsOf e=sz)(h:Rs el e H v xs)(hne:xs≠[]):
  ∃b o cap,v= .slice (some ⟨b,o,none⟩) xs.length cap/\xs.length<=cap/\ ∀(H':aC),Rs el e H' v xs-> ∀(l r:Nat)(lo hi mx:Option Value)(c:Nat),bnd 0 lo=some l->bnd xs.length hi=some r->bnd cap mx=some c->l<=r->r<=xs.length->r<=c->c<=cap->
   slc P sz v lo hi mx H'=some (.slice (some ⟨b,o+l*sz,none⟩) (r-l) (c-l),H')/\Rs el e H' (.slice (some ⟨b,o+l*sz,none⟩) (r-l) (c-l)) ((xs.take r).drop l):=by
 rcases h with⟨_,h⟩|⟨b,o,cap,rfl,h3,h4⟩
 ·exact absurd h hne
 ·refine⟨b,o,cap,rfl,h3,λH' h' l r lo hi mx c h1 h2 h5 hlr hr hrc hcc=> ?_⟩
  rcases h' with⟨_,h⟩|⟨b',o',cap',heq,h3',h4'⟩
  ·exact absurd h hne
  ·cases heq
   have hl:=sJ (xs.map el) (tJ hsz);have hlen:((xs.take r).drop l).length=r-l:=by simp;omega
   obtain⟨e',k,pre,post,rfl,hk,hb⟩:=h4' hne;refine⟨tK (sz:=sz) hb (λh=>by rw[hk h];exact he) h1 h2 h5 hlr hrc hcc,.inr ⟨b,_,c-l,by rw[hlen],by rw[hlen];omega,λ_=>⟨e',k,pre++((xs.take l).map el).flatten,((xs.drop r).map el).flatten++post,?_,hk,?_⟩⟩⟩
   ·have hf:=sJ ((xs.take l).map el) (tJ hsz)
    rw[aOk,List.length_take,Nat.min_eq_left (by omega)] at hf
    rw[aOi,hf]
   ·rw[hb]
    have:xs=xs.take l++((xs.take r).drop l++xs.drop r):=by
     conv=>lhs;rw[<-List.take_append_drop l xs]
     congr 1
     have:=List.take_append_drop (r-l) (xs.drop l);rw[aOP,List.take_drop] at this;rw[show l+(r-l)=r by omega] at this
     exact this.symm
    congr 2
    conv=>lhs;rw[this]
    simp only[List.map_append,List.flatten_append,aOd]
structure Pkt where
 src:Int
 dst:Int
 lane:Int
 body:Int
deriving DecidableEq
def Pkt.oW (x:Pkt):List Value:=[.int .i64 x.src,.int .i64 x.dst,.int .i64 x.lane,.int .u32 x.body]
def Pkt.dG (x:Pkt):Value:= .agg ⟨x.oW⟩
def pk0:Pkt:=⟨0,0,0,0⟩
structure Pkt.ok (x:Pkt):Prop where
 src: -9223372036854775808<=x.src/\x.src<9223372036854775808
 dst: -9223372036854775808<=x.dst/\x.dst<9223372036854775808
 lane: -9223372036854775808<=x.lane/\x.lane<9223372036854775808
 body:0<=x.body/\x.body<4294967296
abbrev hZ:=Int×Int×Int
def qY (r:Nat):Nat:=if r<32768 then r*2 else(r*2-65536)^^^4129
theorem No {r:Nat}(h:r<65536):qY r<65536:=by
 unfold qY;split
 ·omega
 ·exact Nat.xor_lt_two_pow (n:=16) (by omega) (by omega)
def tS:Nat->Nat->Nat
 |0,r=>r
 |k+1,r=>tS k (qY r)
theorem Xw: ∀(k:Nat){r:Nat},r<65536->tS k r<65536
 |0,_,h=>h
 |k+1,_,h=>Xw k (No h)
def pA (r:Nat)(c:UInt8):Nat:=tS 8 (r^^^c.toNat*256)
theorem Np {r:Nat}(h:r<65536)(c:UInt8):r^^^c.toNat*256<65536:=Nat.xor_lt_two_pow (n:=16) h (by have:=c.toNat_lt;omega)
theorem aJq {r:Nat}(h:r<65536)(c:UInt8):pA r c<65536:=Xw 8 (Np h c)
attribute [irreducible] pA
def crc (bs:List UInt8):Nat:=bs.foldl pA 65535
theorem Nq (bs:List UInt8): ∀{r:Nat},r<65536->bs.foldl pA r<65536:=by
 induction bs with
 |nil=>exact λh=>h
 |cons c bs ih=>
  intro r h;rw[List.foldl_cons];exact ih (aJq h c)
theorem wS (bs:List UInt8):crc bs<65536:=Nq bs (by decide)
theorem Xv {r:Nat}(h:r<65536):(r&&&32768=0)↔r<32768:=by
 have e:r&&&32768=if r<32768 then 0 else 32768:=by
  apply Nat.eq_of_testBit_eq;intro i;rw[Nat.testBit_and];have hb:Nat.testBit 32768 i=decide (15=i):=Nat.testBit_two_pow (n:=15) (m:=i);by_cases hi:15=i
  ·subst hi
   rw[hb];split
   ·rename_i hl
    rw[Nat.testBit_lt_two_pow (i:=15) (by omega)]
    rfl
   ·rename_i hl
    have:r.testBit 15=true:=by
     rw[Nat.testBit_eq_decide_div_mod_eq];have:r/2 ^ 15=1:=by omega
     rw[this];rfl
    rw[this];rfl
  ·rw[hb,aOR hi,Bool.and_false]
   split
   ·simp
   ·rw[hb,aOR hi]
 rw[e]
 split<;>omega
def dT (near s:Nat):Nat:=((near+18446744073709518848)%18446744073709551616+(s+65536-(near+18446744073709518848)%18446744073709551616%65536)%65536)%18446744073709551616
structure Frm where
 kind:Nat
 lane:Nat
 seq:Nat
 src:Nat
 dst:Nat
 body:Nat
deriving DecidableEq
structure Frm.ok (f:Frm):Prop where
 kind:f.kind<256
 lane:f.lane<256
 seq:f.seq<65536
 src:f.src<256
 dst:f.dst<256
 body:f.body<4294967296
def Frm.oE:Frm:=⟨0,0,0,0,0,0⟩
def dO (f:Frm):Bool:=decide (f.lane<=2)&&(if f.kind=1 then decide (f.src<=5)&&decide (f.dst<=5)&&decide (f.src≠f.dst) else(decide (f.kind=2)||decide (f.kind=3))&&decide (f.src=0)&&decide (f.dst=0)&&decide (f.body=0))
def by8 (n:Nat):UInt8:=UInt8.ofNat n
def eI (n:Nat):List UInt8:=[by8 (n/256),by8 n]
def pB (f:Frm):List UInt8:=by8 f.kind::by8 f.lane::eI f.seq
def iV (f:Frm):List UInt8:=pB f++if f.kind=1 then by8 f.src::by8 f.dst::(eI (f.body/65536)++eI f.body) else []
def kK (f:Frm):List UInt8:=iV f++eI (crc (iV f))
def nM (f:Frm):Option (List UInt8):=if dO f=true then some (kK f) else none
def fA (bs:List UInt8):Nat:=bs.foldl (λn c=>n*256+c.toNat) 0
def iZ (bs:List UInt8):Frm:=⟨(bs.getD 0 0).toNat,(bs.getD 1 0).toNat,fA [bs.getD 2 0,bs.getD 3 0],0,0,0⟩
def nB (bs:List UInt8):Frm:={iZ bs with src:=(bs.getD 4 0).toNat,dst:=(bs.getD 5 0).toNat,body:=fA [bs.getD 6 0,bs.getD 7 0,bs.getD 8 0,bs.getD 9 0]}
def u9 (b s:List UInt8)(f:Frm):Option Frm:=if crc b=fA s/\dO f=true then some f else none
def mQ (bs:List UInt8):Option Frm:=
 if bs.length=6/\(bs.getD 0 0).toNat≠1 then u9 (bs.take 4) (bs.drop 4) (iZ bs)
 else if bs.length=12/\(bs.getD 0 0).toNat=1 then u9 (bs.take 10) (bs.drop 10) (nB bs)
 else none
def Nr (bs:List UInt8):Option Frm:=
 if bs.length<6 then none
 else let f:=if(bs.getD 0 0).toNat=1/\12<=bs.length then nB bs else iZ bs
  if nM f=some bs then some f else none
theorem sZ (n:Nat):(by8 n).toNat=n%256:=by simp[by8]
theorem Xu (c:UInt8):by8 c.toNat=c:=by simp[by8]
theorem Nt (a b:UInt8):fA [a,b]=a.toNat*256+b.toNat:=by simp[fA]
theorem Xz (a b c d:UInt8):fA [a,b,c,d]=((a.toNat*256+b.toNat)*256+c.toNat)*256+d.toNat:=by simp[fA]
theorem u7 {n:Nat}{c:UInt8}(h:n%256=c.toNat):by8 n=c:=by
 apply UInt8.toNat_inj.mp;rw[sZ,h]
theorem Nu (a b:UInt8):eI (fA [a,b])=[a,b]:=by
 have ha:=a.toNat_lt;have hb:=b.toNat_lt;rw[Nt];simp only[eI];rw[u7 (n:=(a.toNat*256+b.toNat)/256) (c:=a) (by omega),u7 (n:=a.toNat*256+b.toNat) (c:=b) (by omega)]
theorem X0 {n:Nat}(hn:n<65536){a b:UInt8}:eI n=[a,b]↔n=fA [a,b]:=by
 constructor
 ·intro h
  simp only[eI,List.cons.injEq,and_true] at h;have h1:=congrArg UInt8.toNat h.1;have h2:=congrArg UInt8.toNat h.2;rw[sZ] at h1 h2;rw[Nt];omega
 ·rintro rfl
  exact Nu a b
theorem aJs (a b c d:UInt8):eI (fA [a,b,c,d]/65536)++eI (fA [a,b,c,d])=[a,b,c,d]:=by
 have ha:=a.toNat_lt;have hb:=b.toNat_lt;have hc:=c.toNat_lt;have hd:=d.toNat_lt;rw[Xz];simp only[eI,List.cons_append,List.nil_append];rw[u7 (c:=a) (by omega),u7 (c:=b) (by omega),u7 (c:=c) (by omega),u7 (c:=d) (by omega)]
theorem Ns (f:Frm):(kK f).length=if f.kind=1 then 12 else 6:=by
 unfold kK iV pB eI
 split<;>simp
attribute [irreducible] crc dO
theorem Xx {f:Frm}{b bs:List UInt8}{x y:UInt8}(hb:iV f=b)(hbs:bs=b++[x,y]):nM f=some bs↔crc b=fA [x,y]/\dO f=true:=by
 unfold nM kK;rw[hb,hbs];by_cases hs:dO f=true
 ·rw[if_pos hs,aOy,List.append_right_inj,X0 (wS _)]
  simp[hs]
 ·rw[if_neg hs]
  simp[hs]
theorem Xy {f:Frm}{bs:List UInt8}(h:bs.length≠if f.kind=1 then 12 else 6):nM f≠some bs:=by
 intro hh;unfold nM at hh
 split at hh
 ·injection hh with hh
  rw[<-hh,Ns] at h;exact h rfl
 ·cases hh
theorem aJr (bs:List UInt8):mQ bs=Nr bs:=by
 have kf:(iZ bs).kind=(bs.getD 0 0).toNat:=rfl;have kf':(nB bs).kind=(bs.getD 0 0).toNat:=rfl;unfold mQ Nr;by_cases h1:bs.length=6/\(bs.getD 0 0).toNat≠1
 ·have hC: ¬((bs.getD 0 0).toNat=1/\12<=bs.length):=λh=>h1.2 h.1
  rw[if_pos h1,if_neg (by omega)]
  simp only[if_neg hC];have e:nM (iZ bs)=some bs↔crc (bs.take 4)=fA (bs.drop 4)/\dO (iZ bs)=true:=by
   have h6:=h1.1
   match bs,h6 with
   |[a,b,c,d,e,f],_=>
    refine Xx ?_ rfl;unfold iV pB;rw[if_neg (by rw[kf];exact h1.2)]
    simp only[iZ,List.getD_cons_zero,List.getD_cons_succ,Xu,Nu,List.append_nil,List.take_succ_cons,List.take_zero]
  unfold u9;by_cases h:nM (iZ bs)=some bs
  ·rw[if_pos h,if_pos (e.mp h)]
  ·rw[if_neg h,if_neg λhh=>h (e.mpr hh)]
 ·rw[if_neg h1]
  by_cases h2:bs.length=12/\(bs.getD 0 0).toNat=1
  ·have hC:(bs.getD 0 0).toNat=1/\12<=bs.length:=⟨h2.2,by omega⟩
   rw[if_pos h2,if_neg (by omega)]
   simp only[if_pos hC];have e:nM (nB bs)=some bs↔crc (bs.take 10)=fA (bs.drop 10)/\dO (nB bs)=true:=by
    have h12:=h2.1
    match bs,h12 with
    |[a,b,c,d,e,f,g,h,i,j,k,l],_=>
     refine Xx ?_ rfl;unfold iV pB;rw[if_pos (by rw[kf'];exact h2.2)]
     simp only[iZ,nB,List.getD_cons_zero,List.getD_cons_succ,Xu,Nu,aJs,List.take_succ_cons,List.take_zero,List.cons_append,List.nil_append]
   unfold u9;by_cases h:nM (nB bs)=some bs
   ·rw[if_pos h,if_pos (e.mp h)]
   ·rw[if_neg h,if_neg λhh=>h (e.mpr hh)]
  ·rw[if_neg h2]
   by_cases h3:bs.length<6
   ·rw[if_pos h3]
   ·rw[if_neg h3]
    dsimp only
    rw[if_neg];by_cases h4:(bs.getD 0 0).toNat=1/\12<=bs.length
    ·rw[if_pos h4]
     refine Xy ?_;rw[kf',if_pos h4.1];omega
    ·rw[if_neg h4]
     refine Xy ?_;rw[kf];split
     ·omega
     ·omega
structure Cfg where
 nodes:Nat
 lanes:Nat
 room:Nat
 queue:Nat
 rounds:Nat
 every:Nat
 weights:List Int
 start:Nat
 me:Nat
 by':List Nat
 port:Nat->Nat
def Cfg.aH (c:Cfg):Nat:=c.by'.length+1
structure Cfg.ok (c:Cfg):Prop where
 nodes:2<=c.nodes/\c.nodes<=6
 lanes:1<=c.lanes/\c.lanes<=3
 room:1<=c.room/\c.room<=8
 queue:1<=c.queue/\c.queue<=8
 rounds:1<=c.rounds/\c.rounds<=4
 every:1<=c.every/\c.every<=8
 wlen:c.weights.length=c.lanes
 wts: ∀x∈c.weights,1<=x/\x<=5
 start:c.start<65536
 me:c.me<c.nodes
 by':c.by'.length<=5
 byN: ∀w∈c.by',w<c.nodes/\w≠c.me
 byD:c.by'.Nodup
 port: ∀d,d<c.nodes->c.port d<c.aH
structure Snd where
 s:Nat
 l:Nat
deriving DecidableEq
structure Rcv where
 n:Nat
 h:Nat
deriving DecidableEq
def Snd.oX (x:Snd):Nat:=x.l-x.s
def Snd.qD (x:Snd)(limit:Nat):Snd:=let n:=dT x.l limit;if n<=x.l∨x.s+8<n then x else⟨x.s,n⟩
def Snd.oF (x:Snd):Nat×Snd:=if x.l=x.s then(0,x) else(x.s,⟨x.s+1,x.l⟩)
def Rcv.lY (x:Rcv)(room:Nat):Nat:=x.n+(room-x.h)
def Rcv.kQ (x:Rcv)(room seq:Nat):Nat×Rcv:=let n:=dT x.n seq;if n<x.n then(60,x) else if x.lY room<=n then(61,x) else(0,⟨n+1,x.h+1⟩)
def Rcv.tT (x:Rcv):Rcv:=⟨x.n,x.h-1⟩
def Rcv.pO (x:Rcv)(room sent:Nat):Rcv:=let n:=dT x.n sent;if n<=x.n∨x.lY room<n then x else⟨n,x.h⟩
structure NS where
 hL:List Pkt
 hG:List Pkt
 rL:List (hZ×Pkt)
 snd:Nat->Nat->Snd
 rcv:Nat->Nat->Rcv
 g:List Nat
 a:List Nat
 whl:Nat->Whl
 ticks:Nat
def NS.iW (c:Cfg):NS:=⟨[],[],[],λ_ _=>⟨c.start,c.start+c.room⟩,λ_ _=>⟨c.start,0⟩,List.replicate c.aH 0,List.replicate c.aH 0,λ_=>⟨c.weights,0⟩,0⟩
def fP (L:List Pkt)(k:Int):List Pkt:=L.filter λx=>decide (x.lane=k)
def q8 (L:List Pkt)(k:Int):List Pkt:=L.eraseP λx=>decide (x.lane=k)
def pC (L:List (hZ×Pkt))(w:hZ):List Pkt:=(L.filter λe=>decide (e.1=w)).map (·.2)
def oY (L:List (hZ×Pkt))(w:hZ):List (hZ×Pkt):=L.eraseP λe=>decide (e.1=w)
def Bt (w:hZ)(ports lanes:Nat):Bool:=decide (0<=w.1)&&decide (w.1<ports)&&decide (0<=w.2.1)&&decide (w.2.1<ports)&&decide (0<=w.2.2)&&decide (w.2.2<lanes)
def s9 (c:Cfg)(L:List (hZ×Pkt))(w:hZ)(x:Pkt):List (hZ×Pkt):=
 if Bt w c.aH c.lanes=true/\L.length<c.aH*c.lanes*c.room then L++[(w,x)] else L
def qF (c:Cfg)(x:Pkt)(s:NS):Nat×NS:=
 if¬(0<=x.lane/\x.lane<c.lanes) then(1,s)
 else if(fP s.hL x.lane).length=c.queue then(150,s)
 else(0,{s with hL:=s.hL++[x]})
def nW (c:Cfg)(x:Pkt)(s:NS):Nat×NS:=
 if x.src≠c.me∨x.dst<0∨(c.nodes:Int)<=x.dst∨x.dst=c.me then(1,s) else qF c x s
def up2 {α:Type}(f:Nat->Nat->α)(i k:Nat)(x:α):Nat->Nat->α:=λj l=>if j=i/\l=k then x else f j l
def up1 {α:Type}(f:Nat->α)(i:Nat)(x:α):Nat->α:=λj=>if j=i then x else f j
def qZ (c:Cfg)(i:Nat)(f:Frm)(s:NS):Nat×NS:=
 if c.nodes<=max f.src f.dst then(30,s)
 else match (s.rcv i f.lane).kQ c.room f.seq with
  |(0,r)=>(0,{s with rcv:=up2 s.rcv i f.lane r,rL:=s9 c s.rL ((i:Int),(c.port f.dst:Int),(f.lane:Int)) ⟨f.src,f.dst,f.lane,f.body⟩})
  |(e,_)=>(e,s)
def kR (c:Cfg)(fr:Int)(bs:List UInt8)(s:NS):Nat×NS:=
 match c.by'.findIdx? λw:Nat=>decide ((w:Int)=fr) with
 |none=>(1,s)
 |some j=>
  match mQ bs with
  |none=>(30,s)
  |some f=>
   if c.lanes<=f.lane then(30,s)
   else if f.kind=2 then(0,{s with snd:=up2 s.snd (j+1) f.lane ((s.snd (j+1) f.lane).qD f.seq)})
   else if f.kind=3 then(0,{s with rcv:=up2 s.rcv (j+1) f.lane ((s.rcv (j+1) f.lane).pO c.room f.seq)})
   else qZ c (j+1) f s
def pP (L:List (hZ×Pkt))(i o k:Nat):Nat:=(pC L (i,o,k)).length
def yV (c:Cfg)(L:List (hZ×Pkt))(k:Nat):Nat:=((List.range c.aH).map λo=>pP L 0 o k).sum
def oI (c:Cfg)(s:NS)(k:Nat):NS:=
 if c.room<=yV c s.rL k then s
 else match fP s.hL k with
  |[]=>s
  |x::_=>{s with hL:=q8 s.hL k,rL:=s9 c s.rL (0,(c.port x.dst.toNat:Int),k) x}
def wT (c:Cfg)(s:NS):NS:=(List.range c.lanes).foldl (oI c) s
def iX (c:Cfg)(s:NS)(i o k:Nat):Bool:=decide (k<c.lanes)&&decide (0<pP s.rL i o k)&&(decide (o=0)||decide (0<(s.snd o k).oX))
def oG (c:Cfg)(s:NS)(i o:Nat):Bool:=decide (i<c.aH)&&decide (o<c.aH)&&(List.range c.lanes).any (iX c s i o)
def oH (f:Frm):List UInt8:=(nM f).getD []
abbrev lI:=List (Nat×List UInt8)
def wU (c:Cfg)(o:Nat)(f:Frm):Nat×List UInt8:=(c.by'.getD (o-1) 0,oH f)
def s6 (s:NS)(i k:Nat):Nat->Nat->Rcv:=if i=0 then s.rcv else up2 s.rcv i k (s.rcv i k).tT
def qE (c:Cfg)(s:NS)(i o:Nat):NS×lI:=
 match k9 c.weights (s.whl o) (iX c s i o) with
 |(none,_)=>(s,[])
 |(some k,w)=>
  let x:=(pC s.rL (i,o,k)).headD pk0
  let s1:={s with whl:=up1 s.whl o w,rL:=oY s.rL (i,o,k),rcv:=s6 s i k}
  if o=0 then({s1 with hG:=s1.hG++[x]},[])
  else({s1 with snd:=up2 s1.snd o k (s1.snd o k).oF.2},[wU c o ⟨1,k,(s1.snd o k).oF.1%65536,(x.src%256).toNat,(x.dst%256).toNat,x.body.toNat⟩])
def tU (c:Cfg)(m:List Int):List Nat->NS×lI->NS×lI
 |[],s=>s
 |i::l,s=>tU c m l (if 0<=m.getD i 0 then((qE c s.1 i (m.getD i 0).toNat).1,s.2++(qE c s.1 i (m.getD i 0).toNat).2) else s)
def s5 (c:Cfg)(s:NS):lI:=
 (List.range c.by'.length).flatMap λi=>(List.range c.lanes).flatMap λk=>
  [wU c (i+1) ⟨3,k,(s.snd (i+1) k).s%65536,0,0,0⟩,wU c (i+1) ⟨2,k,(s.rcv (i+1) k).lY c.room%65536,0,0,0⟩]
def vA (c:Cfg)(s:NS):NS×lI:=
 let s1:=wT c s
 let t:=rQ (oG c s1) c.aH c.rounds s1.g s1.a
 let r:=tU c t.m (List.range c.aH) ({s1 with g:=t.g,a:=t.a},[])
 ({r.1 with ticks:=s.ticks+1},if(s.ticks+1)%c.every=0 then r.2++s5 c r.1 else r.2)
end Go.Abs
namespace Go.Proofs.YtmimdleeihjdoaaGreatDoor
open Go.Proofs.Tryz
open Go.Abs
structure Put1 (H:aC)(b:Nat)(y:Blk)(H':aC):Prop where
 le:H.length<=H'.length
 at_:H'[b]? =some y
 keep: ∀c,c<H.length->c≠b->H'[c]? =H[c]?
theorem Put1.vB {H:aC}{b:Nat}{y:Blk}(h:H[b]? =some y):Put1 H b y H:=⟨aOb _,h,λ_ _ _=>rfl⟩
theorem Put1.Bu {H:aC}{b:Nat}{x y:Blk}(h:H[b]? =some x):Put1 H b y (H.set b y):=⟨by simp,iT h,λc _ hc=>aN7 (Ne.symm hc)⟩
theorem Put1.ext {H H':aC}{b:Nat}{y:Blk}(h:H[b]? =some y)(he:Ext H H'):Put1 H b y H':=⟨he.1,by rw[he.2 b (dC h) id,h],λc hc _=>he.2 c hc id⟩
theorem Put1.aJt {H H1 H':aC}{b:Nat}{y:Blk}(he:Ext H H1)(h:Put1 H1 b y H'):Put1 H b y H':=⟨aOm he.1 h.le,h.at_,λc hc hcb=>by rw[h.keep c (aOl hc he.1) hcb,he.2 c hc id]⟩
section
variable {H : aC} {m : Nat}
theorem qG:prog.underlying 83=some (.int .u64):=by kernel_rfl
theorem lS:prog.underlying 23=some (.int .u16):=by kernel_rfl
theorem iU:prog.underlying 3=some (.int .i64):=by kernel_rfl
theorem u8U:prog.underlying 5=some (.int .u8):=by kernel_rfl
theorem aJx:prog.underlying 331=some (.int .u16):=by kernel_rfl
theorem aJy (hm:0<m)(n:Nat):lvl prog pkN m (.func 247) [.int .u64 n] H=some (.int .u16 ((n%65536:Nat):Int),H):=by
 refine dA (cJ rfl) hm ?_;rw[aIW];simp -implicitDefEqProofs only[gsR,eZ _ _ qG lS,Bq]
theorem Nx (near s:Nat):dT near s<18446744073709551616:=Nat.mod_lt _ (by omega)
theorem X1 (hm:1<m)(near s:Nat)(hn:near<18446744073709551616)(hs:s<65536):lvl prog pkN m (.func 195) [.int .u64 near,.int .u16 s] H=some (.int .u64 (dT near s),H):=by
 refine dA (cJ rfl) (by omega) ?_
 rw[aIM];have e1:IntKind.u64.wrap ((near:Int)-32768)=(((near+18446744073709518848)%18446744073709551616:Nat):Int):=by rw[sS];omega
 have e2:=aJy (H:=H) (m:=m-1) (by omega) ((near+18446744073709518848)%18446744073709551616)
 have e3:=aJo s ((near+18446744073709518848)%18446744073709551616%65536) hs (by omega)
 have e4:=yR ((s+65536-(near+18446744073709518848)%18446744073709551616%65536)%65536) (by omega)
 simp -implicitDefEqProofs only[gsR,iF,e1,e2,e3,eZ _ _ lS qG,e4,cI,aJn];rfl
def lZ (r:Nat):Blk:= .cells [.int .u16 r] 331 .fix
theorem aJu (hm:0<m){b r:Nat}(hb:H[b]? =some (lZ r))(hr:r<65536):lvl prog pkN m (.func 271) [.pointer (some ⟨b,0,none⟩)] H=some (aJ [],H.set b (lZ (qY r))):=by
 refine dA (cJ rfl) hm ?_;rw[aIX];have e1:ld1 (.pointer (some ⟨b,0,none⟩)) H=some (.int .u16 r,H):=cT hb rfl;have e2:bin prog .and 331 (.int .u16 (r:Int)) (.int .u16 32768)=some (.int .u16 ((r&&&32768:Nat):Int)):=wK .u16 rfl _ (a:=r) (b:=32768) hr (by decide)
 have e3:bin prog .shl 331 (.int .u16 (r:Int)) (.int .u64 1)=some (.int .u16 ((r*2%65536:Nat):Int)):=yJ .u16 .u64 rfl _ r 1 (by decide)
 have e4:stN 1 (.pointer (some ⟨b,0,none⟩)) (.int .u16 ((r*2%65536:Nat):Int)) H=some (undef,H.set b (lZ (r*2%65536))):=lQ hb (by decide) Nat.zero_lt_one
 have e5:ld1 (.pointer (some ⟨b,0,none⟩)) (H.set b (lZ (r*2%65536)))=some (.int .u16 ((r*2%65536:Nat):Int),H.set b (lZ (r*2%65536))):=cT (iT hb) rfl;have e6:bin prog .xor 331 (.int .u16 ((r*2%65536:Nat):Int)) (.int .u16 4129)=some (.int .u16 (((r*2%65536)^^^4129:Nat):Int)):=Dp .u16 rfl _ (a:=r*2%65536) (b:=4129) (by show _<65536;omega) (by decide)
 have e7:stN 1 (.pointer (some ⟨b,0,none⟩)) (.int .u16 (((r*2%65536)^^^4129:Nat):Int)) (H.set b (lZ (r*2%65536)))=some (undef,(H.set b (lZ (r*2%65536))).set b (lZ ((r*2%65536)^^^4129))):=lQ (iT hb) (by decide) Nat.zero_lt_one
 by_cases hc:r<32768
 ·have h0:(r&&&32768:Nat)=0:=(Xv hr).mpr hc
  have k1:((((r&&&32768:Nat):Int))!=0)=false:=by rw[h0];rfl
  simp -implicitDefEqProofs only[gsR,e1,e2,e3,e4,k1];rw[qY,if_pos hc,aOF (by omega)]
 ·have h0: ¬(r&&&32768:Nat)=0:=λh=>hc ((Xv hr).mp h)
  have k1:((((r&&&32768:Nat):Int))!=0)=true:=by simp[h0]
  simp -implicitDefEqProofs only[gsR,e1,e2,e3,e4,e5,e6,e7,k1,Nn];rw[qY,if_neg hc,show r*2%65536=r*2-65536 by omega]
theorem aJw {b:Nat}{H0:aC}: ∀(q i k r:Nat)(H:aC),8-i=q->i<=8->q<k->10<m->H=H0.set b (lZ r)->b<H0.length->r<65536->
  ∀x1 x2 x3 x4 x5 x6 x7 x8 x9 bK bM aN aM aP aZ:Value,aI k (aK prog (lvl prog pkN (m-1)) (aI (m-1)) Mx) (My (lvl prog pkN (m-1)) (aI (m-1))) [(.pointer (some ⟨b,0,none⟩)),x1,x2,x3,x4,x5,x6,x7,x8,x9,bK,bM,(.int .i64 i),aN,aM,aP,aZ] H=some (aJ [],H0.set b (lZ (tS (8-i) r))):=by
 intro q;induction q with
 |zero=>
  intro i k r H hq hi hk hm hH hb hr x1 x2 x3 x4 x5 x6 x7 x8 x9 bK bM aN aM aP aZ;obtain⟨k,rfl⟩: ∃k',k=k'+1:=⟨k-1,by omega⟩
  have hi8:i=8:=by omega
  subst hi8;have c1:decide (((8:Nat):Int)<8)=false:=by decide
  rw[aI,Xg];simp -implicitDefEqProofs only[gsR,c1];rw[aIP];rw[hH];rfl
 |succ q ih=>
  intro i k r H hq hi hk hm hH hb hr x1 x2 x3 x4 x5 x6 x7 x8 x9 bK bM aN aM aP aZ;obtain⟨k,rfl⟩: ∃k',k=k'+1:=⟨k-1,by omega⟩
  have c1:decide ((i:Int)<8)=true:=by rw[decide_eq_true_eq];omega
  have hg:H[b]? =some (lZ r):=by rw[hH,aOc hb]
  have e1:=aJu (m:=m-1) (by omega) hg hr
  have e2:=aA (i:=i) (by omega)
  rw[aI,Xg];simp -implicitDefEqProofs only[gsR,c1,e1,cI,e2];rw[ih (i+1) k (qY r) _ (by omega) (by omega) (by omega) hm (by rw[hH,Nn]) hb (No hr)]
  rw[show 8-i=(8-(i+1))+1 by omega,tS]
theorem aJv (hm:10<m){b r:Nat}(hb:H[b]? =some (lZ r))(hr:r<65536)(c:UInt8):lvl prog pkN m (.func 233) [.pointer (some ⟨b,0,none⟩),kZ c] H=some (aJ [],H.set b (lZ (pA r c))):=by
 refine dA (cJ rfl) (by omega) ?_
 rw[aIQ];have hc:=c.toNat_lt;have e1:ld1 (.pointer (some ⟨b,0,none⟩)) H=some (.int .u16 r,H):=cT hb rfl;have e2:cS prog 5 331 (kZ c) H=some (.int .u16 c.toNat,H):=by
  show cS prog 5 331 (.int .u8 c.toNat) H=_
  rw[eZ _ _ u8U aJx,A2 (by omega) (by omega)]
 have e3:bin prog .shl 331 (.int .u16 (c.toNat:Int)) (.int .u64 8)=some (.int .u16 ((c.toNat*256:Nat):Int)):=by
  have:=yJ (P:=prog) .u16 .u64 rfl 331 c.toNat 8 (by decide)
  rw[show c.toNat*2 ^ 8%2 ^ IntKind.u16.bits=c.toNat*256 from by show c.toNat*256%65536=_;omega] at this
  exact this
 have e4:bin prog .xor 331 (.int .u16 (r:Int)) (.int .u16 ((c.toNat*256:Nat):Int))=some (.int .u16 ((r^^^c.toNat*256:Nat):Int)):=Dp .u16 rfl _ (a:=r) (b:=c.toNat*256) hr (by show _<65536;omega)
 have e5:stN 1 (.pointer (some ⟨b,0,none⟩)) (.int .u16 ((r^^^c.toNat*256:Nat):Int)) H=some (undef,H.set b (lZ (r^^^c.toNat*256))):=lQ hb (by decide) Nat.zero_lt_one
 simp -implicitDefEqProofs only[gsR,e1,e2,e3,e4,e5];refine(aJw (m:=m) 8 0 (m-1) (r^^^c.toNat*256) _ rfl (by omega) (by omega) (by omega) rfl (dC hb) (Np hr c) _ _ _ _ _ _ _ _ _ _ _ _ _ _ _).trans ?_
 unfold pA;rfl
theorem aJz {u:Value}{bs:List UInt8}{H0:aC}(hu:Br H0 u bs): ∀(q i k:Nat)(H:aC),bs.length-i=q->i<=bs.length->q<k->20<m->bs.length<4611686018427387904->H=H0++[lZ ((bs.take i).foldl pA 65535)]->
  ∀x0 x1 x2 x4 x5 x9 bK bM aR aN aM aP:Value,aI k (aK prog (lvl prog pkN (m-1)) (aI (m-1)) Mm) (Mn (lvl prog pkN (m-1)) (aI (m-1))) [x0,x1,x2,(.pointer (some ⟨H0.length,0,none⟩)),x4,x5,u,(.int .i64 bs.length),(.int .i64 i),x9,bK,bM,aR,aN,aM,aP] H=some (.int .u16 (crc bs),H0++[lZ (crc bs)]):=by
 intro q;induction q with
 |zero=>
  intro i k H hq hi hk hm hl hH x0 x1 x2 x4 x5 x9 bK bM aR aN aM aP;obtain⟨k,rfl⟩: ∃k',k=k'+1:=⟨k-1,by omega⟩
  have hi8:i=bs.length:=by omega
  subst hi8;have c1:decide ((bs.length:Int)<(bs.length:Int))=false:=by simp
  have hf:(bs.take bs.length).foldl pA 65535=crc bs:=by rw[List.take_length];unfold crc;rfl
  rw[hf] at hH;have e1:ld1 (.pointer (some ⟨H0.length,0,none⟩)) H=some (.int .u16 (crc bs),H):=by rw[hH];exact cT (dK _ _) rfl
  rw[aI,Xb];simp -implicitDefEqProofs only[gsR,c1];rw[aIq];simp -implicitDefEqProofs only[gsR,e1];rw[hH]
 |succ q ih=>
  intro i k H hq hi hk hm hl hH x0 x1 x2 x4 x5 x9 bK bM aR aN aM aP;obtain⟨k,rfl⟩: ∃k',k=k'+1:=⟨k-1,by omega⟩
  have c1:decide ((i:Int)<(bs.length:Int))=true:=by rw[decide_eq_true_eq];omega
  have hx:bs[i]? =some bs[i]:=aN8 (by omega)
  have hu':Br H u bs:=hu.ext (by rw[hH];exact Fr.app _ _ _)
  obtain⟨b,o,a1,a2⟩:=hu'.Ta hx .i64;have hg:H[H0.length]? =some (lZ ((bs.take i).foldl pA 65535)):=by rw[hH];exact dK _ _
  have e1:=aJv (m:=m-1) (by omega) hg (Nq _ (by decide)) bs[i]
  have e2:=aA (i:=i) (by omega)
  rw[aI,Xb];simp -implicitDefEqProofs only[gsR,c1,a1,a2,e1,cI,e2];refine ih (i+1) k _ (by omega) (by omega) (by omega) hm hl ?_ _ _ _ _ _ _ _ _ _ _ _ _
  rw[hH,nL,List.take_add_one,hx,List.foldl_append];rfl
theorem Nv {u:Value}{bs:List UInt8}(hu:Br H u bs)(hm:20<m)(hl:bs.length+1<m)(hl2:bs.length<4611686018427387904):lvl prog pkN m (.func 175) [u] H=some (.int .u16 (crc bs),H++[lZ (crc bs)]):=by
 refine dA (cJ rfl) (by omega) ?_
 rw[aIr];have e1:stN 1 (.pointer (some ⟨H.length,0,none⟩)) (.int .u16 65535) (H++[.cells [.int .u16 0] 331 .fix])=some (undef,H++[lZ 65535]):=by
  rw[lQ (dK _ _) (by decide) Nat.zero_lt_one,nL]
  rfl
 simp -implicitDefEqProofs only[gsR,e1,hu.Jk];exact aJz hu bs.length 0 (m-1) _ (by omega) (by omega) (by omega) hm hl2 rfl _ _ _ _ _ _ _ _ _ _ _ _
end
def mA (x:Snd):Blk:= .cells [.int .u64 x.s,.int .u64 x.l] 204 .fix
def jA (x:Rcv)(room:Nat):Blk:= .cells [.int .u64 x.n,.int .i64 x.h,.int .i64 room] 225 .fix
structure SndOk (x:Snd):Prop where
 le:x.s<=x.l
 wide:x.l<=x.s+8
 big:x.l<4611686018427387904
structure RcvOk (x:Rcv)(room:Nat):Prop where
 h:x.h<=room
 room:room<=8
 big:x.n<4611686018427387904
section
variable {H : aC} {m : Nat} {b : Nat}
theorem X4 (hm:0<m){x:Snd}(hx:SndOk x):lvl prog pkN m (.func 120) [.agg #[.int .u64 x.s,.int .u64 x.l]] H=some (.int .i64 x.oX,H++[.cells [.int .u64 x.s,.int .u64 x.l] 202 .fix]):=by
 have:=hx.le;have:=hx.wide;have:=hx.big;refine dA (cJ rfl) hm ?_;rw[aIl];have e0:(Value.cells (.agg #[.int .u64 x.s,.int .u64 x.l])).toList=[.int .u64 x.s,.int .u64 x.l]:=rfl;have e1:ld1 (.pointer (some ⟨H.length,1,none⟩)) (H++[.cells [.int .u64 x.s,.int .u64 x.l] 202 .fix])=some (.int .u64 x.l,H++[.cells [.int .u64 x.s,.int .u64 x.l] 202 .fix]):=cT (dK _ _) rfl;have e2:ld1 (.pointer (some ⟨H.length,0,none⟩)) (H++[.cells [.int .u64 x.s,.int .u64 x.l] 202 .fix])=some (.int .u64 x.s,H++[.cells [.int .u64 x.s,.int .u64 x.l] 202 .fix]):=cT (dK _ _) rfl;have e3:IntKind.u64.wrap ((x.l:Int)-x.s)=((x.oX:Nat):Int):=by rw[sS,Snd.oX];omega
 have e4:=yS x.oX (by unfold Snd.oX;omega)
 simp -implicitDefEqProofs only[gsR,e0,e1,e2,iF,e3,eZ _ _ qG iU,e4]
theorem Ny {x:Snd}(hb:H[b]? =some (mA x)):ldN 2 (.pointer (some ⟨b,0,none⟩)) H=some (.agg #[.int .u64 x.s,.int .u64 x.l],H):=yT hb (aOb 2)
theorem X5 (hm:1<m){x:Snd}(hb:H[b]? =some (mA x))(hx:SndOk x):lvl prog pkN m (.func 50) [.pointer (some ⟨b,0,none⟩)] H=some (.int .i64 x.oX,H++[.cells [.int .u64 x.s,.int .u64 x.l] 202 .fix]):=by
 refine dA (cJ rfl) (by omega) ?_
 rw[aI6];simp -implicitDefEqProofs only[gsR,Ny hb,X4 (H:=H) (m:=m-1) (by omega) hx]
theorem aJI (hm:0<m){x:Snd}(hb:H[b]? =some (mA x)):lvl prog pkN m (.func 47) [.pointer (some ⟨b,0,none⟩)] H=some (.int .u64 x.s,H):=by
 refine dA (cJ rfl) (by omega) ?_
 rw[aI5];have e1:ld1 (.pointer (some ⟨b,0,none⟩)) H=some (.int .u64 x.s,H):=cT hb rfl;simp -implicitDefEqProofs only[gsR,e1]
theorem aJH (hm:1<m){x:Snd}(hb:H[b]? =some (mA x))(hx:SndOk x): ∃H',lvl prog pkN m (.func 188) [.pointer (some ⟨b,0,none⟩)] H=some (.tuple #[.int .u64 x.oF.1,.bool (decide (x.l≠x.s))],H')/\Put1 H b (mA x.oF.2) H':=by
 have:=hx.le;have:=hx.wide;have:=hx.big;refine k8 (cJ rfl) (by omega) ?_
 rw[aIJ];have e0:=X4 (H:=H) (m:=m-1) (by omega) hx
 have hx1:Ext H (H++[Blk.cells [.int .u64 x.s,.int .u64 x.l] 202 .fix]):=Fr.app _ _ _;have hb1:=nK hb (Blk.cells [.int .u64 x.s,.int .u64 x.l] 202 .fix);by_cases hc:x.l=x.s
 ·have c1:((x.oX:Int)==0)=true:=by simp[Snd.oX,hc]
  have d1:x.oF=(0,x):=by simp[Snd.oF,hc]
  have d2:decide (x.l≠x.s)=false:=by simp[hc]
  simp -implicitDefEqProofs only[gsR,Ny hb,e0,c1,d1,d2]
  exact⟨_,rfl,Put1.ext hb hx1⟩
 ·have c1:((x.oX:Int)==0)=false:=by simp[Snd.oX];omega
  have d1:x.oF=(x.s,⟨x.s+1,x.l⟩):=by simp[Snd.oF,hc]
  have d2:decide (x.l≠x.s)=true:=by simp[hc]
  have e1:ld1 (.pointer (some ⟨b,0,none⟩)) (H++[Blk.cells [.int .u64 x.s,.int .u64 x.l] 202 .fix])=some (.int .u64 x.s,_):=cT hb1 rfl;have e2:IntKind.u64.wrap ((x.s:Int)+1)=((x.s+1:Nat):Int):=by rw[sS];omega
  have e3:stN 1 (.pointer (some ⟨b,0,none⟩)) (.int .u64 ((x.s+1:Nat):Int)) (H++[Blk.cells [.int .u64 x.s,.int .u64 x.l] 202 .fix])=some (undef,(H++[Blk.cells [.int .u64 x.s,.int .u64 x.l] 202 .fix]).set b (mA ⟨x.s+1,x.l⟩)):=lQ hb1 (by decide) (by simp)
  simp -implicitDefEqProofs only[gsR,Ny hb,e0,c1,e1,cI,e2,e3,d1,d2]
  exact⟨_,rfl,Put1.aJt hx1 (Put1.Bu hb1)⟩
theorem aJF (hm:2<m){x:Snd}(hb:H[b]? =some (mA x))(hx:SndOk x)(limit:Nat)(hl:limit<65536): ∃H' u,lvl prog pkN m (.func 117) [.pointer (some ⟨b,0,none⟩),.int .u16 limit] H=some (u,H')/\Put1 H b (mA (x.qD limit)) H':=by
 have:=hx.le;have:=hx.wide;have:=hx.big;refine iP (cJ rfl) (by omega) ?_
 rw[aIj];have e1:ld1 (.pointer (some ⟨b,1,none⟩)) H=some (.int .u64 x.l,H):=cT hb rfl;have e2:ld1 (.pointer (some ⟨b,0,none⟩)) H=some (.int .u64 x.s,H):=cT hb rfl;have e3:=X1 (H:=H) (m:=m-1) (by omega) x.l limit (by omega) hl
 have e4:IntKind.u64.wrap ((x.s:Int)+8)=((x.s+8:Nat):Int):=by rw[sS];omega
 by_cases c:dT x.l limit<=x.l
 ·have c1:decide ((dT x.l limit:Int)<=(x.l:Int))=true:=by rw[decide_eq_true_eq];omega
  have d:x.qD limit=x:=by unfold Snd.qD;rw[if_pos (.inl c)]
  simp -implicitDefEqProofs only[gsR,e1,e3,c1]
  exact⟨_,_,rfl,by rw[d];exact Put1.vB hb⟩
 ·have c1:decide ((dT x.l limit:Int)<=(x.l:Int))=false:=by rw[decide_eq_false_iff_not];omega
  by_cases c':x.s+8<dT x.l limit
  ·have c2:decide (((x.s+8:Nat):Int)<(dT x.l limit:Int))=true:=by rw[decide_eq_true_eq];omega
   have d:x.qD limit=x:=by unfold Snd.qD;rw[if_pos (.inr c')]
   simp -implicitDefEqProofs only[gsR,e1,e2,e3,c1,cI,e4,c2]
   exact⟨_,_,rfl,by rw[d];exact Put1.vB hb⟩
  ·have c2:decide (((x.s+8:Nat):Int)<(dT x.l limit:Int))=false:=by rw[decide_eq_false_iff_not];omega
   have d:x.qD limit=⟨x.s,dT x.l limit⟩:=by unfold Snd.qD;rw[if_neg (by omega)]
   have e5:stN 1 (.pointer (some ⟨b,1,none⟩)) (.int .u64 (dT x.l limit)) H=some (undef,H.set b (mA ⟨x.s,dT x.l limit⟩)):=lQ hb (by decide) (by simp)
   simp -implicitDefEqProofs only[gsR,e1,e2,e3,c1,cI,e4,c2,e5]
   exact⟨_,_,rfl,by rw[d];exact Put1.Bu hb⟩
theorem aJG (hm:0<m)(start room:Nat)(h1:start<65536)(h2:1<=room/\room<=8):lvl prog pkN m (.func 89) [.int .u64 start,.int .i64 room] H=some (.pointer (some ⟨H.length,0,none⟩),H++[mA ⟨start,start+room⟩]):=by
 refine dA (cJ rfl) (by omega) ?_
 rw[aJa];have c1:decide (4611686018427387904<=(start:Int))=false:=by rw[decide_eq_false_iff_not];omega
 have c2:decide ((room:Int)<1)=false:=by rw[decide_eq_false_iff_not];omega
 have c3:decide (8<(room:Int))=false:=by rw[decide_eq_false_iff_not];omega
 have e1:IntKind.u64.wrap (room:Int)=room:=yR room (by omega)
 have e2:IntKind.u64.wrap ((start:Int)+room)=((start+room:Nat):Int):=by rw[sS];omega
 have e3:bld prog 202 [(0,.int .u64 start),(1,.int .u64 ((start+room:Nat):Int))]=some (.agg #[.int .u64 start,.int .u64 ((start+room:Nat):Int)]):=rfl;have e4:bld prog 204 [(0,.agg #[.int .u64 start,.int .u64 ((start+room:Nat):Int)])]=some (.agg #[.int .u64 start,.int .u64 ((start+room:Nat):Int)]):=rfl;simp -implicitDefEqProofs only[gsR,c1,c2,c3,eZ _ _ iU qG,e1,cI,e2,e3,e4];rfl
theorem aJE (hm:0<m)(start room:Nat)(h1:start<65536)(h2:1<=room/\room<=8):lvl prog pkN m (.func 90) [.int .u64 start,.int .i64 room] H=some (.pointer (some ⟨H.length,0,none⟩),H++[jA ⟨start,0⟩ room]):=by
 refine dA (cJ rfl) (by omega) ?_
 rw[aJb];have c1:decide (4611686018427387904<=(start:Int))=false:=by rw[decide_eq_false_iff_not];omega
 have c2:decide ((room:Int)<1)=false:=by rw[decide_eq_false_iff_not];omega
 have c3:decide (8<(room:Int))=false:=by rw[decide_eq_false_iff_not];omega
 have e3:bld prog 225 [(0,.int .u64 start),(2,.int .i64 room)]=some (.agg #[.int .u64 start,.int .i64 0,.int .i64 room]):=rfl;simp -implicitDefEqProofs only[gsR,c1,c2,c3,e3];rfl
section
variable {x : Rcv} {room : Nat}
theorem vD (hb:H[b]? =some (jA x room)):ld1 (.pointer (some ⟨b,0,none⟩)) H=some (.int .u64 x.n,H)/\ld1 (.pointer (some ⟨b,1,none⟩)) H=some (.int .i64 x.h,H)/\ld1 (.pointer (some ⟨b,2,none⟩)) H=some (.int .i64 room,H):=⟨cT hb rfl,cT hb rfl,cT hb rfl⟩
theorem vE (hx:RcvOk x room):IntKind.i64.wrap ((room:Int)-x.h)=((room-x.h:Nat):Int)/\IntKind.u64.wrap ((room-x.h:Nat):Int)=((room-x.h:Nat):Int):=by
 have:=hx.h;have:=hx.room
 exact⟨by rw[dM (by omega) (by omega)];omega,yR _ (by omega)⟩
theorem aJD (hm:0<m)(hb:H[b]? =some (jA x room))(hx:RcvOk x room):lvl prog pkN m (.func 154) [.pointer (some ⟨b,0,none⟩)] H=some (.int .u64 (x.lY room),H):=by
 have:=hx.h;have:=hx.room;have:=hx.big;refine dA (cJ rfl) (by omega) ?_
 rw[aIm];have e:IntKind.u64.wrap ((x.n:Int)+((room-x.h:Nat):Int))=((x.lY room:Nat):Int):=by rw[sS,Rcv.lY];omega
 simp -implicitDefEqProofs only[gsR,(vD hb).1,(vD hb).2.1,(vD hb).2.2,iF,(vE hx).1,(vE hx).2,eZ _ _ iU qG,cI,e]
def nX (n w:Nat):Nat:=(w+(18446744073709551616-n))%18446744073709551616
theorem X3 (hm:2<m)(hb:H[b]? =some (jA x room))(hx:RcvOk x room)(s:Nat)(hs:s<65536):lvl prog pkN m (.func 196) [.pointer (some ⟨b,0,none⟩),.int .u16 s] H=some (.tuple #[.int .u64 (dT x.n s),.int .u64 (nX x.n (dT x.n s)),.bool (decide (x.n<=dT x.n s))],H):=by
 have:=hx.big;refine dA (cJ rfl) (by omega) ?_
 rw[aIN];have e1:=X1 (H:=H) (m:=m-1) (by omega) x.n s (by omega) hs
 have e2:IntKind.u64.wrap ((dT x.n s:Int)-x.n)=((nX x.n (dT x.n s):Nat):Int):=aJp _ _ (Nx _ _) (by omega)
 have e3:decide ((x.n:Int)<=(dT x.n s:Int))=decide (x.n<=dT x.n s):=by simp
 simp -implicitDefEqProofs only[gsR,(vD hb).1,e1,iF,e2,e3];rfl
theorem X2 {n w:Nat}(hn:n<18446744073709551616)(hw:w<18446744073709551616)(h:n<=w):nX n w=w-n:=by unfold nX;omega
theorem aJA (hm:3<m)(hb:H[b]? =some (jA x room))(hx:RcvOk x room)(s:Nat)(hs:s<65536): ∃H',lvl prog pkN m (.func 197) [.pointer (some ⟨b,0,none⟩),.int .u16 s] H=some (.int .u16 (x.kQ room s).1,H')/\Put1 H b (jA (x.kQ room s).2 room) H':=by
 have:=hx.h;have:=hx.room;have:=hx.big;have hwl:=Nx x.n s;refine k8 (cJ rfl) (by omega) ?_
 rw[aIO];have e1:=X3 (m:=m-1) (by omega) hb hx s hs
 obtain⟨l0,l1,l2⟩:=vD hb;have x0: ∀y,ext 0 (.tuple #[.int .u64 (dT x.n s),.int .u64 (nX x.n (dT x.n s)),.bool y])=some (.int .u64 (dT x.n s)):=λ_=>rfl
 have x1: ∀y,ext 1 (.tuple #[.int .u64 (dT x.n s),.int .u64 (nX x.n (dT x.n s)),.bool y])=some (.int .u64 (nX x.n (dT x.n s))):=λ_=>rfl
 have x2: ∀y,ext 2 (.tuple #[.int .u64 (dT x.n s),.int .u64 (nX x.n (dT x.n s)),.bool y])=some (.bool y):=λ_=>rfl
 by_cases c:x.n<=dT x.n s
 ·have c1:decide (x.n<=dT x.n s)=true:=aOQ c
  have hf:=X2 (by omega) hwl c
  have ef:IntKind.u64.wrap (((room-x.h:Nat)):Int)=_:=(vE hx).2;by_cases c':x.lY room<=dT x.n s
  ·have c2:decide (((room-x.h:Nat):Int)<=(nX x.n (dT x.n s):Int))=true:=by rw[decide_eq_true_eq,hf];unfold Rcv.lY at c';omega
   have d:x.kQ room s=(61,x):=by unfold Rcv.kQ;rw[if_neg (by omega),if_pos c']
   simp -implicitDefEqProofs only[gsR,e1,x0,x1,x2,c1,l0,l1,l2,iF,(vE hx).1,eZ _ _ iU qG,ef,c2,d]
   exact⟨_,rfl,Put1.vB hb⟩
  ·have c2:decide (((room-x.h:Nat):Int)<=(nX x.n (dT x.n s):Int))=false:=by rw[decide_eq_false_iff_not,hf];unfold Rcv.lY at c';omega
   have d:x.kQ room s=(0,⟨dT x.n s+1,x.h+1⟩):=by unfold Rcv.kQ;rw[if_neg (by omega),if_neg c']
   have hlt:dT x.n s<4611686018427387912:=by unfold Rcv.lY at c';omega
   have e2:IntKind.u64.wrap ((dT x.n s:Int)+1)=((dT x.n s+1:Nat):Int):=by rw[sS];omega
   have e3:stN 1 (.pointer (some ⟨b,0,none⟩)) (.int .u64 ((dT x.n s+1:Nat):Int)) H=some (undef,H.set b (jA ⟨dT x.n s+1,x.h⟩ room)):=lQ hb (by decide) (by simp)
   have hb1:(H.set b (jA ⟨dT x.n s+1,x.h⟩ room))[b]? =some (jA ⟨dT x.n s+1,x.h⟩ room):=iT hb;have e4:=(vD hb1).2.1;have e5:IntKind.i64.wrap ((x.h:Int)+1)=((x.h+1:Nat):Int):=by rw[dM (by omega) (by omega)];omega
   have e6:stN 1 (.pointer (some ⟨b,1,none⟩)) (.int .i64 ((x.h+1:Nat):Int)) (H.set b (jA ⟨dT x.n s+1,x.h⟩ room))=some (undef,(H.set b (jA ⟨dT x.n s+1,x.h⟩ room)).set b (jA ⟨dT x.n s+1,x.h+1⟩ room)):=lQ hb1 (by decide) (by simp)
   simp -implicitDefEqProofs only[gsR,e1,x0,x1,x2,c1,l0,l1,l2,iF,(vE hx).1,eZ _ _ iU qG,ef,c2,cI,e2,e3,e4,e5,e6,d,Nn]
   exact⟨_,rfl,Put1.Bu hb⟩
 ·have c1:decide (x.n<=dT x.n s)=false:=aOR c
  have d:x.kQ room s=(60,x):=by unfold Rcv.kQ;rw[if_pos (by omega)]
  simp -implicitDefEqProofs only[gsR,e1,x0,x1,x2,c1,d]
  exact⟨_,rfl,Put1.vB hb⟩
theorem aJB (hm:0<m)(hb:H[b]? =some (jA x room))(hx:RcvOk x room): ∃H' u,lvl prog pkN m (.func 186) [.pointer (some ⟨b,0,none⟩)] H=some (u,H')/\Put1 H b (jA x.tT room) H':=by
 have:=hx.h;have:=hx.room;refine iP (cJ rfl) (by omega) ?_
 rw[aIH];obtain⟨l0,l1,l2⟩:=vD hb;by_cases c:x.h=0
 ·have c1:((x.h:Int)==0)=true:=by simp[c]
  simp -implicitDefEqProofs only[gsR,l1,c1];refine⟨_,_,rfl,?_⟩;have d:x.tT=x:=by unfold Rcv.tT;rw[c];cases x;simp at c;subst c;rfl
  rw[d];exact Put1.vB hb
 ·have c1:((x.h:Int)==0)=false:=by simp[c]
  have e5:IntKind.i64.wrap ((x.h:Int)-1)=((x.h-1:Nat):Int):=by rw[dM (by omega) (by omega)];omega
  have e6:stN 1 (.pointer (some ⟨b,1,none⟩)) (.int .i64 ((x.h-1:Nat):Int)) H=some (undef,H.set b (jA x.tT room)):=lQ hb (by decide) (by simp)
  simp -implicitDefEqProofs only[gsR,l1,c1,iF,e5,e6]
  exact⟨_,_,rfl,Put1.Bu hb⟩
theorem aJC (hm:3<m)(hb:H[b]? =some (jA x room))(hx:RcvOk x room)(s:Nat)(hs:s<65536): ∃H' u,lvl prog pkN m (.func 118) [.pointer (some ⟨b,0,none⟩),.int .u16 s] H=some (u,H')/\Put1 H b (jA (x.pO room s) room) H':=by
 have:=hx.h;have:=hx.room;have:=hx.big;have hwl:=Nx x.n s;refine iP (cJ rfl) (by omega) ?_
 rw[aIk];have e1:=X3 (m:=m-1) (by omega) hb hx s hs
 obtain⟨l0,l1,l2⟩:=vD hb;have x0: ∀y,ext 0 (.tuple #[.int .u64 (dT x.n s),.int .u64 (nX x.n (dT x.n s)),.bool y])=some (.int .u64 (dT x.n s)):=λ_=>rfl
 have x1: ∀y,ext 1 (.tuple #[.int .u64 (dT x.n s),.int .u64 (nX x.n (dT x.n s)),.bool y])=some (.int .u64 (nX x.n (dT x.n s))):=λ_=>rfl
 have x2: ∀y,ext 2 (.tuple #[.int .u64 (dT x.n s),.int .u64 (nX x.n (dT x.n s)),.bool y])=some (.bool y):=λ_=>rfl
 by_cases c:x.n<=dT x.n s
 ·have c1:decide (x.n<=dT x.n s)=true:=aOQ c
  have hf:=X2 (by omega) hwl c
  have ef:IntKind.u64.wrap (((room-x.h:Nat)):Int)=_:=(vE hx).2;by_cases c0:dT x.n s=x.n
  ·have c2:((nX x.n (dT x.n s):Int)==0)=true:=by rw[hf,c0];simp
   have d:x.pO room s=x:=by unfold Rcv.pO;rw[if_pos (by omega)]
   simp -implicitDefEqProofs only[gsR,e1,x0,x1,x2,c1,c2]
   exact⟨_,_,rfl,by rw[d];exact Put1.vB hb⟩
  ·have c2:((nX x.n (dT x.n s):Int)==0)=false:=by rw[hf];simp;omega
   by_cases c':x.lY room<dT x.n s
   ·have c3:decide (((room-x.h:Nat):Int)<(nX x.n (dT x.n s):Int))=true:=by rw[decide_eq_true_eq,hf];unfold Rcv.lY at c';omega
    have d:x.pO room s=x:=by unfold Rcv.pO;rw[if_pos (by omega)]
    simp -implicitDefEqProofs only[gsR,e1,x0,x1,x2,c1,c2,l0,l1,l2,iF,(vE hx).1,eZ _ _ iU qG,ef,c3]
    exact⟨_,_,rfl,by rw[d];exact Put1.vB hb⟩
   ·have c3:decide (((room-x.h:Nat):Int)<(nX x.n (dT x.n s):Int))=false:=by rw[decide_eq_false_iff_not,hf];unfold Rcv.lY at c';omega
    have d:x.pO room s=⟨dT x.n s,x.h⟩:=by unfold Rcv.pO;rw[if_neg (by omega)]
    have e3:stN 1 (.pointer (some ⟨b,0,none⟩)) (.int .u64 (dT x.n s)) H=some (undef,H.set b (jA ⟨dT x.n s,x.h⟩ room)):=lQ hb (by decide) (by simp)
    simp -implicitDefEqProofs only[gsR,e1,x0,x1,x2,c1,c2,l0,l1,l2,iF,(vE hx).1,eZ _ _ iU qG,ef,c3,e3]
    exact⟨_,_,rfl,by rw[d];exact Put1.Bu hb⟩
 ·have c1:decide (x.n<=dT x.n s)=false:=aOR c
  have d:x.pO room s=x:=by unfold Rcv.pO;rw[if_pos (by omega)]
  simp -implicitDefEqProofs only[gsR,e1,x0,x1,x2,c1]
  exact⟨_,_,rfl,by rw[d];exact Put1.vB hb⟩
end
end
def frC (f:Frm):List Value:=[.int .u8 f.kind,.int .u8 f.lane,.int .u16 f.seq,.int .u8 f.src,.int .u8 f.dst,.int .u32 f.body]
def frV (f:Frm):Value:= .agg ⟨frC f⟩
def frB (f:Frm):Blk:= .cells (frC f) 71 .fix
def byC (b:UInt8):List Value:=[kZ b]
theorem wV (b:UInt8):(byC b).length=1:=rfl
theorem Bv (b:UInt8):dR (byC b)=true:=rfl
theorem q9: ∀bs:List UInt8,(bs.map byC).flatten=bs.map kZ
 |[]=>rfl
 |b::bs=>by simp[byC,q9 bs]
abbrev By (H:aC)(v:Value)(bs:List UInt8):Prop:=Rw byC 5 1 H v bs
theorem By.br {H:aC}{v:Value}{bs:List UInt8}(h:By H v bs):Br H v bs:=by
 rcases h.rs with⟨h1,h2⟩|⟨b,o,cap,h1,h2,h3⟩
 ·exact .inl ⟨h2,.inl h1⟩
 ·by_cases hb:bs=[]
  ·exact .inl ⟨hb,.inr ⟨b,o,cap,by rw[h1,hb];rfl⟩⟩
  ·obtain⟨e',k,pre,post,h4,_,h5⟩:=h3 hb
   refine .inr ⟨b,o,cap,_,e',k,h1,List.length_pos_iff.mpr hb,h5,?_,?_⟩
   ·rw[q9]
    simp;omega
   ·rw[q9,<-h4,aOd,List.drop_left]
    have:bs.length=(bs.map kZ).length:=by simp
    rw[this,List.take_left]
section
variable {H : aC} {m : Nat}
theorem oJ:prog.underlying 29=some (.int .u32):=by kernel_rfl
theorem kFr:r8 prog 71=some [true,true,true,true,true,true]:=by kernel_rfl
def Fg (x y:Frm):Bool:=((x.kind:Int)==y.kind)&&(((x.lane:Int)==y.lane)&&(((x.seq:Int)==y.seq)&&(((x.src:Int)==y.src)&&(((x.dst:Int)==y.dst)&&(((x.body:Int)==y.body)&&true)))))
theorem eFr (x y:Frm):bin prog .eql 71 (frV x) (frV y)=some (.bool (Fg x y)):=by
 simp[bin,frV,dU,oN,kFr,eqT,frC,Fg]
theorem wW (a b:Int):lV prog true [.int .u8 a,.int .u8 b]=some (.int .u8 (max a b)):=by
 simp[lV,dU,iL,pur,Builtin.max_,Builtin.max2,pure,bind,Sem.bind]
 split<;>omega
theorem mR {b:Nat}{f:Frm}(hb:H[b]? =some (frB f)):ld1 (.pointer (some ⟨b,0,none⟩)) H=some (.int .u8 f.kind,H)/\ld1 (.pointer (some ⟨b,1,none⟩)) H=some (.int .u8 f.lane,H)/\ld1 (.pointer (some ⟨b,2,none⟩)) H=some (.int .u16 f.seq,H)/\
  ld1 (.pointer (some ⟨b,3,none⟩)) H=some (.int .u8 f.src,H)/\ld1 (.pointer (some ⟨b,4,none⟩)) H=some (.int .u8 f.dst,H)/\ld1 (.pointer (some ⟨b,5,none⟩)) H=some (.int .u32 f.body,H)/\ldN 6 (.pointer (some ⟨b,0,none⟩)) H=some (frV f,H):=
 ⟨cT hb rfl,cT hb rfl,cT hb rfl,cT hb rfl,cT hb rfl,cT hb rfl,yT hb (aOb 6)⟩
theorem pQ (a b:Nat):((a:Int)==(b:Int))=decide (a=b):=by
 by_cases h:a=b
 ·simp[h]
 ·simp[h];omega
theorem yX (a b:Nat):((a:Int)!=(b:Int))=decide (a≠b):=by
 by_cases h:a=b
 ·simp[h]
 ·simp[h];omega
theorem X6 (hm:0<m)(f:Frm):lvl prog pkN m (.func 172) [frV f] H=some (.bool (dO f),H++[frB f]):=by
 refine dA (cJ rfl) hm ?_;rw[aIn];have e0:(Blk.cells (Value.cells (frV f)).toList 71 .fix)=frB f:=rfl;obtain⟨l0,l1,l2,l3,l4,l5,l6⟩:=mR (dK H (frB f));have k1:((f.kind:Int)==1)=decide (f.kind=1):=pQ f.kind 1;have k2:((f.kind:Int)==2)=decide (f.kind=2):=pQ f.kind 2;have k3:((f.kind:Int)==3)=decide (f.kind=3):=pQ f.kind 3;have k4:decide ((f.lane:Int)<3)=decide (f.lane<=2):=by congr 1;exact propext (by omega)
 have k5:decide (max (f.src:Int) (f.dst:Int)<6)=decide (f.src<=5/\f.dst<=5):=by congr 1;exact propext (by omega)
 have k6:((f.src:Int)!=(f.dst:Int))=decide (f.src≠f.dst):=yX _ _;have b1:bld prog 71 [(0,.int .u8 f.kind),(1,.int .u8 f.lane),(2,.int .u16 f.seq)]=some (frV ⟨f.kind,f.lane,f.seq,0,0,0⟩):=rfl;have b2:Fg f ⟨f.kind,f.lane,f.seq,0,0,0⟩=decide (f.src=0/\f.dst=0/\f.body=0):=by
  simp only[Fg,pQ,decide_true,aOu,Bool.and_true];rw[<-Bool.decide_and,<-Bool.decide_and]
 by_cases p1:f.kind=1
 ·by_cases p2:f.lane<=2
  ·by_cases p3:f.src<=5/\f.dst<=5
   ·by_cases p4:f.src≠f.dst
    ·have hs:dO f=true:=by unfold dO;simp[p1,p2,p3.1,p3.2,p4]
     simp -implicitDefEqProofs only[gsR,e0,l0,l1,l3,l4,wW,k1,k4,k5,k6,aOQ p1,aOQ p2,aOQ p3,aOQ p4,hs]
    ·have hs:dO f=false:=by unfold dO;simp[p1,p4]
     simp -implicitDefEqProofs only[gsR,e0,l0,l1,l3,l4,wW,k1,k4,k5,k6,aOQ p1,aOQ p2,aOQ p3,aOR p4,hs]
   ·have hs:dO f=false:=by unfold dO;simp[p1];omega
    simp -implicitDefEqProofs only[gsR,e0,l0,l1,l3,l4,wW,k1,k4,k5,k6,aOQ p1,aOQ p2,aOR p3,hs]
  ·have hs:dO f=false:=by unfold dO;simp[p2]
   simp -implicitDefEqProofs only[gsR,e0,l0,l1,l3,l4,wW,k1,k4,k5,k6,aOQ p1,aOR p2,hs]
 ·by_cases p2:f.kind=2
  ·by_cases p3:f.lane<=2
   ·by_cases p4:f.src=0/\f.dst=0/\f.body=0
    ·have hs:dO f=true:=by unfold dO;simp[p2,p3,p4.1,p4.2.1,p4.2.2]
     simp -implicitDefEqProofs only[gsR,e0,l0,l1,l2,l6,k1,k2,k4,b1,eFr,b2,aOR p1,aOQ p2,aOQ p3,aOQ p4,hs]
    ·have hs:dO f=false:=by unfold dO;simp[p2];omega
     simp -implicitDefEqProofs only[gsR,e0,l0,l1,l2,l6,k1,k2,k4,b1,eFr,b2,aOR p1,aOQ p2,aOQ p3,aOR p4,hs]
   ·have hs:dO f=false:=by unfold dO;simp[p3]
    simp -implicitDefEqProofs only[gsR,e0,l0,l1,l2,l6,k1,k2,k4,b1,eFr,b2,aOR p1,aOQ p2,aOR p3,hs]
  ·by_cases p2':f.kind=3
   ·by_cases p3:f.lane<=2
    ·by_cases p4:f.src=0/\f.dst=0/\f.body=0
     ·have hs:dO f=true:=by unfold dO;simp[p2',p3,p4.1,p4.2.1,p4.2.2]
      simp -implicitDefEqProofs only[gsR,e0,l0,l1,l2,l6,k1,k2,k3,k4,b1,eFr,b2,aOR p1,aOR p2,aOQ p2',aOQ p3,aOQ p4,hs]
     ·have hs:dO f=false:=by unfold dO;simp[p2'];omega
      simp -implicitDefEqProofs only[gsR,e0,l0,l1,l2,l6,k1,k2,k3,k4,b1,eFr,b2,aOR p1,aOR p2,aOQ p2',aOQ p3,aOR p4,hs]
    ·have hs:dO f=false:=by unfold dO;simp[p3]
     simp -implicitDefEqProofs only[gsR,e0,l0,l1,l2,l6,k1,k2,k3,k4,b1,eFr,b2,aOR p1,aOR p2,aOQ p2',aOR p3,hs]
   ·have hs:dO f=false:=by unfold dO;simp[p1,p2,p2']
    simp -implicitDefEqProofs only[gsR,e0,l0,l1,l2,l6,k1,k2,k3,k4,aOR p1,aOR p2,aOR p2',hs]
theorem yW (n:Nat):kZ (by8 n)= .int .u8 ((n%256:Nat):Int):=by rw[kZ,sZ]
theorem Bw (hm:0<m){H0:aC}{v:Value}{bs:List UInt8}(n:Nat)(hn:n<65536)(h:By H v bs)(hv:New H0 v)(he:Ext H0 H)(hr:jQ (bs.length+2) 1=true):
  ∃H' v',lvl prog pkN m (.func 173) [v,.int .u16 n] H=some (v',H')/\By H' v' (bs++eI n)/\New H0 v'/\Ext H0 H':=by
 refine iP (cJ rfl) hm ?_;rw[aIo];have e1:bin prog .shr 23 (.int .u16 (n:Int)) (.int .u64 8)=some (.int .u16 ((n/256:Nat):Int)):=by
  have:=wL (P:=prog) .u16 .u64 23 n 8 (by decide)
  rw[Nat.shiftRight_eq_div_pow] at this;exact this
 have e2:dJ 5 1 2 [.int .u8 0] [(0,.int .u8 ((n/256%256:Nat):Int)),(1,.int .u8 ((n%256:Nat):Int))] H=some (.slice (some ⟨H.length,0,none⟩) 2 2,H++[.cells ((eI n).map byC).flatten 5 .row]):=by
  rw[q9];simp only[eI,aOC,List.map_nil,yW];rfl
 have hw:Rs byC 5 (H++[.cells ((eI n).map byC).flatten 5 .row]) (.slice (some ⟨H.length,0,none⟩) 2 2) (eI n):=
  .inr ⟨H.length,0,2,rfl,aOb 2,λ_=>⟨5,.row,[],[],rfl,λ_=>rfl,by simp⟩⟩
 obtain⟨v',H',g1,g2,g3,g4⟩:=(h.sP [.cells ((eI n).map byC).flatten 5 .row]).tL wV Bv (by decide) (by':=1) hw hv (he.tr (Fr.app _ _ _)) hr
 simp -implicitDefEqProofs only[gsR,e1,eZ _ _ lS u8U,Nm,e2,g1]
 exact⟨_,_,rfl,g2,g3,g4⟩
theorem aJJ (hm:1<m){H0:aC}{v:Value}{bs:List UInt8}(n:Nat)(hn:n<4294967296)(h:By H v bs)(hv:New H0 v)(he:Ext H0 H)(hr:jQ (bs.length+4) 1=true):
  ∃H' v',lvl prog pkN m (.func 174) [v,.int .u32 n] H=some (v',H')/\By H' v' (bs++(eI (n/65536)++eI n))/\New H0 v'/\Ext H0 H':=by
 refine iP (cJ rfl) (by omega) ?_
 rw[aIp];have e1:bin prog .shr 29 (.int .u32 (n:Int)) (.int .u64 16)=some (.int .u32 ((n/65536:Nat):Int)):=by
  have:=wL (P:=prog) .u32 .u64 29 n 16 (by decide)
  rw[Nat.shiftRight_eq_div_pow] at this;exact this
 have e2:IntKind.u16.wrap ((n/65536:Nat):Int)=((n/65536:Nat):Int):=A2 (by omega) (by omega)
 obtain⟨H1,v1,g1,g2,g3,g4⟩:=Bw (m:=m-1) (by omega) (n/65536) (by omega) h hv he (kH hr (by omega))
 obtain⟨H2,v2,g5,g6,g7,g8⟩:=Bw (m:=m-1) (by omega) (n%65536) (by omega) g2 g3 g4 (kH hr (by simp[eI]))
 have e3:eI (n%65536)=eI n:=by
  simp only[eI];rw[u7 (n:=n%65536/256) (c:=by8 (n/256)) (by rw[sZ];omega),u7 (n:=n%65536) (c:=by8 n) (by rw[sZ];omega)]
 rw[e3,aOd] at g6;simp -implicitDefEqProofs only[gsR,e1,eZ _ _ oJ lS,e2,g1,Bq,g5]
 exact⟨_,_,rfl,g6,g7,g8⟩
end
section
variable {H : aC} {m : Nat}
theorem By.yY (H:aC)(bs:List UInt8):By (H++[.cells ((bs.map byC).flatten) 5 .row]) (.slice (some ⟨H.length,0,none⟩) bs.length bs.length) bs:=by
 refine⟨by rw[q9];simp,.inr ⟨H.length,bs.length,[],rfl,aOb _,by simp,by simp⟩⟩
theorem By.ext {H':aC}{v:Value}{bs:List UInt8}(h:By H v bs)(he:Ext H H'):By H' v bs:=h.gF λb hb=>he.2 b (h.iO hb) id
theorem X7 (H0:aC){H:aC}(he:Ext H0 H)(n c:Nat):New H0 (.slice (some ⟨H.length,0,none⟩) n c):=λb ⟨_,_,_,h⟩=>by
 cases h;exact he.1
theorem yZ {n:Nat}(h:n<=100):jQ n 1=true:=kH (n:=100) (by decide) h
theorem aJK (hm:100<m)(f:Frm)(hf:f.ok): ∃H' v,lvl prog pkN m (.func 97) [frV f] H=some (.tuple #[v,.int .u16 (if dO f=true then 0 else 1)],H')/\Ext H H'/\By H' v (oH f)/\New H v:=by
 have main: ∃H' r,lvl prog pkN m (.func 97) [frV f] H=some (r,H')/\ ∃v,r= .tuple #[v,.int .u16 (if dO f=true then 0 else 1)]/\Ext H H'/\By H' v (oH f)/\New H v:=by
  refine iP (cJ rfl) (by omega) ?_
  rw[aJg];have e0:(Blk.cells (Value.cells (frV f)).toList 71 .fix)=frB f:=rfl;obtain⟨l0,l1,l2,l3,l4,l5,l6⟩:=mR (dK H (frB f));have s1:=X6 (H:=H++[frB f]) (m:=m-1) (by omega) f
  have x0:Ext H (H++[frB f]):=Fr.app _ _ _;have x1:Ext H (H++[frB f]++[frB f]):=x0.tr (Fr.app _ _ _);by_cases hs:dO f=true
  ·rw[hs] at s1
   have hb2:=nK (dK H (frB f)) (frB f);obtain⟨q0,q1,q2,q3,q4,q5,q6⟩:=mR hb2;have e2: ∀G:aC,dJ 5 1 2 [.int .u8 0] [(0,.int .u8 (f.kind:Int)),(1,.int .u8 (f.lane:Int))] G=some (.slice (some ⟨G.length,0,none⟩) 2 2,G++[.cells (([by8 f.kind,by8 f.lane].map byC).flatten) 5 .row]):=λG=>by
    rw[q9];simp only[aOC,List.map_nil,yW,aOF hf.kind,aOF hf.lane];rfl
   obtain⟨G2,hG2⟩: ∃G2,H++[frB f]++[frB f]=G2:=⟨_,rfl⟩;rw[hG2] at s1 x1 hb2 q0 q1 q2 q3 q4 q5 q6;obtain⟨G3,hG3⟩: ∃G3,G2++[Blk.cells (([by8 f.kind,by8 f.lane].map byC).flatten) 5 .row]=G3:=⟨_,rfl⟩;have b3:By G3 (.slice (some ⟨G2.length,0,none⟩) 2 2) [by8 f.kind,by8 f.lane]:=by rw[<-hG3];exact By.yY G2 [by8 f.kind,by8 f.lane]
   have x3:Ext H G3:=by rw[<-hG3];exact x1.tr (Fr.app _ _ _)
   have hb3:G3[H.length]? =some (frB f):=by rw[<-hG3];exact nK hb2 _
   obtain⟨p0,p1,p2,p3,p4,p5,p6⟩:=mR hb3;have x3':Ext G2 G3:=by rw[<-hG3];exact Fr.app _ _ _
   obtain⟨G4,v4,g1,b4,n4',x4'⟩:=Bw (m:=m-1) (by omega) (H0:=G2) f.seq hf.seq b3 (X7 G2 (Fr.nF _ _) 2 2) x3' (yZ (by simp))
   have nk:((f.kind:Int)==1)=decide (f.kind=1):=pQ f.kind 1;have hb4:G4[H.length]? =some (frB f):=by rw[x4'.2 _ (dC hb2) id,hb2]
   obtain⟨t0,t1,t2,t3,t4,t5,t6⟩:=mR hb4;by_cases hk:f.kind=1
   ·have e5:dJ 5 1 2 [.int .u8 0] [(0,.int .u8 (f.src:Int)),(1,.int .u8 (f.dst:Int))] G4=some (.slice (some ⟨G4.length,0,none⟩) 2 2,G4++[.cells (([by8 f.src,by8 f.dst].map byC).flatten) 5 .row]):=by
     rw[q9];simp only[aOC,List.map_nil,yW,aOF hf.src,aOF hf.dst];rfl
    have w5:Rs byC 5 (G4++[.cells (([by8 f.src,by8 f.dst].map byC).flatten) 5 .row]) (.slice (some ⟨G4.length,0,none⟩) 2 2) [by8 f.src,by8 f.dst]:=(By.yY G4 [by8 f.src,by8 f.dst]).rs;obtain⟨v6,G6,g6,b6,n6,x6⟩:=(b4.sP [.cells (([by8 f.src,by8 f.dst].map byC).flatten) 5 .row]).tL wV Bv (by decide) (by':=1) w5 n4' (x4'.tr (Fr.app _ _ _)) (yZ (by simp[eI]))
    have hb6:G6[H.length]? =some (frB f):=by rw[x6.2 _ (dC hb2) id,hb2]
    obtain⟨r0,r1,r2,r3,r4,r5,r6⟩:=mR hb6;have hb5:(G4++[Blk.cells (([by8 f.src,by8 f.dst].map byC).flatten) 5 .row])[H.length]? =some (frB f):=nK hb4 _;have r5':=(mR hb5).2.2.2.2.2.1;have ck:chk (some (Value.int .u32 (f.body:Int),G4++[Blk.cells (([by8 f.src,by8 f.dst].map byC).flatten) 5 .row])) (.int .u32 (f.body:Int))=true:=by simp[chk,veq]
    obtain⟨G7,v7,g7,b7,n7,x7⟩:=aJJ (m:=m-1) (by omega) f.body hf.body b6 n6 x6 (yZ (by simp[eI]))
    have hbody:iV f=[by8 f.kind,by8 f.lane]++eI f.seq++[by8 f.src,by8 f.dst]++(eI (f.body/65536)++eI f.body):=by
     unfold iV pB;rw[if_pos hk];simp[eI]
    rw[<-hbody] at b7;have hl7:(iV f).length=10:=by rw[hbody];simp[eI]
    have s7:=Nv (H:=G7) (m:=m-1) b7.br (by omega) (by omega) (by omega)
    obtain⟨G8,v8,g8,b8,n8,x8⟩:=Bw (H:=G7++[lZ (crc (iV f))]) (m:=m-1) (by omega) (crc (iV f)) (wS _) (b7.ext (Fr.app _ _ _)) n7 (x7.tr (Fr.app _ _ _)) (by rw[hl7];decide)
    simp -implicitDefEqProofs only[gsR,e0,l6,hG2,s1,q0,q1,e2,hG3,p2,g1,t0,nk,aOQ hk,t3,t4,e5,g6,r5,r5',ck,g7,s7,g8];refine⟨_,_,rfl,_,by simp[hs],x1.tr x8,?_,λb hb=>aOm x1.1 (n8 b hb)⟩
    unfold oH nM kK;rw[if_pos hs];exact b8
   ·have hbody:iV f=[by8 f.kind,by8 f.lane]++eI f.seq:=by
     unfold iV pB;rw[if_neg hk];simp[eI]
    rw[<-hbody] at b4;have hl7:(iV f).length=4:=by rw[hbody];simp[eI]
    have s7:=Nv (H:=G4) (m:=m-1) b4.br (by omega) (by omega) (by omega)
    obtain⟨G8,v8,g8,b8,n8,x8⟩:=Bw (H:=G4++[lZ (crc (iV f))]) (m:=m-1) (by omega) (crc (iV f)) (wS _) (b4.ext (Fr.app _ _ _)) n4' (x4'.tr (Fr.app _ _ _)) (by rw[hl7];decide)
    simp -implicitDefEqProofs only[gsR,e0,l6,hG2,s1,q0,q1,e2,hG3,p2,g1,t0,nk,aOR hk,s7,g8];refine⟨_,_,rfl,_,by simp[hs],x1.tr x8,?_,λb hb=>aOm x1.1 (n8 b hb)⟩
    unfold oH nM kK;rw[if_pos hs];exact b8
  ·have hs':dO f=false:=by simpa using hs
   rw[hs'] at s1;simp -implicitDefEqProofs only[gsR,e0,l6,s1];refine⟨_,_,rfl,_,by simp[hs],x1,?_,New.nG H⟩
   unfold oH nM;rw[if_neg hs];exact Rw.lE
 obtain⟨H',r,h1,v,rfl,h2⟩:=main
 exact⟨H',v,h1,h2⟩
end
section
variable {H : aC} {m : Nat}
abbrev Bs (H:aC)(v:Value)(bs:List UInt8):Prop:=Rs byC 5 H v bs
theorem aJL {v:Value}{bs:List UInt8}(h:Bs H v bs):Br H v bs:=by
 rcases h with⟨h1,h2⟩|⟨b,o,cap,h1,h2,h3⟩
 ·exact .inl ⟨h2,.inl h1⟩
 ·by_cases hb:bs=[]
  ·exact .inl ⟨hb,.inr ⟨b,o,cap,by rw[h1,hb];rfl⟩⟩
  ·obtain⟨e',k,pre,post,h4,_,h5⟩:=h3 hb
   refine .inr ⟨b,o,cap,_,e',k,h1,List.length_pos_iff.mpr hb,h5,?_,?_⟩
   ·rw[q9]
    simp;omega
   ·rw[q9,<-h4,aOd,List.drop_left]
    have:bs.length=(bs.map kZ).length:=by simp
    rw[this,List.take_left]
theorem Bx {v:Value}{bs:List UInt8}(h:Bs H v bs){i:Nat}{x:UInt8}(hx:bs[i]? =some x)(k:IntKind): ∃a,bH 1 v (.int k i)=some a/\ ∀H',Ext H H'->ld1 a H'=some (kZ x,H'):=by
 obtain⟨b,o,h1,h2,h3⟩:=h.iS wV hx k;obtain⟨e',hr⟩:=h.rr (λh=>by subst h;simp at hx)
 exact⟨_,h1,λH' he=>(h3 H' (he.2 b (hr.aD5 h2) id)).2.1 0 (kZ x) rfl⟩
theorem Ya (bs:List UInt8)(c:UInt8):fA (bs++[c])=fA bs*256+c.toNat:=by simp[fA]
theorem Nz: ∀(n:Nat)(bs:List UInt8),bs.length=n->fA bs<256 ^ n:=by
 intro n;induction n with
 |zero=>intro bs h;rw[aOo.mp h];decide
 |succ n ih=>
  intro bs h;have hne:bs≠[]:=λhh=>by rw[hh] at h;simp at h
  rw[<-List.dropLast_concat_getLast hne,Ya,Nat.pow_succ];have h1:=ih bs.dropLast (by simp[h])
  have h2:=(bs.getLast hne).toNat_lt;omega
theorem aJO (n c:Nat)(hc:c<256):n*256|||c=n*256+c:=by
 have:=Nat.shiftLeft_add_eq_or_of_lt (i:=8) (b:=c) hc n;rw[Nat.shiftLeft_eq] at this;exact this.symm
theorem aJP {u:Value}{bs:List UInt8}(hu:Bs H u bs)(h4:bs.length<=4): ∀(q i k:Nat),bs.length-i=q->i<=bs.length->q<k->
  ∀x0 x1 x2 x4 x5 x9 bK bM aR aN aM aP aZ bG aQ:Value,aI k (aK prog (lvl prog pkN m) (aI m) Mu) (Mw (lvl prog pkN m) (aI m)) [x0,x1,x2,(.int .u32 (fA (bs.take i))),x4,x5,u,(.int .i64 bs.length),(.int .i64 i),x9,bK,bM,aR,aN,aM,aP,aZ,bG,aQ] H=some (.int .u32 (fA bs),H):=by
 intro q;induction q with
 |zero=>
  intro i k hq hi hk x0 x1 x2 x4 x5 x9 bK bM aR aN aM aP aZ bG aQ;obtain⟨k,rfl⟩: ∃k',k=k'+1:=⟨k-1,by omega⟩
  have hi8:i=bs.length:=by omega
  subst hi8;have c1:decide ((bs.length:Int)<(bs.length:Int))=false:=by simp
  rw[aI,Xf];simp -implicitDefEqProofs only[gsR,c1];rw[aIK];simp -implicitDefEqProofs only[gsR,List.take_length]
 |succ q ih=>
  intro i k hq hi hk x0 x1 x2 x4 x5 x9 bK bM aR aN aM aP aZ bG aQ;obtain⟨k,rfl⟩: ∃k',k=k'+1:=⟨k-1,by omega⟩
  have c1:decide ((i:Int)<(bs.length:Int))=true:=by rw[decide_eq_true_eq];omega
  have hx:bs[i]? =some bs[i]:=aN8 (by omega)
  obtain⟨a,a1,a2⟩:=Bx hu hx .i64;have a2:=a2 H (Fr.nF _ _);have hb:=Nz i (bs.take i) (by simp;omega)
  have hb3:fA (bs.take i)<16777216:=aOl hb (Nat.pow_le_pow_right (n:=256) (i:=i) (j:=3) (by omega) (by omega))
  have hc:=bs[i].toNat_lt;have e1:bin prog .shl 29 (.int .u32 (fA (bs.take i):Int)) (.int .u64 8)=some (.int .u32 ((fA (bs.take i)*256:Nat):Int)):=by
   have:=yJ (P:=prog) .u32 .u64 rfl 29 (fA (bs.take i)) 8 (by decide)
   rw[show fA (bs.take i)*2 ^ 8%2 ^ IntKind.u32.bits=fA (bs.take i)*256 from by show fA (bs.take i)*256%4294967296=_;omega] at this
   exact this
  have e2:cS prog 5 29 (kZ bs[i]) H=some (.int .u32 (bs[i].toNat:Int),H):=by
   show cS prog 5 29 (.int .u8 bs[i].toNat) H=_
   rw[eZ _ _ u8U oJ,Nl _ (by omega)]
  have e3:bin prog .or 29 (.int .u32 ((fA (bs.take i)*256:Nat):Int)) (.int .u32 (bs[i].toNat:Int))=some (.int .u32 (fA (bs.take (i+1)):Int)):=by
   rw[Jo .u32 rfl _ (a:=fA (bs.take i)*256) (b:=bs[i].toNat) (by show _<4294967296;omega) (by show _<4294967296;omega),aJO _ _ hc,List.take_add_one,hx]
   rw[show(some bs[i]).toList=[bs[i]] from rfl,Ya]
  have e4:=aA (i:=i) (by omega)
  rw[aI,Xf];simp -implicitDefEqProofs only[gsR,c1,a1,a2,e1,e2,e3,cI,e4];exact ih (i+1) k (by omega) (by omega) (by omega) _ _ _ _ _ _ _ _ _ _ _ _ _ _ _
theorem N0 {u:Value}{bs:List UInt8}(hu:Bs H u bs)(h4:bs.length<=4)(hm:10<m):lvl prog pkN m (.func 194) [u] H=some (.int .u32 (fA bs),H):=by
 refine dA (cJ rfl) (by omega) ?_
 rw[aIL];simp -implicitDefEqProofs only[gsR,hu.kC];exact aJP hu h4 bs.length 0 (m-1) (by omega) (by omega) (by omega) _ _ _ _ _ _ _ _ _ _ _ _ _ _ _
def zfB:Blk:=frB Frm.oE
def nN (bs:List UInt8):Value:=match mQ bs with
 |some f=> .tuple #[frV f,.int .u16 0]
 |none=> .tuple #[frV Frm.oE,.int .u16 30]
theorem aJM:prog.cellsOf 5=1:=by kernel_rfl
theorem Fh {b:Nat}{f:Frm}(g:Frm)(hb:H[b]? =some (frB f)):stN 6 (.pointer (some ⟨b,0,none⟩)) (frV g) H=some (undef,H.set b (frB g)):=yU hb (by decide) rfl rfl (aOb 6) rfl
theorem y5 (a b:Bool):bin prog .neq 4 (.bool a) (.bool b)=some (.bool (a !=b)):=by
 cases a<;>cases b<;>rfl
theorem y6 {H G:aC}{b:Nat}(he:Ext H G)(hb:H.length<=b)(y:Blk):Ext H (G.set b y):=⟨by simp[he.1],λc hc _=>by rw[aN7 (by omega),he.2 c hc id]⟩
theorem X9 {G:aC}(he:Ext H G)(h0:G[H.length]? =some zfB)(h1:G[H.length+1]? =some zfB):ldN 6 (.pointer (some ⟨H.length+1,0,none⟩)) G=some (frV Frm.oE,G)/\
  stN 6 (.pointer (some ⟨H.length,0,none⟩)) (frV Frm.oE) G=some (undef,G.set H.length zfB)/\ldN 6 (.pointer (some ⟨H.length,0,none⟩)) (G.set H.length zfB)=some (frV Frm.oE,G.set H.length zfB)/\Ext H (G.set H.length zfB):=
 ⟨(mR h1).2.2.2.2.2.2,Fh Frm.oE h0,(mR (iT h0)).2.2.2.2.2.2,y6 he (aOb _) _⟩
theorem Yb (H:aC)(X:aC):(H++[zfB]++[zfB]++X)[H.length]? =some zfB/\(H++[zfB]++[zfB]++X)[H.length+1]? =some zfB:=by
 constructor
 ·simp
 ·rw[aOd,aOd,aOr (by omega)]
  simp
theorem aJN (hm:100<m){u:Value}{bs:List UInt8}(hu:Bs H u bs)(h6:bs.length≠6)(h12:bs.length≠12): ∃H',lvl prog pkN m (.func 116) [u] H=some (nN bs,H')/\Ext H H':=by
 refine k8 (cJ rfl) (by omega) ?_
 rw[W9];have hd:nN bs= .tuple #[frV Frm.oE,.int .u16 30]:=by
  unfold nN mQ;rw[if_neg (by omega),if_neg (by omega)]
 have e0:(Blk.cells [.int .u8 0,.int .u8 0,.int .u16 0,.int .u8 0,.int .u8 0,.int .u32 0] 71 .fix)=zfB:=rfl;have c1:((bs.length:Int)!=6)=true:=by simp;omega
 have c2:((bs.length:Int)!=12)=true:=by simp;omega
 have b2:=Yb H [];rw[List.append_nil] at b2;have x2:Ext H (H++[zfB]++[zfB]):=by rw[aOd];exact Fr.app _ _ _
 have hl2:(H++[zfB]).length=H.length+1:=by simp
 obtain⟨o1,o2,o3,o4⟩:=X9 x2 b2.1 b2.2;simp -implicitDefEqProofs only[gsR,e0,hl2,hu.kC,c1,c2,o1,o2,o3,hd]
 exact⟨_,rfl,o4⟩
end
section
variable {H : aC} {m : Nat}
theorem aJQ {bs:List UInt8}(h:bs.length=6∨bs.length=12):(bs.take 4).drop 2=[bs.getD 2 0,bs.getD 3 0]:=by
 rcases h with h|h
 ·match bs,h with
  |[a,b,c,d,e,f],_=>rfl
 ·match bs,h with
  |[a,b,c,d,e,f,g,h,i,j,k,l],_=>rfl
theorem aJR {bs:List UInt8}(h:bs.length=12):(bs.take 10).drop 6=[bs.getD 6 0,bs.getD 7 0,bs.getD 8 0,bs.getD 9 0]:=by
 match bs,h with
 |[a,b,c,d,e,f,g,h,i,j,k,l],_=>rfl
theorem Fi {bs:List UInt8}{i:Nat}(h:i<bs.length):bs[i]? =some (bs.getD i 0):=by
 rw[aOa,aN8 h];rfl
theorem aJS (a:Option Addr)(n c:Nat)(G:aC):chk (some (Value.slice a n c,G)) (.slice a n c)=true:=by simp[chk,veq]
theorem Fj (x:UInt8)(G:aC):chk (some (kZ x,G)) (kZ x)=true:=by simp[chk,veq,kZ]
theorem aJU (x:UInt8)(n:Nat)(z:Int)(hz:z=n):bin prog .eql 5 (kZ x) (.int .u8 z)=some (.bool (decide (x.toNat=n))):=by
 rw[kZ,b_eql,hz,pQ]
theorem aJV (a b:UInt8):fA [a,b]<65536:=by
 have:=a.toNat_lt;have:=b.toNat_lt;rw[Nt];omega
theorem bff:(false !=false)=false:=rfl
theorem btt:(true !=true)=false:=rfl
theorem Yd (hm:0<m){G:aC}{f:Frm}(he:Ext H G)(h0:G[H.length]? =some zfB)(h1:G[H.length+1]? =some (frB f)):
  ldN 6 (.pointer (some ⟨H.length+1,0,none⟩)) G=some (frV f,G)/\lvl prog pkN m (.func 172) [frV f] G=some (.bool (dO f),G++[frB f])/\
  ldN 6 (.pointer (some ⟨H.length+1,0,none⟩)) (G++[frB f])=some (frV f,G++[frB f])/\
  (∀g,stN 6 (.pointer (some ⟨H.length,0,none⟩)) (frV g) (G++[frB f])=some (undef,(G++[frB f]).set H.length (frB g))/\ldN 6 (.pointer (some ⟨H.length,0,none⟩)) ((G++[frB f]).set H.length (frB g))=some (frV g,(G++[frB f]).set H.length (frB g))/\Ext H ((G++[frB f]).set H.length (frB g))):=by
 have hx:Ext H (G++[frB f]):=he.tr (Fr.app _ _ _);have h0':(G++[frB f])[H.length]? =some (frB Frm.oE):=nK h0 _
 exact⟨(mR h1).2.2.2.2.2.2,X6 hm f,(mR (nK h1 _)).2.2.2.2.2.2,λg=>⟨Fh g h0',(mR (iT h0')).2.2.2.2.2.2,y6 hx (aOb _) _⟩⟩
theorem Yc (hm:200<m){u:Value}{bs:List UInt8}(hu:Bs H u bs)(hl:bs.length=6∨bs.length=12): ∃H',lvl prog pkN m (.func 116) [u] H=some (nN bs,H')/\Ext H H':=by
  have hne:bs≠[]:=λhh=>by rw[hh] at hl;simp at hl
  obtain⟨sb,so,cap,rfl,hcap,hs⟩:=hu.aJm wV aJM hne;refine k8 (cJ rfl) (by omega) ?_
  rw[W9];have e0:(Blk.cells [.int .u8 0,.int .u8 0,.int .u16 0,.int .u8 0,.int .u8 0,.int .u32 0] 71 .fix)=zfB:=rfl;have hl2:(H++[zfB]).length=H.length+1:=by simp
  have x2:Ext H (H++[zfB]++[zfB]):=by rw[aOd];exact Fr.app _ _ _
  have b2:=Yb H [];rw[List.append_nil] at b2;obtain⟨G2,hG2⟩: ∃G2,H++[zfB]++[zfB]=G2:=⟨_,rfl⟩;rw[hG2] at x2 b2;have w1:IntKind.i64.wrap ((bs.length:Int)-2)=((bs.length-2:Nat):Int):=by rw[dM (by omega) (by omega)];omega
  have f1: ∀G,Ext H G->slc prog 1 (.slice (some ⟨sb,so,none⟩) bs.length cap) none (some (.int .i64 ((bs.length-2:Nat):Int))) (some (.int .i64 ((bs.length-2:Nat):Int))) G=some (.slice (some ⟨sb,so+0*1,none⟩) (bs.length-2-0) (bs.length-2-0),G)/\Bs G (.slice (some ⟨sb,so+0*1,none⟩) (bs.length-2-0) (bs.length-2-0)) (bs.take (bs.length-2)):=λG he=>by
    have:=hs G (hu.ext he) 0 (bs.length-2) none _ _ (bs.length-2) rfl (nT _ .i64 _) (nT _ .i64 _) (by omega) (by omega) (by omega) (by omega)
    rw[List.drop_zero] at this;exact this
  have f2: ∀G,Ext H G->slc prog 1 (.slice (some ⟨sb,so,none⟩) bs.length cap) (some (.int .i64 ((bs.length-2:Nat):Int))) none none G=some (.slice (some ⟨sb,so+(bs.length-2)*1,none⟩) (bs.length-(bs.length-2)) (cap-(bs.length-2)),G)/\Bs G (.slice (some ⟨sb,so+(bs.length-2)*1,none⟩) (bs.length-(bs.length-2)) (cap-(bs.length-2))) (bs.drop (bs.length-2)):=λG he=>by
    have:=hs G (hu.ext he) (bs.length-2) bs.length _ none none cap (nT _ .i64 _) rfl rfl (by omega) (by omega) (by omega) (by omega)
    rw[List.take_length] at this;exact this
  have f3: ∀G,Ext H G->slc prog 1 (.slice (some ⟨sb,so,none⟩) bs.length cap) (some (.int .i64 2)) (some (.int .i64 4)) none G=some (.slice (some ⟨sb,so+2*1,none⟩) (4-2) (cap-2),G)/\Bs G (.slice (some ⟨sb,so+2*1,none⟩) (4-2) (cap-2)) [bs.getD 2 0,bs.getD 3 0]:=λG he=>by
    have:=hs G (hu.ext he) 2 4 (some (.int .i64 2)) (some (.int .i64 4)) none cap (nT _ .i64 2) (nT _ .i64 4) rfl (by omega) (by omega) (by omega) (by omega)
    rw[aJQ hl] at this;exact this
  have q1:=(f1 G2 x2).1;have s1:=Nv (H:=G2) (m:=m-1) (aJL (f1 G2 x2).2) (by omega) (by simp;omega) (by simp;omega)
  obtain⟨G3,hG3⟩: ∃G3,G2++[lZ (crc (bs.take (bs.length-2)))]=G3:=⟨_,rfl⟩;rw[hG3] at s1;have x3:Ext H G3:=by rw[<-hG3];exact x2.tr (Fr.app _ _ _)
  have b30:G3[H.length]? =some zfB:=by rw[<-hG3];exact nK b2.1 _
  have b31:G3[H.length+1]? =some zfB:=by rw[<-hG3];exact nK b2.2 _
  have q2:=(f2 G3 x3).1;have q2':=(f2 G2 x2).1;have s2:=N0 (H:=G3) (m:=m-1) (f2 G3 x3).2 (by simp;omega) (by omega)
  have cv1:IntKind.u32.wrap (crc (bs.take (bs.length-2)):Int)=(crc (bs.take (bs.length-2)):Int):=Nl _ (by have:=wS (bs.take (bs.length-2));omega)
  obtain⟨o1,o2,o3,o4⟩:=X9 x3 b30 b31;have ck2:chk (some (Value.slice (some ⟨sb,so+(bs.length-2)*1,none⟩) (bs.length-(bs.length-2)) (cap-(bs.length-2)),G2)) (.slice (some ⟨sb,so+(bs.length-2)*1,none⟩) (bs.length-(bs.length-2)) (cap-(bs.length-2)))=true:=aJS _ _ _ _;have c1: ∀z:Bool,((bs.length:Int)!=6)=z->z=decide (bs.length≠6):=λz hz=>by rw[<-hz];exact yX bs.length 6
  have nn6:((bs.length:Int)!=6)=decide (bs.length≠6):=yX bs.length 6;have nn12:((bs.length:Int)!=12)=decide (bs.length≠12):=yX bs.length 12;have ne12:((bs.length:Int)==12)=decide (bs.length=12):=pQ bs.length 12;have hlen:bX (Value.slice (some ⟨sb,so,none⟩) bs.length cap)=some (.int .i64 bs.length):=rfl;have ncr:((crc (bs.take (bs.length-2)):Int)!=(fA (bs.drop (bs.length-2)):Int))=decide (crc (bs.take (bs.length-2))≠fA (bs.drop (bs.length-2))):=yX _ _;obtain⟨a0,i0,l0⟩:=Bx hu (Fi (bs:=bs) (i:=0) (by omega)) .i64
  obtain⟨a1,i1,l1⟩:=Bx hu (Fi (bs:=bs) (i:=1) (by omega)) .i64
  have i0':bH 1 (.slice (some ⟨sb,so,none⟩) bs.length cap) (.int .i64 0)=some a0:=i0;have i1':bH 1 (.slice (some ⟨sb,so,none⟩) bs.length cap) (.int .i64 1)=some a1:=i1;have k0:=aJU (bs.getD 0 0) 1 1 rfl;have hdn:crc (bs.take (bs.length-2))≠fA (bs.drop (bs.length-2))∨decide ((bs.getD 0 0).toNat=1)≠decide (bs.length=12)->nN bs= .tuple #[frV Frm.oE,.int .u16 30]:=λhh=>by
    have:mQ bs=none:=by
      unfold mQ u9;rcases hl with h6|h12
      · by_cases hk:(bs.getD 0 0).toNat=1
        · rw[if_neg (by omega),if_neg (by omega)]
        · rw[if_pos ⟨h6,hk⟩,if_neg]
          rintro ⟨h1,_⟩
          rcases hh with hh|hh
          · rw[h6] at hh
            exact hh h1
          · rw[aOR hk,aOR (show¬bs.length=12 by omega)] at hh
            exact hh rfl
      · by_cases hk:(bs.getD 0 0).toNat=1
        · rw[if_neg (by omega),if_pos ⟨h12,hk⟩,if_neg]
          rintro ⟨h1,_⟩
          rcases hh with hh|hh
          · rw[h12] at hh
            exact hh h1
          · rw[aOQ hk,aOQ h12] at hh
            exact hh rfl
        · rw[if_neg (by omega),if_neg (by omega)]
    unfold nN;rw[this]
  -- up to the second test
  by_cases hc:crc (bs.take (bs.length-2))=fA (bs.drop (bs.length-2))
  rotate_left
  · have hd:=hdn (.inl hc)
    rcases hl with h6|h12
    · have d6:decide (bs.length≠6)=false:=by simp[h6]
      simp -implicitDefEqProofs only[gsR,e0,hl2,hG2,hlen,nn6,d6,iF,w1,q1,s1,eZ _ _ lS oJ,cv1,q2,q2',ck2,s2,ncr,aOQ hc,o1,o2,o3,hd]
      exact⟨_,rfl,o4⟩
    · have d6:decide (bs.length≠6)=true:=by simp[h12]
      have d12:decide (bs.length≠12)=false:=by simp[h12]
      simp -implicitDefEqProofs only[gsR,e0,hl2,hG2,hlen,nn6,nn12,d6,d12,iF,w1,q1,s1,eZ _ _ lS oJ,cv1,q2,q2',ck2,s2,ncr,aOQ hc,o1,o2,o3,hd]
      exact⟨_,rfl,o4⟩
  have nz:decide (crc (bs.take (bs.length-2))≠fA (bs.drop (bs.length-2)))=false:=by simp[hc]
  have l0':=l0 G3 x3;have l1':=l1 G3 x3;by_cases hk:decide ((bs.getD 0 0).toNat=1)=decide (bs.length=12)
  rotate_left
  · have hd:=hdn (.inr hk)
    have hkb:(decide ((bs.getD 0 0).toNat=1)!=decide (bs.length=12))=true:=by simpa using hk
    rcases hl with h6|h12
    · have d6:decide (bs.length≠6)=false:=by simp[h6]
      simp -implicitDefEqProofs only[gsR,e0,hl2,hG2,hlen,nn6,d6,iF,w1,q1,s1,eZ _ _ lS oJ,cv1,q2,q2',ck2,s2,ncr,nz,i0',l0',k0,ne12,y5,hkb,o1,o2,o3,hd]
      exact⟨_,rfl,o4⟩
    · have d6:decide (bs.length≠6)=true:=by simp[h12]
      have d12:decide (bs.length≠12)=false:=by simp[h12]
      simp -implicitDefEqProofs only[gsR,e0,hl2,hG2,hlen,nn6,nn12,d6,d12,iF,w1,q1,s1,eZ _ _ lS oJ,cv1,q2,q2',ck2,s2,ncr,nz,i0',l0',k0,ne12,y5,hkb,o1,o2,o3,hd]
      exact⟨_,rfl,o4⟩
  have hkb:(decide ((bs.getD 0 0).toNat=1)!=decide (bs.length=12))=false:=by simpa using hk
  have q3:=(f3 G3 x3).1;have s3:=N0 (H:=G3) (m:=m-1) (f3 G3 x3).2 (by simp) (by omega)
  have w3:IntKind.u16.wrap (fA [bs.getD 2 0,bs.getD 3 0]:Int)=(fA [bs.getD 2 0,bs.getD 3 0]:Int):=A2 (by omega) (by have:=aJV (bs.getD 2 0) (bs.getD 3 0);omega)
  have bF:bld prog 71 [(0,kZ (bs.getD 0 0)),(1,kZ (bs.getD 1 0)),(2,.int .u16 (fA [bs.getD 2 0,bs.getD 3 0]))]=some (frV (iZ bs)):=rfl;have bZ:bld prog 71 []=some (frV Frm.oE):=rfl;have st1:=Fh (iZ bs) b31;obtain⟨G4,hG4⟩: ∃G4,G3.set (H.length+1) (frB (iZ bs))=G4:=⟨_,rfl⟩;rw[hG4] at st1;have x4:Ext H G4:=by rw[<-hG4];exact y6 x3 (by omega) _
  have b40:G4[H.length]? =some zfB:=by rw[<-hG4,aN7 (by omega)];exact b30
  have b41:G4[H.length+1]? =some (frB (iZ bs)):=by rw[<-hG4];exact iT b31
  rcases hl with h6|h12
  · have d6:decide (bs.length≠6)=false:=by simp[h6]
    have d12:decide (bs.length=12)=false:=by simp[h6]
    have hk1: ¬(bs.getD 0 0).toNat=1:=by rw[d12] at hk;simpa using hk
    have hdec:mQ bs=if dO (iZ bs)=true then some (iZ bs) else none:=by
      unfold mQ u9;rw[if_pos ⟨h6,hk1⟩];rw[h6] at hc;by_cases hs:dO (iZ bs)=true
      · rw[if_pos ⟨hc,hs⟩,if_pos hs]
      · rw[if_neg λh=>hs h.2,if_neg hs]
    obtain⟨t1,t2,t3,t4⟩:=Yd (m:=m-1) (by omega) x4 b40 b41
    by_cases hs:dO (iZ bs)=true
    · obtain⟨u1,u2,u3⟩:=t4 (iZ bs)
      have hd:nN bs= .tuple #[frV (iZ bs),.int .u16 0]:=by unfold nN;rw[hdec,if_pos hs]
      rw[hs] at t2;simp -implicitDefEqProofs only[gsR,e0,hl2,hG2,hlen,nn6,d6,iF,w1,q1,s1,eZ _ _ lS oJ,eZ _ _ oJ lS,cv1,q2,q2',ck2,s2,ncr,nz,i0',l0',i1',l1',k0,ne12,y5,aOR hk1,bff,q3,s3,Fj,w3,bF,st1,d12,t1,t2,t3,u1,u2,hd]
      exact⟨_,rfl,u3⟩
    · obtain⟨u1,u2,u3⟩:=t4 Frm.oE
      have hs':dO (iZ bs)=false:=by simpa using hs
      have hd:nN bs= .tuple #[frV Frm.oE,.int .u16 30]:=by unfold nN;rw[hdec,if_neg hs]
      rw[hs'] at t2;simp -implicitDefEqProofs only[gsR,e0,hl2,hG2,hlen,nn6,d6,iF,w1,q1,s1,eZ _ _ lS oJ,eZ _ _ oJ lS,cv1,q2,q2',ck2,s2,ncr,nz,i0',l0',i1',l1',k0,ne12,y5,aOR hk1,bff,q3,s3,Fj,w3,bF,st1,d12,t1,t2,bZ,u1,u2,hd]
      exact⟨_,rfl,u3⟩
  · have d6:decide (bs.length≠6)=true:=by simp[h12]
    have d12':decide (bs.length≠12)=false:=by simp[h12]
    have d12:decide (bs.length=12)=true:=by simp[h12]
    have hk1:(bs.getD 0 0).toNat=1:=by rw[d12] at hk;simpa using hk
    have hdec:mQ bs=if dO (nB bs)=true then some (nB bs) else none:=by
      unfold mQ u9;rw[if_neg (by omega),if_pos ⟨h12,hk1⟩]
      rw[h12] at hc;by_cases hs:dO (nB bs)=true
      · rw[if_pos ⟨hc,hs⟩,if_pos hs]
      · rw[if_neg λh=>hs h.2,if_neg hs]
    obtain⟨a4,i4,l4⟩:=Bx hu (Fi (bs:=bs) (i:=4) (by omega)) .i64
    obtain⟨a5,i5,l5⟩:=Bx hu (Fi (bs:=bs) (i:=5) (by omega)) .i64
    have i4':bH 1 (.slice (some ⟨sb,so,none⟩) bs.length cap) (.int .i64 4)=some a4:=i4;have i5':bH 1 (.slice (some ⟨sb,so,none⟩) bs.length cap) (.int .i64 5)=some a5:=i5;have f4:slc prog 1 (.slice (some ⟨sb,so,none⟩) bs.length cap) (some (.int .i64 6)) (some (.int .i64 10)) none G4=some (.slice (some ⟨sb,so+6*1,none⟩) (10-6) (cap-6),G4)/\Bs G4 (.slice (some ⟨sb,so+6*1,none⟩) (10-6) (cap-6)) [bs.getD 6 0,bs.getD 7 0,bs.getD 8 0,bs.getD 9 0]:=by
      have:=hs G4 (hu.ext x4) 6 10 (some (.int .i64 6)) (some (.int .i64 10)) none cap (nT _ .i64 6) (nT _ .i64 10) rfl (by omega) (by omega) (by omega) (by omega)
      rw[aJR h12] at this;exact this
    have q4:=f4.1;have s4:=N0 (H:=G4) (m:=m-1) f4.2 (by simp) (by omega)
    have st3:stN 1 (.pointer (some ⟨H.length+1,3,none⟩)) (kZ (bs.getD 4 0)) G4=some (undef,G4.set (H.length+1) (frB {iZ bs with src:=(bs.getD 4 0).toNat})):=lQ b41 (by decide) (by simp[frC])
    obtain⟨G5,hG5⟩: ∃G5,G4.set (H.length+1) (frB {iZ bs with src:=(bs.getD 4 0).toNat})=G5:=⟨_,rfl⟩;rw[hG5] at st3;have x5:Ext H G5:=by rw[<-hG5];exact y6 x4 (by omega) _
    have b50:G5[H.length]? =some zfB:=by rw[<-hG5,aN7 (by omega)];exact b40
    have b51:G5[H.length+1]? =some (frB {iZ bs with src:=(bs.getD 4 0).toNat}):=by rw[<-hG5];exact iT b41
    have st4:stN 1 (.pointer (some ⟨H.length+1,4,none⟩)) (kZ (bs.getD 5 0)) G5=some (undef,G5.set (H.length+1) (frB {iZ bs with src:=(bs.getD 4 0).toNat,dst:=(bs.getD 5 0).toNat})):=lQ b51 (by decide) (by simp[frC])
    obtain⟨G6,hG6⟩: ∃G6,G5.set (H.length+1) (frB {iZ bs with src:=(bs.getD 4 0).toNat,dst:=(bs.getD 5 0).toNat})=G6:=⟨_,rfl⟩;rw[hG6] at st4;have x6:Ext H G6:=by rw[<-hG6];exact y6 x5 (by omega) _
    have b60:G6[H.length]? =some zfB:=by rw[<-hG6,aN7 (by omega)];exact b50
    have b61:G6[H.length+1]? =some (frB {iZ bs with src:=(bs.getD 4 0).toNat,dst:=(bs.getD 5 0).toNat}):=by rw[<-hG6];exact iT b51
    have st5:stN 1 (.pointer (some ⟨H.length+1,5,none⟩)) (.int .u32 (fA [bs.getD 6 0,bs.getD 7 0,bs.getD 8 0,bs.getD 9 0]:Int)) G6=some (undef,G6.set (H.length+1) (frB (nB bs))):=lQ b61 (by decide) (by simp[frC])
    obtain⟨G7,hG7⟩: ∃G7,G6.set (H.length+1) (frB (nB bs))=G7:=⟨_,rfl⟩;rw[hG7] at st5;have x7:Ext H G7:=by rw[<-hG7];exact y6 x6 (by omega) _
    have b70:G7[H.length]? =some zfB:=by rw[<-hG7,aN7 (by omega)];exact b60
    have b71:G7[H.length+1]? =some (frB (nB bs)):=by rw[<-hG7];exact iT b61
    have l44:=l4 G4 x4;have l54:=l5 G4 x4;have l55:=l5 G5 x5;obtain⟨t1,t2,t3,t4⟩:=Yd (m:=m-1) (by omega) x7 b70 b71
    by_cases hs:dO (nB bs)=true
    · obtain⟨u1,u2,u3⟩:=t4 (nB bs)
      have hd:nN bs= .tuple #[frV (nB bs),.int .u16 0]:=by unfold nN;rw[hdec,if_pos hs]
      rw[hs] at t2;simp -implicitDefEqProofs only[gsR,e0,hl2,hG2,hlen,nn6,nn12,d6,d12',iF,w1,q1,s1,eZ _ _ lS oJ,eZ _ _ oJ lS,cv1,q2,q2',ck2,s2,ncr,nz,i0',l0',i1',l1',k0,ne12,y5,aOQ hk1,btt,q3,s3,Fj,w3,bF,st1,d12,i4',i5',l44,l54,l55,q4,s4,st3,st4,st5,t1,t2,t3,u1,u2,hd]
      exact⟨_,rfl,u3⟩
    · obtain⟨u1,u2,u3⟩:=t4 Frm.oE
      have hs':dO (nB bs)=false:=by simpa using hs
      have hd:nN bs= .tuple #[frV Frm.oE,.int .u16 30]:=by unfold nN;rw[hdec,if_neg hs]
      rw[hs'] at t2;simp -implicitDefEqProofs only[gsR,e0,hl2,hG2,hlen,nn6,nn12,d6,d12',iF,w1,q1,s1,eZ _ _ lS oJ,eZ _ _ oJ lS,cv1,q2,q2',ck2,s2,ncr,nz,i0',l0',i1',l1',k0,ne12,y5,aOQ hk1,btt,q3,s3,Fj,w3,bF,st1,d12,i4',i5',l44,l54,l55,q4,s4,st3,st4,st5,t1,t2,bZ,u1,u2,hd]
      exact⟨_,rfl,u3⟩
theorem aJT (hm:200<m){u:Value}{bs:List UInt8}(hu:Bs H u bs): ∃H',lvl prog pkN m (.func 116) [u] H=some (nN bs,H')/\Ext H H':=by
 by_cases h6:bs.length=6
 ·exact Yc hm hu (.inl h6)
 ·by_cases h12:bs.length=12
  ·exact Yc hm hu (.inr h12)
  ·exact aJN (by omega) hu h6 h12
end
end Go.Proofs.YtmimdleeihjdoaaGreatDoor
namespace Go.Abs
def Rq {α:Type}(el:α->List Value)(e:TypeId)(sz:Nat)(H:aC)(v:Value)(xs:List α):Prop:=
 (v= .slice none 0 0/\xs=[])∨ ∃c pre rest cap,v= .slice (some ⟨c,pre.length,none⟩) xs.length cap/\xs.length<=cap/\rest.length=(cap-xs.length)*sz/\H[c]? =some (.cells (pre++(xs.map el).flatten++rest) e .row)
section
variable {α : Type} {el : α → List Value} {e : TypeId} {sz : Nat} {H H' : aC} {v w : Value} {xs ys : List α}
theorem Rq.Ye:Rq el e sz H (.slice none 0 0) ([]:List α):= .inl ⟨rfl,rfl⟩
theorem Rq.N3 (h:Rq el e sz H v xs):bX v=some (.int .i64 xs.length):=by
 rcases h with⟨rfl,rfl⟩|⟨c,pre,rest,cap,rfl,_⟩<;>rfl
theorem Rq.blk (h:Rq el e sz H v xs){b:Nat}(hb:cK v b): ∃cs,H[b]? =some (.cells cs e .row):=by
 rcases h with⟨rfl,rfl⟩|⟨c,pre,rest,cap,rfl,_,_,h3⟩
 ·obtain⟨_,_,_,hh⟩:=hb
  cases hh
 ·obtain⟨_,_,_,hh⟩:=hb
  cases hh
  exact⟨_,h3⟩
theorem Rq.vF (h:Rq el e sz H v xs){b:Nat}(hb:cK v b):b<H.length:=by
 obtain⟨cs,hc⟩:=h.blk hb;exact dC hc
theorem Rq.wX (h:Rq el e sz H v xs)(hk: ∀b,cK v b->H'[b]? =H[b]?):Rq el e sz H' v xs:=by
 rcases h with h|⟨c,pre,rest,cap,rfl,h1,h2,h3⟩
 ·exact .inl h
 ·exact .inr ⟨c,pre,rest,cap,rfl,h1,h2,by rw[hk c ⟨_,_,_,rfl⟩,h3]⟩
theorem Rq.ext (h:Rq el e sz H v xs)(he:Ext H H'):Rq el e sz H' v xs:=h.wX λb hb=>he.2 b (h.vF hb) id
theorem Rq.rs (h:Rq el e sz H v xs):Rs el e H v xs:=by
 rcases h with h|⟨c,pre,rest,cap,rfl,h1,h2,h3⟩
 ·exact .inl h
 ·exact .inr ⟨c,_,cap,rfl,h1,λ_=>⟨e,.row,pre,rest,rfl,λ_=>rfl,h3⟩⟩
theorem Rq.y7 (h:Rq el e sz H v xs):v.cells.toList=[v]/\dR [v]=true:=by
 rcases h with⟨rfl,rfl⟩|⟨c,pre,rest,cap,rfl,_⟩<;>exact⟨rfl,rfl⟩
theorem Rq.aJW {P:Program}{x:α}(hsz: ∀x,(el x).length=sz)(he:P.cellsOf e=sz)(h:Rq el e sz H v (x::xs)): ∃v',(∀H',Rq el e sz H' v (x::xs)->slc P sz v (some (.int .i64 1)) none none H'=some (v',H'))/\Rq el e sz H v' xs/\ ∀b,cK v' b->cK v b:=by
 rcases h with⟨_,h⟩|⟨c,pre,rest,cap,rfl,h1,h2,h3⟩
 ·cases h
 ·simp only[aOt] at h1 h2
  refine⟨.slice (some ⟨c,pre.length+1*sz,none⟩) ((x::xs).length-1) (cap-1),λH' h'=> ?_,.inr ⟨c,pre++el x,rest,cap-1,by simp[hsz],by omega,by rw[h2];congr 1;omega,by rw[h3];simp⟩,?_⟩
  ·rcases h' with⟨_,h⟩|⟨c',pre',rest',cap',heq,_,_,h3'⟩
   ·cases h
   ·injection heq with a1 a2 a3
    injection a1 with a1;injection a1 with b1 b2;subst b1 a3;rw[b2];exact tK (P:=P) (H:=H') (sz:=sz) (o:=pre'.length) h3' (λ_=>he) (len:=(x::xs).length) (cap:=cap) (hi:=none) (mx:=none) (nT 0 .i64 1) rfl rfl (by simp) (by simpa using h1) (aOb _)
  ·rintro b ⟨o,n,k,hh⟩
   cases hh
   exact⟨_,_,_,rfl⟩
theorem Rq.Yf (hsz: ∀x,(el x).length=sz)(hall: ∀x,dR (el x)=true)(h0:0<sz){by':Nat}(h:Rq el e sz H v xs)(x:α)(hr:jQ (xs.length+1) by'=true):
  ∃v' H',Go.Abs.app e sz by' v (.slice (some ⟨H.length,0,none⟩) 1 1) (H++[.cells (el x) e .row])=some (v',H')/\Rq el e sz H' v' (xs++[x])/\Fr (cK v) H H'/\ ∀b,cK v' b->cK v b∨(H.length<=b/\b<H'.length):=by
 have hw:Rr el e (H++[.cells (el x) e .row]) (.slice (some ⟨H.length,0,none⟩) 1 1) [x]:=wG (el:=el) x H;have hs:jV sz (.slice (some ⟨H.length,0,none⟩) 1 1) 1 (H++[.cells (el x) e .row])=some (el x):=by
  have:=hw.Te hsz;simpa using this
 have hl:mK (.slice (some ⟨H.length,0,none⟩) 1 1)=some 1:=rfl;have hne:el x≠[]:=λhh=>by have:=hsz x;rw[hh] at this;simp at this;omega
 have hle:(H++[Blk.cells (el x) e .row]).length=H.length+1:=by simp
 unfold Go.Abs.app;rw[hl];simp only;rw[hs];simp only;rcases h with⟨rfl,rfl⟩|⟨c,pre,rest,cap,rfl,h1,h2,h3⟩
 ·simp only
  rw[if_neg (by decide),if_pos (show jQ 1 by'=true from hr)]
  refine⟨_,_,rfl,.inr ⟨_,[],[],1,rfl,by simp,by simp,by rw[dK];simp⟩,⟨by simp,λb hb _=>by rw[aOd,aN9 hb]⟩,?_⟩
  rintro b ⟨o,n,k,hh⟩
  cases hh;exact .inr ⟨by simp,by simp⟩
 ·have hc:=dC h3
  have hg:(H++[Blk.cells (el x) e .row])[c]? =some (.cells (pre++(xs.map el).flatten++rest) e .row):=nK h3 _;have hf:=sJ (xs.map el) (tJ hsz);rw[aOk] at hf;simp only;rw[hg];simp only;by_cases hroom:xs.length+1<=cap
  ·rw[if_pos hroom,if_neg hne]
   have hrl:sz<=rest.length:=by
    rw[h2]
    calc sz=1*sz:=(Nat.one_mul sz).symm
     _<=(cap-xs.length)*sz:=Nat.mul_le_mul_right sz (by omega)
   rw[if_pos ⟨by decide,by simp only[aOi,hf];omega,hall x⟩]
   have hset:eH (pre++(xs.map el).flatten++rest) (pre.length+xs.length*sz) (el x)=pre++((xs++[x]).map el).flatten++rest.drop sz:=by
    have:=uQ (el x) (rest.take sz) (pre++(xs.map el).flatten) (rest.drop sz) (by rw[List.length_take,hsz];omega)
    rw[aOd _ (rest.take sz),List.take_append_drop,aOi,hf] at this;rw[this];simp
   rw[hset];refine⟨_,_,rfl,.inr ⟨c,pre,rest.drop sz,cap,by simp,by simpa using hroom,?_,iT hg⟩,⟨by simp,λb hb hh=> ?_⟩,?_⟩
   ·rw[List.length_drop,h2,aOi,List.length_singleton,show cap-xs.length=(cap-(xs.length+1))+1 by omega,Nat.succ_mul]
    omega
   ·rw[aN7 (λhx=>hh (by subst hx;exact⟨_,_,_,rfl⟩)),aN9 hb]
   ·rintro b ⟨o,n,k,hh⟩
    cases hh;exact .inl ⟨_,_,_,rfl⟩
  ·rw[if_neg hroom,if_pos ⟨trivial,trivial,by simp only[aOi,hf];omega,hr,hall x⟩]
   have hcut:((pre++(xs.map el).flatten++rest).drop pre.length).take (xs.length*sz)=(xs.map el).flatten:=by
    rw[aOd,List.drop_left,<-hf,List.take_left]
   rw[hcut];have hlen:((H++[Blk.cells (el x) e .row]).set c .dead).length=H.length+1:=by simp
   refine⟨_,_,rfl,.inr ⟨H.length+1,[],[],xs.length+1,by simp,by simp,by simp,by rw[<-hlen,dK];simp⟩,⟨by simp;omega,λb hb hh=> ?_⟩,?_⟩
   ·rw[aN9 (by rw[hlen];omega),aN7 (λhx=>hh (by subst hx;exact⟨_,_,_,rfl⟩)),aN9 hb]
   ·rintro b ⟨o,n,k,hh⟩
    cases hh;exact .inr ⟨by simp,by simp⟩
end
end Go.Abs
namespace Go.Proofs.YtmimdleeihjdoaaGreatDoor
open Go.Proofs.Tryz
open Go.Abs
theorem Fl (n sz b o:Nat)(k:IntKind)(i:Nat)(h1:i<n):qI n sz (.pointer (some ⟨b,o,none⟩)) (.int k (i:Int))=some (.pointer (some ⟨b,o+i*sz,none⟩)):=by
 simp[qI,adr,h1]
abbrev Pq (H:aC)(v:Value)(xs:List Pkt):Prop:=Rq Pkt.oW 31 4 H v xs
theorem y8 (x:Pkt):x.oW.length=4:=rfl
theorem N5 (x:Pkt):dR x.oW=true:=rfl
def Bz (w0 w1 w2 cv:Value)(lanes queue:Nat):Blk:= .cells [w0,w1,w2,cv,.int .i64 lanes,.int .i64 queue] 178 .fix
def w3 (w0 w1 w2:Value)(k:Nat):Value:=if k=0 then w0 else if k=1 then w1 else w2
structure HostI (D:aC)(a:Nat)(L G:List Pkt)(lanes queue:Nat)(w0 w1 w2 cv:Value):Prop where
 blk:D[a]? =some (Bz w0 w1 w2 cv lanes queue)
 lanes:1<=lanes/\lanes<=3
 queue:1<=queue/\queue<=8
 q: ∀k,k<3->Pq D (w3 w0 w1 w2 k) (fP L k)
 came:Pq D cv G
 apart: ∀k j,k<3->j<3->k≠j-> ∀b,cK (w3 w0 w1 w2 k) b-> ¬cK (w3 w0 w1 w2 j) b
 apartC: ∀k,k<3-> ∀b,cK (w3 w0 w1 w2 k) b-> ¬cK cv b
def HostAt (D:aC)(a:Nat)(L G:List Pkt)(lanes queue:Nat):Prop:= ∃w0 w1 w2 cv,HostI D a L G lanes queue w0 w1 w2 cv
section
variable {D : aC} {m a lanes queue : Nat} {L G : List Pkt} {w0 w1 w2 cv : Value}
theorem HostAt.ext {D':aC}(h:HostAt D a L G lanes queue)(he:Ext D D'):HostAt D' a L G lanes queue:=by
 obtain⟨w0,w1,w2,cv,h⟩:=h
 exact⟨w0,w1,w2,cv,by rw[he.2 a (dC h.blk) id,h.blk],h.lanes,h.queue,λk hk=>(h.q k hk).ext he,h.came.ext he,h.apart,h.apartC⟩
theorem Fk (h:HostI D a L G lanes queue w0 w1 w2 cv)(hm:0<m)(k:Int):lvl prog pkN m (.func 95) [.pointer (some ⟨a,0,none⟩),.int .i64 k] D=some (.bool (decide (0<=k/\k<lanes)),D):=by
 refine dA (cJ rfl) hm ?_;rw[aJe];have l4:ld1 (.pointer (some ⟨a,4,none⟩)) D=some (.int .i64 lanes,D):=cT h.blk rfl;by_cases h0:0<=k
 ·by_cases h1:k<lanes
  ·simp -implicitDefEqProofs only[gsR,aOQ h0,l4,aOQ h1,aOQ (show 0<=k/\k<lanes from⟨h0,h1⟩)]
  ·simp -implicitDefEqProofs only[gsR,aOQ h0,l4,aOR h1,aOR (show¬(0<=k/\k<lanes) from λh=>h1 h.2)]
 ·simp -implicitDefEqProofs only[gsR,aOR h0,aOR (show¬(0<=k/\k<lanes) from λh=>h0 h.1)]
theorem B0 (h:HostI D a L G lanes queue w0 w1 w2 cv){k:Nat}(hk:k<3):ld1 (.pointer (some ⟨a,k,none⟩)) D=some (w3 w0 w1 w2 k,D):=by
 match k,hk with
 |0,_=>exact cT h.blk rfl
 |1,_=>exact cT h.blk rfl
 |2,_=>exact cT h.blk rfl
theorem N4 (h:HostI D a L G lanes queue w0 w1 w2 cv)(hm:1<m)(k:Nat)(hk:k<lanes):lvl prog pkN m (.func 40) [.pointer (some ⟨a,0,none⟩),.int .i64 k] D=some (.int .i64 (fP L k).length,D):=by
 have h3:k<3:=aOl hk h.lanes.2;refine dA (cJ rfl) (by omega) ?_
 rw[aI2];have e1:=Fk h (m:=m-1) (by omega) (k:Int)
 have c:decide (0<=(k:Int)/\(k:Int)<lanes)=true:=by rw[decide_eq_true_eq];omega
 have e2:=Fl 3 1 a 0 .i64 k h3;rw[Nat.mul_one,aOs] at e2;simp -implicitDefEqProofs only[gsR,e1,c,e2,B0 h h3,(h.q k h3).N3]
theorem aJX (hm:0<m)(lanes queue:Nat)(h1:1<=lanes/\lanes<=3)(h2:1<=queue/\queue<=8): ∃a H',lvl prog pkN m (.func 86) [.int .i64 lanes,.int .i64 queue] D=some (.pointer (some ⟨a,0,none⟩),H')/\HostAt H' a [] [] lanes queue/\Ext D H'/\D.length<=a:=by
 have main:lvl prog pkN m (.func 86) [.int .i64 lanes,.int .i64 queue] D=some (.pointer (some ⟨D.length,0,none⟩),D++[Bz (.slice none 0 0) (.slice none 0 0) (.slice none 0 0) (.slice none 0 0) lanes queue]):=by
  refine dA (cJ rfl) hm ?_;rw[aI9];have c1:decide ((lanes:Int)<1)=false:=by rw[decide_eq_false_iff_not];omega
  have c2:decide (3<(lanes:Int))=false:=by rw[decide_eq_false_iff_not];omega
  have c3:decide ((queue:Int)<1)=false:=by rw[decide_eq_false_iff_not];omega
  have c4:decide (8<(queue:Int))=false:=by rw[decide_eq_false_iff_not];omega
  have e3:bld prog 178 [(2,.int .i64 lanes),(3,.int .i64 queue)]=some (.agg #[.slice none 0 0,.slice none 0 0,.slice none 0 0,.slice none 0 0,.int .i64 lanes,.int .i64 queue]):=rfl;simp -implicitDefEqProofs only[gsR,c1,c2,c3,c4,e3];rfl
 have hn: ∀k b,¬cK (w3 (.slice none 0 0) (.slice none 0 0) (.slice none 0 0) k) b:=λk b hh=>by
  have:w3 (.slice none 0 0) (.slice none 0 0) (.slice none 0 0) k= .slice none 0 0:=by unfold w3;split<;>(try split)<;>rfl
  rw[this] at hh;obtain⟨_,_,_,hh⟩:=hh;cases hh
 refine⟨_,_,main,⟨_,_,_,_,dK _ _,h1,h2,λk hk=> ?_,Rq.Ye,λk j _ _ _ b hb=>absurd hb (hn k b),λk _ b hb=>absurd hb (hn k b)⟩,Fr.app _ _ _,aOb _⟩
 have:w3 (.slice none 0 0) (.slice none 0 0) (.slice none 0 0) k= .slice none 0 0:=by unfold w3;split<;>(try split)<;>rfl
 rw[this];exact Rq.Ye
end
def dS (x:Pkt):Blk:= .cells x.oW 31 .fix
theorem aJ1 (w0 w1 w2:Value){k:Nat}(hk:k<3)(v:Value): ∃u0 u1 u2,(∀a b c:Value,([w0,w1,w2,a,b,c]:List Value).set k v=[u0,u1,u2,a,b,c])/\ ∀j,j<3->w3 u0 u1 u2 j=if j=k then v else w3 w0 w1 w2 j:=by
 match k,hk with
 |0,_=>exact⟨v,w1,w2,λ_ _ _=>rfl,λj hj=>by match j,hj with|0,_=>rfl|1,_=>rfl|2,_=>rfl⟩
 |1,_=>exact⟨w0,v,w2,λ_ _ _=>rfl,λj hj=>by match j,hj with|0,_=>rfl|1,_=>rfl|2,_=>rfl⟩
 |2,_=>exact⟨w0,w1,v,λ_ _ _=>rfl,λj hj=>by match j,hj with|0,_=>rfl|1,_=>rfl|2,_=>rfl⟩
theorem Yh (L:List Pkt)(x:Pkt)(k:Int):fP (L++[x]) k=if x.lane=k then fP L k++[x] else fP L k:=by
 unfold fP;rw[List.filter_append];by_cases h:x.lane=k<;>simp[h]
section
variable {D : aC} {m a lanes queue : Nat} {L G : List Pkt} {w0 w1 w2 cv : Value}
theorem HostI.Yg {D':aC}(h:HostI D a L G lanes queue w0 w1 w2 cv){k:Nat}(hk:k<3){v:Value}{L':List Pkt}(hf:Fr (cK (w3 w0 w1 w2 k)) D D')(hv:Pq D' v (fP L' k))(hn: ∀b,cK v b->cK (w3 w0 w1 w2 k) b∨(D.length<=b/\b<D'.length))
  (hL: ∀j:Nat,j<3->j≠k->fP L' j=fP L j):HostAt (D'.set a (.cells (([w0,w1,w2,cv,.int .i64 lanes,.int .i64 queue]:List Value).set k v) 178 .fix)) a L' G lanes queue:=by
 obtain⟨u0,u1,u2,e1,e2⟩:=aJ1 w0 w1 w2 hk v;have hna: ∀w,(∃xs:List Pkt,Pq D w xs)-> ¬cK w a:=λw ⟨xs,hw⟩ hh=>by
  obtain⟨cs,hc⟩:=hw.blk hh;rw[h.blk] at hc;cases hc
 have ha:D'[a]? =D[a]? :=hf.2 a (dC h.blk) (hna _ ⟨_,h.q k hk⟩);have hva: ¬cK v a:=λhh=>by
  obtain⟨cs,hc⟩:=hv.blk hh;rw[ha,h.blk] at hc;cases hc
 have hlt:a<D'.length:=aOl (dC h.blk) hf.1;rw[e1];have out: ∀w (xs:List Pkt),Pq D w xs->(∀b,cK w b-> ¬cK (w3 w0 w1 w2 k) b)->Pq (D'.set a (.cells [u0,u1,u2,cv,.int .i64 lanes,.int .i64 queue] 178 .fix)) w xs:=λw xs hw hd=>hw.wX λb hb=>by
  rw[aN7 (λhx=>by subst hx;exact hna w ⟨xs,hw⟩ hb),hf.2 b (hw.vF hb) (hd b hb)]
 refine⟨u0,u1,u2,cv,aOc hlt,h.lanes,h.queue,λj hj=> ?_,out cv G h.came λb hb hh=>h.apartC k hk b hh hb,λi j hi hj hij b hb hb'=> ?_,λi hi b hb hb'=> ?_⟩
 ·rw[e2 j hj]
  by_cases hjk:j=k
  ·subst hjk
   rw[if_pos rfl];exact hv.wX λb hb=>aN7 (λhx=>hva (by subst hx;exact hb))
  ·rw[if_neg hjk,hL j hj hjk]
   exact out _ _ (h.q j hj) (h.apart j k hj hk hjk)
 ·rw[e2 i hi] at hb
  rw[e2 j hj] at hb';by_cases hik:i=k
  ·rw[if_pos hik] at hb
   rw[if_neg (λhh=>hij (hik.trans hh.symm))] at hb'
   rcases hn b hb with h1|h1
   ·exact h.apart k j hk hj (λhh=>hij (hik.trans hh)) b h1 hb'
   ·have:=(h.q j hj).vF hb'
    omega
  ·rw[if_neg hik] at hb
   by_cases hjk:j=k
   ·rw[if_pos hjk] at hb'
    rcases hn b hb' with h1|h1
    ·exact h.apart i k hi hk hik b hb h1
    ·have:=(h.q i hi).vF hb
     omega
   ·rw[if_neg hjk] at hb'
    exact h.apart i j hi hj hij b hb hb'
 ·rw[e2 i hi] at hb
  by_cases hik:i=k
  ·rw[if_pos hik] at hb
   rcases hn b hb with h1|h1
   ·exact h.apartC k hk b h1 hb'
   ·have:=h.came.vF hb'
    omega
  ·rw[if_neg hik] at hb
   exact h.apartC i hi b hb hb'
theorem pR {H:aC}{b:Nat}{x:Pkt}(hb:H[b]? =some (dS x)):ld1 (.pointer (some ⟨b,2,none⟩)) H=some (.int .i64 x.lane,H)/\ldN 4 (.pointer (some ⟨b,0,none⟩)) H=some (x.dG,H):=⟨cT hb rfl,yT hb (aOb 4)⟩
theorem aJZ (h:HostI D a L G lanes queue w0 w1 w2 cv)(hm:2<m)(x:Pkt)(hx: ¬(0<=x.lane/\x.lane<lanes)):lvl prog pkN m (.func 94) [.pointer (some ⟨a,0,none⟩),x.dG] D=some (.int .u16 1,D++[dS x]):=by
 refine dA (cJ rfl) (by omega) ?_
 rw[M9];have e0:(Blk.cells (Value.cells x.dG).toList 31 .fix)=dS x:=rfl;obtain⟨l2,l4⟩:=pR (dK D (dS x));obtain⟨u0,u1,u2,cu,h'⟩:HostAt (D++[dS x]) a L G lanes queue:=HostAt.ext ⟨w0,w1,w2,cv,h⟩ (Fr.app _ _ _);have e1:=Fk h' (m:=m-1) (by omega) x.lane
 simp -implicitDefEqProofs only[gsR,e0,l2,e1,aOR hx]
theorem aJY (h:HostI D a L G lanes queue w0 w1 w2 cv)(hm:2<m)(x:Pkt)(hx:0<=x.lane/\x.lane<lanes)(hq:(fP L x.lane).length=queue):lvl prog pkN m (.func 94) [.pointer (some ⟨a,0,none⟩),x.dG] D=some (.int .u16 150,D++[dS x]):=by
 refine dA (cJ rfl) (by omega) ?_
 rw[M9];have e0:(Blk.cells (Value.cells x.dG).toList 31 .fix)=dS x:=rfl;obtain⟨l2,l4⟩:=pR (dK D (dS x));obtain⟨u0,u1,u2,cu,h'⟩:HostAt (D++[dS x]) a L G lanes queue:=HostAt.ext ⟨w0,w1,w2,cv,h⟩ (Fr.app _ _ _);have e1:=Fk h' (m:=m-1) (by omega) x.lane
 obtain⟨k,hk⟩: ∃k:Nat,x.lane=k:=⟨x.lane.toNat,by omega⟩
 have h3:k<3:=by have:=h.lanes.2;omega
 have e2:=Fl 3 1 a 0 .i64 k h3;rw[Nat.mul_one,aOs,<-hk] at e2;have e3:=(h'.q k h3).N3;rw[<-hk,hq] at e3;have l5:ld1 (.pointer (some ⟨a,5,none⟩)) (D++[dS x])=some (.int .i64 queue,D++[dS x]):=cT h'.blk rfl;have c:((queue:Int)==(queue:Int))=true:=by simp
 simp -implicitDefEqProofs only[gsR,e0,l2,e1,aOQ hx,e2,B0 h' h3,e3,l5,c]
theorem aJ0 (h:HostI D a L G lanes queue w0 w1 w2 cv)(hm:2<m)(x:Pkt)(hx:0<=x.lane/\x.lane<lanes)(hq:(fP L x.lane).length≠queue)(hr:jQ ((fP L x.lane).length+1) 32=true): ∃H',lvl prog pkN m (.func 94) [.pointer (some ⟨a,0,none⟩),x.dG] D=some (.int .u16 0,H')/\HostAt H' a (L++[x]) G lanes queue:=by
 refine k8 (cJ rfl) (by omega) ?_
 rw[M9];have e0:(Blk.cells (Value.cells x.dG).toList 31 .fix)=dS x:=rfl;obtain⟨l2,l4⟩:=pR (dK D (dS x));have hb1:=dK D (dS x);obtain⟨u0,u1,u2,cu,h'⟩:HostAt (D++[dS x]) a L G lanes queue:=HostAt.ext ⟨w0,w1,w2,cv,h⟩ (Fr.app _ _ _);have e1:=Fk h' (m:=m-1) (by omega) x.lane
 obtain⟨k,hk⟩: ∃k:Nat,x.lane=k:=⟨x.lane.toNat,by omega⟩
 have h3:k<3:=by have:=h.lanes.2;omega
 have e2:=Fl 3 1 a 0 .i64 k h3;rw[Nat.mul_one,aOs,<-hk] at e2;have e3:=(h'.q k h3).N3;have l5:ld1 (.pointer (some ⟨a,5,none⟩)) (D++[dS x])=some (.int .i64 queue,D++[dS x]):=cT h'.blk rfl;have c:(((fP L (k:Int)).length:Int)==(queue:Int))=false:=by rw[<-hk];simp;omega
 obtain⟨D1,hD1⟩: ∃D1,D++[dS x]=D1:=⟨_,rfl⟩;rw[hD1] at l2 l4 h' e1 l5 hb1;have eb:dJ 31 4 1 [.int .i64 0,.int .i64 0,.int .i64 0,.int .u32 0] [(0,x.dG)] D1=some (.slice (some ⟨D1.length,0,none⟩) 1 1,D1++[.cells x.oW 31 .row]):=rfl;obtain⟨v',H',g1,g2,g3,g4⟩:=(h'.q k h3).Yf y8 N5 (by decide) (by':=32) x (by rw[<-hk];exact hr)
 have hnp: ¬cK (w3 u0 u1 u2 k) D.length:=λhh=>by
  obtain⟨cs,hc⟩:=(h'.q k h3).blk hh;rw[hb1] at hc;cases hc
 have hb2:H'[D.length]? =some (dS x):=by rw[g3.2 _ (dC hb1) hnp,hb1]
 have l2':=(pR hb2).1;have hna: ¬cK (w3 u0 u1 u2 k) a:=λhh=>by
  obtain⟨cs,hc⟩:=(h'.q k h3).blk hh;rw[h'.blk] at hc;cases hc
 have ha':H'[a]? =some (Bz u0 u1 u2 cu lanes queue):=by rw[g3.2 _ (dC h'.blk) hna,h'.blk]
 have st:stN 1 (.pointer (some ⟨a,k,none⟩)) v' H'=some (undef,H'.set a (.cells (([u0,u1,u2,cu,.int .i64 lanes,.int .i64 queue]:List Value).set k v') 178 .fix)):=sY ha' (by decide) (by simp;omega) g2.y7.1 g2.y7.2
 have ck:chk (some (Value.int .i64 x.lane,H')) (.int .i64 x.lane)=true:=by simp[chk,veq]
 simp -implicitDefEqProofs only[gsR,e0,hD1,l2,e1,aOQ hx,e2,B0 h' h3,e3,l5,c,l4,eb,g1,l2',ck,st];refine⟨_,rfl,h'.Yg h3 g3 ?_ g4 λj hj hjk=> ?_⟩
 ·rw[Yh,if_pos hk]
  exact g2
 ·rw[Yh,if_neg (by omega)]
end
section
variable {D : aC} {m a lanes queue : Nat} {L G : List Pkt} {w0 w1 w2 cv : Value}
theorem aJ2 (h:HostI D a L G lanes queue w0 w1 w2 cv)(hm:0<m)(x:Pkt)(hr:jQ (G.length+1) 32=true): ∃H',lvl prog pkN m (.func 187) [.pointer (some ⟨a,0,none⟩),x.dG] D=some (aJ [],H')/\HostAt H' a L (G++[x]) lanes queue:=by
 refine k8 (cJ rfl) (by omega) ?_
 rw[aII];have e0:(Blk.cells (Value.cells x.dG).toList 31 .fix)=dS x:=rfl;obtain⟨l2,l4⟩:=pR (dK D (dS x));obtain⟨u0,u1,u2,cu,h'⟩:HostAt (D++[dS x]) a L G lanes queue:=HostAt.ext ⟨w0,w1,w2,cv,h⟩ (Fr.app _ _ _);obtain⟨D1,hD1⟩: ∃D1,D++[dS x]=D1:=⟨_,rfl⟩;rw[hD1] at l2 l4 h';have l3:ld1 (.pointer (some ⟨a,3,none⟩)) D1=some (cu,D1):=cT h'.blk rfl;have eb:dJ 31 4 1 [.int .i64 0,.int .i64 0,.int .i64 0,.int .u32 0] [(0,x.dG)] D1=some (.slice (some ⟨D1.length,0,none⟩) 1 1,D1++[.cells x.oW 31 .row]):=rfl;obtain⟨v',H',g1,g2,g3,g4⟩:=h'.came.Yf y8 N5 (by decide) (by':=32) x hr
 have hna: ¬cK cu a:=λhh=>by
  obtain⟨cs,hc⟩:=h'.came.blk hh;rw[h'.blk] at hc;cases hc
 have ha':H'[a]? =some (Bz u0 u1 u2 cu lanes queue):=by rw[g3.2 _ (dC h'.blk) hna,h'.blk]
 have st:stN 1 (.pointer (some ⟨a,3,none⟩)) v' H'=some (undef,H'.set a (Bz u0 u1 u2 v' lanes queue)):=sY ha' (by decide) (by simp) g2.y7.1 g2.y7.2
 have hva: ¬cK v' a:=λhh=>by
  obtain⟨cs,hc⟩:=g2.blk hh;rw[ha'] at hc;cases hc
 simp -implicitDefEqProofs only[gsR,e0,hD1,l3,l4,eb,g1,st];refine⟨_,rfl,u0,u1,u2,v',iT ha',h'.lanes,h'.queue,λj hj=>(h'.q j hj).wX λb hb=> ?_,g2.wX λb hb=>aN7 (λhx=>hva (by subst hx;exact hb)),h'.apart,λi hi b hb hb'=> ?_⟩
 ·have hab:a≠b:=λhx=>by
   subst hx;obtain⟨cs,hc⟩:=(h'.q j hj).blk hb;rw[h'.blk] at hc;cases hc
  rw[aN7 hab,g3.2 b ((h'.q j hj).vF hb) (h'.apartC j hj b hb)]
 ·rcases g4 b hb' with h1|h1
  ·exact h'.apartC i hi b hb h1
  ·have:=(h'.q i hi).vF hb
   omega
end
end Go.Proofs.YtmimdleeihjdoaaGreatDoor
namespace Go.Abs
structure PkN (c:Cfg)(x:Pkt):Prop where
 src:0<=x.src/\x.src<c.nodes
 dst:0<=x.dst/\x.dst<c.nodes
 lane:0<=x.lane/\x.lane<c.lanes
 body:0<=x.body/\x.body<4294967296
structure SndI (t:Nat)(x:Snd):Prop where
 le:x.s<=x.l
 wide:x.l<=x.s+8
 big:x.s<=65536+t
structure RcvI (room t:Nat)(x:Rcv):Prop where
 h:x.h<=room
 big:x.n<=65536+9*t
structure WhlI (lanes:Nat)(x:Whl):Prop where
 len:x.l.length=lanes
 wt: ∀y∈x.l,0<=y/\y<=5
 fr:x.fr<lanes
structure NInv (c:Cfg)(t:Nat)(s:NS):Prop where
 snd: ∀i k,SndI t (s.snd i k)
 rcv: ∀i k,RcvI c.room t (s.rcv i k)
 hG:s.hG.length<=t
 ticks:s.ticks<=t
 hL: ∀x∈s.hL,PkN c x
 hQ: ∀k:Int,(fP s.hL k).length<=c.queue
 rL: ∀e∈s.rL,PkN c e.2
 rN:s.rL.length<=c.aH*c.lanes*c.room
 gl:s.g.length=c.aH
 al:s.a.length=c.aH
 g: ∀x∈s.g,x<c.aH
 a: ∀x∈s.a,x<c.aH
 whl: ∀i,WhlI c.lanes (s.whl i)
theorem SndI.N8 {t t':Nat}{x:Snd}(h:SndI t x)(ht:t<=t'):SndI t' x:=⟨h.le,h.wide,aOm h.big (by omega)⟩
theorem RcvI.N7 {room t t':Nat}{x:Rcv}(h:RcvI room t x)(ht:t<=t'):RcvI room t' x:=⟨h.h,aOm h.big (by omega)⟩
theorem NInv.rT {c:Cfg}{t t':Nat}{s:NS}(h:NInv c t s)(ht:t<=t'):NInv c t' s:=
 {h with snd:=λi k=>(h.snd i k).N8 ht,rcv:=λi k=>(h.rcv i k).N7 ht,hG:=aOm h.hG ht,ticks:=aOm h.ticks ht}
theorem SndI.aKb {t:Nat}{x:Snd}(h:SndI t x)(limit:Nat):SndI t (x.qD limit):=by
 unfold Snd.qD;simp only;split
 ·exact h
 ·have:=h.le
  have:=h.big
  exact⟨by simp only;omega,by simp only;omega,h.big⟩
theorem SndI.aKc {t:Nat}{x:Snd}(h:SndI t x):SndI (t+1) x.oF.2:=by
 unfold Snd.oF;split
 ·exact h.N8 (by omega)
 ·have:=h.le
  have:=h.wide;have:=h.big
  exact⟨by simp only;omega,by simp only;omega,by simp only;omega⟩
theorem RcvI.aKa {room t:Nat}{x:Rcv}(h:RcvI room t x)(hr:room<=8)(s:Nat):RcvI room (t+1) (x.pO room s):=by
 have h1:=h.h;have h2:=h.big;unfold Rcv.pO;simp only;split
 ·exact h.N7 (by omega)
 ·rename_i hc
  unfold Rcv.lY at hc
  exact⟨h.h,by simp only;omega⟩
theorem aKf (room:Nat)(x:Rcv)(s:Nat):(x.kQ room s).2=x∨ ∃w,x.n<=w/\w<x.lY room/\(x.kQ room s).2=⟨w+1,x.h+1⟩:=by
 unfold Rcv.kQ
 generalize dT x.n s=w
 by_cases c1:w<x.n
 ·left
  simp only[if_pos c1]
 ·by_cases c2:x.lY room<=w
  ·left
   simp only[if_neg c1,if_pos c2]
  ·right
   refine⟨w,Nat.le_of_not_lt c1,Nat.lt_of_not_le c2,?_⟩;simp only[if_neg c1,if_neg c2]
theorem aKe {n h room t w:Nat}(h1:h<=room)(h2:n<=65536+9*t)(hr:room<=8)(h3:n<=w)(h4:w<n+(room-h)):h+1<=room/\w+1<=65536+9*(t+1):=by
 generalize 65536=z at*
 omega
theorem RcvI.Yk {room t:Nat}{x:Rcv}(h:RcvI room t x)(hr:room<=8)(s:Nat):RcvI room (t+1) (x.kQ room s).2:=by
 rcases aKf room x s with h0|⟨w,h3,h4,h0⟩
 ·rw[h0]
  exact h.N7 (Nat.le_succ t)
 ·rw[h0]
  obtain⟨e1,e2⟩:=aKe h.h h.big hr h3 h4
  exact⟨e1,e2⟩
theorem RcvI.aJ9 {room t:Nat}{x:Rcv}(h:RcvI room t x):RcvI room t x.tT:=⟨by have:=h.h;unfold Rcv.tT;simp only;omega,h.big⟩
theorem y9 {α:Type}{P:α->Prop}{f:Nat->Nat->α}{i k:Nat}{x:α}(h: ∀i k,P (f i k))(hx:P x)(j l:Nat):P (up2 f i k x j l):=by
 unfold up2;split
 ·exact hx
 ·exact h j l
theorem aKj {α:Type}{P:α->Prop}{f:Nat->α}{i:Nat}{x:α}(h: ∀i,P (f i))(hx:P x)(j:Nat):P (up1 f i x j):=by
 unfold up1;split
 ·exact hx
 ·exact h j
theorem aKm (L:List Pkt)(x:Pkt)(k:Int):fP (L++[x]) k=if x.lane=k then fP L k++[x] else fP L k:=by
 unfold fP;rw[List.filter_append];by_cases h:x.lane=k<;>simp[h]
theorem Yl {L:List Pkt}{k:Int}{x:Pkt}(h:x∈q8 L k):x∈L:=List.mem_of_mem_eraseP h
theorem Fm (L:List Pkt)(k j:Int):fP (q8 L k) j=if j=k then(fP L k).tail else fP L j:=by
 induction L with
 |nil=>simp[fP,q8]
 |cons x L ih=>
  unfold fP q8 at*;by_cases hx:x.lane=k
  ·subst hx
   rw[List.eraseP_cons_of_pos (by simp)]
   by_cases hj:j=x.lane
   ·rw[if_pos hj,hj]
    simp
   ·rw[if_neg hj,List.filter_cons_of_neg (by simp;omega)]
  ·rw[List.eraseP_cons_of_neg (by simp[hx])]
   by_cases hj:j=k
   ·subst hj
    rw[if_pos rfl,List.filter_cons_of_neg (by simp[hx]),List.filter_cons_of_neg (by simp[hx]),ih,if_pos rfl]
   ·rw[if_neg hj] at ih⊢
    rw[List.filter_cons,List.filter_cons,ih]
theorem aKh {L:List (hZ×Pkt)}{w:hZ}{e:hZ×Pkt}(h:e∈oY L w):e∈L:=List.mem_of_mem_eraseP h
theorem aKg (L:List (hZ×Pkt))(w:hZ):(oY L w).length<=L.length:=(List.eraseP_sublist).length_le
theorem Yn {c:Cfg}{L:List (hZ×Pkt)}{w:hZ}{x:Pkt}{e:hZ×Pkt}(h:e∈s9 c L w x):e∈L∨e.2=x:=by
 unfold s9 at h
 split at h
 ·rcases List.mem_append.mp h with h|h
  ·exact .inl h
  ·simp at h
   exact .inr (by rw[h])
 ·exact .inl h
theorem Ym {c:Cfg}{L:List (hZ×Pkt)}{w:hZ}{x:Pkt}(h:L.length<=c.aH*c.lanes*c.room):(s9 c L w x).length<=c.aH*c.lanes*c.room:=by
 unfold s9;split
 ·rename_i hc
  simp;omega
 ·exact h
theorem aKi {L:List (hZ×Pkt)}{w:hZ}{x:Pkt}(h:x∈pC L w): ∃e∈L,e.2=x/\e.1=w:=by
 unfold pC at h;obtain⟨e,h1,h2⟩:=aOK.mp h;obtain⟨h3,h4⟩:=List.mem_filter.mp h1
 exact⟨e,h3,h2,by simpa using h4⟩
section
variable {c : Cfg} {t : Nat} {s : NS}
theorem NInv.aJ7 (hc:c.ok):NInv c 0 (NS.iW c) where
 snd:=λi k=>⟨by simp[NS.iW],by have:=hc.room;simp[NS.iW];omega,by have:=hc.start;simp[NS.iW];omega⟩
 rcv:=λi k=>⟨by simp[NS.iW],by have:=hc.start;simp[NS.iW];omega⟩
 hG:=aOb _
 ticks:=aOb _
 hL:=λx hx=>by simp[NS.iW] at hx
 hQ:=λk=>by simp[NS.iW,fP]
 rL:=λx hx=>by simp[NS.iW] at hx
 rN:=by simp[NS.iW]
 gl:=by simp[NS.iW]
 al:=by simp[NS.iW]
 g:=λx hx=>by
  simp[NS.iW] at hx;unfold Cfg.aH;omega
 a:=λx hx=>by
  simp[NS.iW] at hx;unfold Cfg.aH;omega
 whl:=λi=>⟨hc.wlen,λy hy=>by have:=hc.wts y hy;omega,by have:=hc.lanes;simp[NS.iW];omega⟩
theorem NInv.aJ8 (h:NInv c t s){x:Pkt}(hx:0<=x.lane/\x.lane<c.lanes->PkN c x):NInv c t (qF c x s).2:=by
 unfold Go.Abs.qF;split
 ·exact h
 ·rename_i hl
  split
  ·exact h
  ·rename_i hq
   have hl':0<=x.lane/\x.lane<c.lanes:=by omega
   refine {h with hL:=λy hy=> ?_,hQ:=λk=> ?_}
   ·rcases List.mem_append.mp hy with hy|hy
    ·exact h.hL y hy
    ·simp at hy
     rw[hy];exact hx hl'
   ·rw[aKm]
    split
    ·rename_i he
     subst he;have:=h.hQ x.lane;simp;omega
    ·exact h.hQ k
theorem NInv.aJ6 (hc:c.ok)(h:NInv c t s){x:Pkt}(hb:0<=x.body/\x.body<4294967296):NInv c t (nW c x s).2:=by
 unfold Go.Abs.nW;split
 ·exact h
 ·rename_i hn
  refine h.aJ8 λhl=>⟨?_,?_,hl,hb⟩
  ·have:=hc.me
   omega
  ·omega
theorem NInv.aJ4 (hc:c.ok)(h:NInv c t s)(i:Nat)(f:Frm)(hl:f.lane<c.lanes)(hb:f.body<4294967296):NInv c (t+1) (qZ c i f s).2:=by
 unfold qZ;split
 ·exact h.rT (by omega)
 ·rename_i hm
  have hm2:=h.rT (t':=t+1) (by omega)
  have hr:=(h.rcv i f.lane).Yk hc.room.2 f.seq;split
  ·rename_i r he
   rw[he] at hr;refine {hm2 with rcv:=y9 hm2.rcv hr,rL:=λe he=> ?_,rN:=Ym h.rN}
   rcases Yn he with he|he
   ·exact h.rL e he
   ·rw[he]
    exact⟨⟨by simp only;omega,by simp only;omega⟩,⟨by simp only;omega,by simp only;omega⟩,⟨by simp only;omega,by simp only;omega⟩,⟨by simp only;omega,by simp only;omega⟩⟩
  ·exact hm2
theorem NInv.aJ5 (hc:c.ok)(h:NInv c t s)(k:Nat):NInv c t (oI c s k):=by
 unfold Go.Abs.oI;split
 ·exact h
 ·split
  ·exact h
  ·rename_i x xs hx
   have hxm:x∈s.hL:=by
    have:x∈fP s.hL k:=by rw[hx];exact aOf ..
    exact(List.mem_filter.mp this).1
   refine {h with hL:=λy hy=>h.hL y (Yl hy),hQ:=λj=> ?_,rL:=λe he=> ?_,rN:=Ym h.rN}
   ·rw[Fm]
    split
    ·have:=h.hQ k
     simp;omega
    ·exact h.hQ j
   ·rcases Yn he with he|he
    ·exact h.rL e he
    ·rw[he]
     exact h.hL x hxm
theorem aKl (hc:c.ok){w:Whl}(hw:WhlI c.lanes w)(may:Nat->Bool):WhlI c.lanes (k9 c.weights w may).2:=by
 unfold k9;split
 ·rename_i ha
  split
  ·rename_i i hi
   have hfull:(lO c.weights w may).length=c.lanes/\ ∀y∈lO c.weights w may,0<=y/\y<=5:=by
    unfold lO;split
    ·exact⟨hw.len,hw.wt⟩
    ·exact⟨hc.wlen,λy hy=>by have:=hc.wts y hy;omega⟩
   have hp:=uS hi;unfold mZ at hp;rw[aOe,decide_eq_true_eq] at hp;refine⟨by simp[hfull.1],λy hy=> ?_,?_⟩
   ·rcases List.mem_or_eq_of_mem_set hy with hy|hy
    ·exact hfull.2 y hy
    ·have hi2:i<(lO c.weights w may).length:=by rw[hfull.1,<-hc.wlen];exact hp.1
     have:=hfull.2 _ (List.getElem_mem hi2);have e:(lO c.weights w may).getD i 0=(lO c.weights w may)[i]:=by rw[aOa,aN8 hi2,aOA]
     rw[e] at hp hy;omega
   ·simp only
    rw[hc.wlen];exact Nat.mod_lt _ (by have:=hc.lanes;omega)
  ·exact hw
 ·exact hw
theorem aKk {c:Cfg}{w:Whl}{may:Nat->Bool}{k:Nat}{w':Whl}(h:k9 c.weights w may=(some k,w')):k<c.weights.length/\may k=true:=by
 unfold k9 at h
 split at h
 ·split at h
  ·rename_i i hi
   cases h;have:=uS hi;unfold mZ at this;rw[aOe] at this
   exact⟨this.1,this.2.1⟩
  ·cases h
 ·cases h
theorem aKd {gr:Nat->Option Nat}{n:Nat}{first:Bool}{s:Mat}(i:Nat)(hn:0<n)(hm: ∀x∈s.m,x= -1∨0<=x/\x<(n:Int))(hg: ∀x∈s.g,x<n)(ha: ∀x∈s.a,x<n):
  (∀x∈(acc gr n first s i).m,x= -1∨0<=x/\x<(n:Int))/\(∀x∈(acc gr n first s i).g,x<n)/\(∀x∈(acc gr n first s i).a,x<n):=by
 unfold acc;split
 ·split
  ·exact⟨hm,hg,ha⟩
  ·rename_i k hk
   have:=(uS hk).1;refine⟨λx hx=> ?_,λx hx=> ?_,λx hx=> ?_⟩
   ·rcases List.mem_or_eq_of_mem_set hx with hx|hx
    ·exact hm x hx
    ·right
     omega
   ·dsimp only at hx
    split at hx
    ·rcases List.mem_or_eq_of_mem_set hx with hx|hx
     ·exact hg x hx
     ·rw[hx]
      exact Nat.mod_lt _ hn
    ·exact hg x hx
   ·dsimp only at hx
    split at hx
    ·rcases List.mem_or_eq_of_mem_set hx with hx|hx
     ·exact ha x hx
     ·rw[hx]
      exact Nat.mod_lt _ hn
    ·exact ha x hx
 ·exact⟨hm,hg,ha⟩
structure MatI (n:Nat)(s:Mat):Prop where
 ml:s.m.length=n
 gl:s.g.length=n
 al:s.a.length=n
 m: ∀x∈s.m,x= -1∨0<=x/\x<(n:Int)
 g: ∀x∈s.g,x<n
 a: ∀x∈s.a,x<n
theorem MatI.acc {gr:Nat->Option Nat}{n:Nat}{first:Bool}{s:Mat}(h:MatI n s)(hn:0<n)(i:Nat):MatI n (acc gr n first s i):=by
 obtain⟨h1,h2,h3⟩:=aEk gr n first s i
 obtain⟨h4,h5,h6⟩:=aKd (gr:=gr) (first:=first) i hn h.m h.g h.a
 exact⟨h1.trans h.ml,h2.trans h.gl,h3.trans h.al,h4,h5,h6⟩
theorem MatI.N6 {gr:Nat->Option Nat}{n:Nat}{first:Bool}(hn:0<n): ∀(l:List Nat){s:Mat},MatI n s->MatI n (l.foldl (Go.Abs.acc gr n first) s)
 |[],_,h=>h
 |i::l,_,h=>by
  rw[List.foldl_cons];exact MatI.N6 hn l (h.acc hn i)
theorem MatI.rnd {req:Nat->Nat->Bool}{n:Nat}{first:Bool}{s:Mat}(h:MatI n s)(hn:0<n):MatI n (rnd req n first s):=MatI.N6 hn _ h
theorem MatI.Yi {req:Nat->Nat->Bool}{n:Nat}(hn:0<n): ∀(k:Nat){s:Mat},MatI n s->MatI n (wM req n k s)
 |0,_,h=>h
 |k+1,_,h=>MatI.Yi hn k (h.rnd hn)
theorem MatI.Yj {n:Nat}{g a:List Nat}(hg:g.length=n)(ha:a.length=n)(h1: ∀x∈g,x<n)(h2: ∀x∈a,x<n):MatI n ⟨List.replicate n (-1),g,a⟩:=
 ⟨by simp,hg,ha,λx hx=>by simp at hx;exact .inl hx.2,h1,h2⟩
theorem MatI.aJ3 {req:Nat->Nat->Bool}{n rounds:Nat}{g a:List Nat}(hn:0<n)(hg:g.length=n)(ha:a.length=n)(h1: ∀x∈g,x<n)(h2: ∀x∈a,x<n):MatI n (rQ req n rounds g a):=
 MatI.Yi hn _ ((MatI.Yj hg ha h1 h2).rnd hn)
end
end Go.Abs
