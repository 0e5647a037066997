/-
  PARTS OF THIS CLAIM'S PROOF, laid together by a program of mine.
-/
import Derived.Test.YtkeilicinggjmaaGreatDoorAbsM4
import Derived.Test.YtkeilicinggjmaaGreatDoorAbsM3
import Derived.Test.YtkeilicinggjmaaGreatDoorAbsM2
import Derived.Test.YtkeilicinggjmaaGreatDoorAbsM1
import Derived.Calls
import Derived.LoopN
import Derived.Orders
import Derived.Laws.Sem
import Derived.Laws.Tables
import Derived.Laws.Cells
import Derived.Laws.StructEq
import Derived.Laws.Append
import Derived.Laws.MakeOwn
import Derived.Laws.Slices
import Derived.Lib.UnsafeStr
import Derived.Laws.BytesString
import Derived.Laws.BytesArg
import Derived.Laws.Pointers
import Derived.Lib.SliceRun
import Derived.Laws.Cover3
import Derived.MapKept
import Derived.WideKeyRuns
import Derived.Scope
import Derived.Test.YtkeilicinggjmaaGreatDoorProg
import Derived.KernelRfl
import Derived.ProofKit
import Derived.RowKit
import Derived.RowKit3
import Derived.ChangeSame
import Derived.Sort.Grow
import Derived.Ground.NamesProg
import Derived.Shelf.Sort.Plain
import Derived.Shelf.Slices.In.SortNone
import Derived.OpenShut
import Derived.Deep.Slices
import Derived.SizedLaws
set_option linter.unusedVariables false
set_option linter.unusedSimpArgs false
set_option linter.unusedSectionVars false
set_option maxRecDepth 100000
namespace Go.Proofs.YtkeilicinggjmaaGreatDoor
open Go.Proofs.Tryz
open Go.Abs
def ofL (c:List Nat)(n:Nat):List Int:=(List.range n).map λj=>((c.getD j 0%(j+1):Nat):Int)
def ofT (c:List Nat):List Int:=if min c.length 5=0 then [0] else ofL c (min c.length 5)
def jO (t:List Int):Bool:=(List.range t.length).all (λi=>decide (0<=t.getD i 0)&&decide (t.getD i 0<=i))&&decide ((t.length:Int)<=5)
def upL (t:List Int):Nat->Int->List Int
 |0,v=>[v]
 |q+1,v=>if 0<v then v::upL t q (t.getD (v-1).toNat 0) else [v]
def upT (t:List Int)(v:Int):List Int:=upL t v.toNat v
def B4:Nat->List Int->List Int->List Int×List Int
 |0,a,b=>(a,b)
 |q+1,a,b=>if 1<a.length/\1<b.length/\a.getD (a.length-2) 0=b.getD (b.length-2) 0 then B4 q (a.take (a.length-1)) (b.take (b.length-1)) else(a,b)
def Fo (s:List Int×List Int):List Int:=s.1++(s.2.take (s.2.length-1)).reverse
def oY (t:List Int)(v w:Int):List Int:=if jO t=true/\0<=v/\v<=t.length/\0<=w/\w<=t.length then Fo (B4 (upT t v).length (upT t v) (upT t w)) else []
def uY (t:List Int):List Ed:=(List.range t.length).map λi=>(t.getD i 0,((i+1:Nat):Int))
def nS (t:List Int):List (List Int):=tab (t.length+1) λv w=>if v=w then(v:Int) else(oY t v w).getD 1 0
def qK (p:PlanD)(t:List Int):PlanD:={p with nodes:=((t.length+1:Nat):Int),edges:=uY t,next:=nS t}
theorem Xz {t:List Int}(h:jO t=true){i:Nat}{x:Int}(hx:t[i]? =some x):0<=x/\x<=i/\t.length<=5:=by
 unfold jO at h;rw[aO2,aPz] at h;have:=h.1 i (aPy.mpr (aOU.mp hx).1);rw[aOY,hx] at this;simp at this;have h2:=of_decide_eq_true h.2;omega
theorem Mi (t:List Int): ∀(q:Nat)(v:Int),0<(upL t q v).length/\(upL t q v).length<=q+1
 |0,v=>by simp[upL]
 |q+1,v=>by
  unfold upL;split
  ·have:=Mi t q (t.getD (v-1).toNat 0)
   simp only[aPg];omega
  ·simp
section
variable {H : aC} {m : Nat} {p : PlanD} {ev wv nv : Value}
theorem wJ {l:List Int}{i:Nat}{x:Int}(h:l[i]? =some x):l.getD i 0=x:=by rw[aOY,h];rfl
theorem aIq {H0:aC}{cv:Value}{c:List Nat}(hc:Us H0 cv c)(hu8: ∀x∈c,x<256)(hl:c.length<=72057594037927936): ∀(q i k:Nat)(H1:aC)(acc:Value),min c.length 5-i=q->i<=min c.length 5->q<k->Ext H0 H1->Iw H1 acc (ofL c i)->New H0 acc-> ∀(x1 x2 x5 x6 x7 x8 x9 bK bN bC aO aP aM aS bI aN bG bJ bL bH bE aT aU aV aW aX aY aZ bA bB:Value),
  ∃H' u,aI k (aK prog (lvl prog cF m) (aI m) Lq) (Ls (lvl prog cF m) (aI m)) [cv,x1,x2,acc,(.int .i64 (i:Nat)),x5,x6,x7,x8,x9,bK,bN,bC,aO,aP,aM,aS,bI,aN,bG,bJ,bL,bH,bE,aT,aU,aV,aW,aX,aY,aZ,bA,bB] H1=some (u,H')/\Ext H0 H'/\Iw H' u (ofT c)/\New H0 u:=by
 intro q;induction q with
 |zero=>
  intro i k H1 acc hq hi hk he ha hnew;intros;obtain⟨k,rfl⟩:=aB k (by omega)
  have hlen:=(hc.ext he).gO;have hal:=ha.zK;have hal2:(ofL c i).length=i:=by simp[ofL]
  rw[hal2] at hal;have tail: ∀(x1 x2 x5 x6 x7 x8 x9 bK bN bC aO aP aM aS bI aN bG bJ bL bH bE aT aU aV aW aX aY aZ bA bB:Value),∃H' u,Lr (lvl prog cF m) (aI m) cv x1 x2 acc (.int .i64 (i:Nat)) x5 x6 x7 x8 x9 bK bN bC aO aP aM aS bI aN bG bJ bL bH bE aT aU aV aW aX aY aZ bA bB H1=some (u,H')/\Ext H0 H'/\Iw H' u (ofT c)/\New H0 u:=by
   intros;unfold Lr;by_cases h0:i=0
   ·have e0:((i:Int)==0)=true:=by simp[h0]
    subst h0;have ha':Iw H1 acc []:=ha;obtain⟨acc2,H2,t1,t2,t3,t4⟩:=ha'.rW (by':=8) jK pC (by decide) 0 hnew he (by decide)
    simp only[gsR,hal,e0,oW,t1];have:ofT c=[0]:=by unfold ofT;rw[if_pos (by omega)]
    rw[this]
    exact⟨_,_,rfl,t4,t2,t3⟩
   ·have e0:((i:Int)==0)=false:=by simp;omega
    simp only[gsR,hal,e0];have:ofT c=ofL c i:=by unfold ofT;rw[if_neg (by omega)];congr 1;omega
    rw[this]
    exact⟨_,_,rfl,he,ha,hnew⟩
  rw[dY,Wx];by_cases hcl:i<c.length
  ·have e1:decide ((i:Int)<(c.length:Int))=true:=aPD (by omega)
   have e2:decide ((i:Int)<5)=false:=aPE (by omega)
   simp only[gsR,hlen,e1,e2];rw[Wy];exact tail ..
  ·have e1:decide ((i:Int)<(c.length:Int))=false:=aPE (by omega)
   simp only[gsR,hlen,e1];rw[Wy];exact tail ..
 |succ q ih=>
  intro i k H1 acc hq hi hk he ha hnew;intros;obtain⟨k,rfl⟩:=aB k (by omega)
  have hlen:=(hc.ext he).gO;have e1:decide ((i:Int)<(c.length:Int))=true:=aPD (by omega)
  have e2:decide ((i:Int)<5)=true:=aPD (by omega)
  have e3:=aA (i:=i) (by omega)
  obtain⟨x,hx⟩: ∃x,c[i]? =some x:=⟨_,aOW (by omega)⟩
  have hx8:=hu8 x (aO4 hx);obtain⟨b,o,g1,_,g3⟩:=(hc.ext he).iG La hx .i64;have g4:ld1 (.pointer (some ⟨b,o,none⟩)) H1=some (.int .u8 x,H1):=(g3 H1 rfl).2.1 0 _ rfl;have c1:=λH=>cvU H x hx8
  have c2:=q9 x (i+1) (i+1:Nat) rfl (by omega)
  have hal2:(ofL c i).length=i:=by simp[ofL]
  obtain⟨acc2,H2,t1,t2,t3,t4⟩:=ha.rW (by':=8) jK pC (by decide) ((x%(i+1):Nat):Int) hnew he (kM (n:=1000) (by decide) (by omega))
  have hn:ofL c (i+1)=ofL c i++[((x%(i+1):Nat):Int)]:=by
   unfold ofL;rw[aPt,List.map_append];simp only[aPp,List.map_nil];rw[aOY,hx];rfl
  rw[dY,Wx];simp only[gsR,hlen,e1,e2,g1,g4,c1,cC,e3,c2,oW,t1];exact ih (i+1) k H2 acc2 (by omega) (by omega) (by omega) t4 (by rw[hn];exact t2) t3 ..
theorem aIp {cv:Value}{c:List Nat}(hc:Us H cv c)(hu8: ∀x∈c,x<256)(hl:c.length<=72057594037927936)(hm:100<m): ∃H' u,lvl prog cF m (.func 33) [cv] H=some (u,H')/\Ext H H'/\Iw H' u (ofT c)/\New H u:=by
 refine jJ (iH rfl rfl) (by omega) ?_
 rw[aHo];exact aIq hc hu8 hl (min c.length 5) 0 (m-1) H (.slice none 0 0) (by omega) (by omega) (by omega) (Fr.nC _ _) Rw.lQ (New.nP _) ..
theorem aIr {tv:Value}{t:List Int}(ht:Is H tv t)(hl:t.length<=72057594037927936): ∀(q i k:Nat),t.length-i=q->i<=t.length->q<k->(∀j,j<i->(decide (0<=t.getD j 0)&&decide (t.getD j 0<=j))=true)-> ∀(x1 x2 x4 x5 x6 x7 x8 x9 bK bN bC aO aP aM aS bI aN bG bJ bL bH bE aT aU:Value),
  aI k (aK prog (lvl prog cF m) (aI m) Lx) (Fc (lvl prog cF m) (aI m)) [tv,x1,x2,(.int .i64 (i:Nat)),x4,x5,x6,x7,x8,x9,bK,bN,bC,aO,aP,aM,aS,bI,aN,bG,bJ,bL,bH,bE,aT,aU] H=some (.bool (jO t),H):=by
 intro q;have hlen:=ht.gO;induction q with
 |zero=>
  intro i k hq hi hk hpre;intros;obtain⟨k,rfl⟩:=aB k (by omega)
  have e:decide ((i:Int)<(t.length:Int))=false:=aPE (by omega)
  have hr:jO t=decide ((t.length:Int)<=5):=by
   unfold jO;rw[aPz.mpr (λj hj=>hpre j (by have:=aPy.mp hj;omega)),aPh]
  rw[hr,dY,W5];simp only[gsR,hlen,e];rw[aHw];simp only[gsR,hlen]
 |succ q ih=>
  intro i k hq hi hk hpre;intros;obtain⟨k,rfl⟩:=aB k (by omega)
  have e:decide ((i:Int)<(t.length:Int))=true:=aPD (by omega)
  have e3:=aA (i:=i) (by omega)
  obtain⟨x,hx⟩: ∃x,t[i]? =some x:=⟨_,aOW (by omega)⟩
  obtain⟨b,o,g1,_,g3⟩:=ht.iG jK hx .i64;have g4:ld1 (.pointer (some ⟨b,o,none⟩)) H=some (.int .i64 x,H):=(g3 H rfl).2.1 0 _ rfl;have hd:=wJ hx;have bad:(decide (0<=x)&&decide (x<=i))=false->jO t=false:=λh=>by
   rw[<-Bool.not_eq_true];unfold jO;rw[aO2,aPz];rintro ⟨hh,_⟩
   have:=hh i (aPy.mpr (by omega))
   rw[hd,h] at this;cases this
  rw[dY,W5];by_cases c1:x<0
  ·have d1:decide (x<0)=true:=aPD c1
   rw[bad (by rw[aPE (by omega)];rfl)]
   simp only[gsR,hlen,e,g1,g4,d1];rw[W6];rfl
  ·have d1:decide (x<0)=false:=aPE c1
   by_cases c2:(i:Int)<x
   ·have d2:decide ((i:Int)<x)=true:=aPD c2
    rw[bad (by rw[aPE (show¬x<=i by omega),Bool.and_false])]
    simp only[gsR,hlen,e,g1,g4,d1,d2];rw[W6];rfl
   ·have d2:decide ((i:Int)<x)=false:=aPE c2
    simp only[gsR,hlen,e,g1,g4,d1,d2,cC,e3];refine ih (i+1) k (by omega) (by omega) (by omega) (λj hj=> ?_) ..
    by_cases hji:j=i
    ·rw[hji,hd,aPD (by omega),aPD (by omega)];rfl
    ·exact hpre j (by omega)
theorem X0 {tv:Value}{t:List Int}(ht:Is H tv t)(hm:t.length+10<m)(hm2:m<=72057594037927936):lvl prog cF m (.func 73) [tv] H=some (.bool (jO t),H):=by
 refine dF (iH rfl rfl) (by omega) ?_
 rw[aHx];exact aIr ht (by omega) t.length 0 (m-1) (by omega) (by omega) (by omega) (λj hj=>absurd hj (by omega)) ..
theorem aIv {H0:aC}{tv:Value}{t:List Int}(ht:Is H0 tv t)(hr:jO t=true): ∀(q k:Nat)(v:Int)(H1:aC)(acc:Value)(pre:List Int),v.toNat<=q->0<=v/\v<=t.length->q<k->pre.length+q<=20->Ext H0 H1->Iw H1 acc (pre++[v])->New H0 acc-> ∀(x2 x3 x4 x6 x7 x8 x9 bK bN bC aO aP aM aS bI aN bG:Value),
  ∃H' u,aI k (aK prog (lvl prog cF m) (aI m) Lh) (Li (lvl prog cF m) (aI m)) [tv,(.int .i64 v),x2,x3,x4,acc,x6,x7,x8,x9,bK,bN,bC,aO,aP,aM,aS,bI,aN,bG] H1=some (u,H')/\Ext H0 H'/\Iw H' u (pre++upL t q v)/\New H0 u:=by
 intro q;induction q with
 |zero=>
  intro k v H1 acc pre hv hvr hk hpl he ha hnew;intros;obtain⟨k,rfl⟩:=aB k (by omega)
  have e:decide (0<v)=false:=aPE (by omega)
  rw[dY,Wq];simp only[gsR,e];rw[Wr]
  exact⟨H1,acc,rfl,he,ha,hnew⟩
 |succ q ih=>
  intro k v H1 acc pre hv hvr hk hpl he ha hnew;intros;obtain⟨k,rfl⟩:=aB k (by omega)
  rw[dY,Wq];unfold upL;by_cases h0:0<v
  ·have e:decide (0<v)=true:=aPD h0
   rw[if_pos h0];have hev:v-1=(((v-1).toNat:Nat):Int):=by omega
   obtain⟨x,hx⟩: ∃x,t[(v-1).toNat]? =some x:=⟨_,aOW (by omega)⟩
   have hxr:=Xz hr hx;obtain⟨b,o,g1,_,g3⟩:=(ht.ext he).iG jK hx .i64;rw[<-hev] at g1;have g4:ld1 (.pointer (some ⟨b,o,none⟩)) H1=some (.int .i64 x,H1):=(g3 H1 rfl).2.1 0 _ rfl;have e4:IntKind.i64.wrap (v-1)=v-1:=dG (by omega) (by omega)
   obtain⟨acc2,H2,t1,t2,t3,t4⟩:=ha.rW (by':=8) jK pC (by decide) x hnew he (kM (n:=1000) (by decide) (by simp;omega))
   simp only[gsR,e,iM,e4,g1,g4,oW,t1];have:=ih k x H2 acc2 (pre++[v]) (by omega) (by omega) (by omega) (by simp;omega) t4 t2 t3
   rw[wJ hx];simp only[aO1,List.singleton_append] at this;exact this ..
  ·have e:decide (0<v)=false:=aPE h0
   rw[if_neg h0];simp only[gsR,e];rw[Wr]
   exact⟨H1,acc,rfl,he,ha,hnew⟩
theorem X1 {tv:Value}{t:List Int}(ht:Is H tv t)(hr:jO t=true){v:Int}(hv:0<=v/\v<=t.length)(hm:100<m): ∃H' u,lvl prog cF m (.func 126) [tv,.int .i64 v] H=some (u,H')/\Ext H H'/\Iw H' u (upT t v)/\New H u:=by
 have h5:t.length<=5:=by
  unfold jO at hr;rw[aO2] at hr;have:=of_decide_eq_true hr.2;omega
 have one:Iw (H++[.cells (inC v) 3 .row]) (.slice (some ⟨H.length,0,none⟩) 1 1) ([]++[v]):=⟨rfl,.inr ⟨_,1,[],rfl,by simp,rfl,by simp⟩⟩
 have hnew:New H (.slice (some ⟨H.length,0,none⟩) 1 1):=λb ⟨_,_,_,hh⟩=>by cases hh;exact aOZ _
 refine jJ (iH rfl rfl) (by omega) ?_
 rw[aHh];simp only[gsR,oW];exact aIv ht hr v.toNat (m-1) v _ _ [] (aOZ _) hv (by omega) (by simp;omega) (Fr.app _ _ _) one hnew ..
theorem aIu {H0:aC}{bv:Value}{b:List Int}(hb:Is H0 bv b)(hbl:b.length<=10): ∀(q k:Nat)(H1:aC)(acc:Value)(pre:List Int),q<=b.length->q<k->pre.length+q<=40->Ext H0 H1->Iw H1 acc pre->New H0 acc-> ∀(x0 x1 x2 x3 x4 x5 x6 x7 bN bC aO aP aM aS bI aN bG bJ bL bH bE aT aU aV aW aX aY aZ bA bB bO bP bQ bR bS bT bU bV bX bY cD cG cH cK cQ cS cT cM cN cO cP cW cU cV cY dA dC dB dD dN dO dR dS dT dU dV dW dX eG eH eI eJ eK eL eM eN eO eP eQ eS eX eY eZ fA fB fC fD fE:Value),
  ∃H' u,aI k (aK prog (lvl prog cF m) (aI m) Lz) (L3 (lvl prog cF m) (aI m)) [x0,x1,x2,x3,x4,x5,x6,x7,bv,acc,(.int .i64 ((q:Int)-1)),bN,bC,aO,aP,aM,aS,bI,aN,bG,bJ,bL,bH,bE,aT,aU,aV,aW,aX,aY,aZ,bA,bB,bO,bP,bQ,bR,bS,bT,bU,bV,bX,bY,cD,cG,cH,cK,cQ,cS,cT,cM,cN,cO,cP,cW,cU,cV,cY,dA,dC,dB,dD,dN,dO,dR,dS,dT,dU,dV,dW,dX,eG,eH,eI,eJ,eK,eL,eM,eN,eO,eP,eQ,eS,eX,eY,eZ,fA,fB,fC,fD,fE] H1=some (u,H')/\Ext H0 H'/\Iw H' u (pre++(b.take q).reverse)/\New H0 u:=by
 intro q;induction q with
 |zero=>
  intro k H1 acc pre hq hk hpl he ha hnew;intros;obtain⟨k,rfl⟩:=aB k (by omega)
  have e:decide (0<=((0:Nat):Int)-1)=false:=by decide
  rw[dY,W7];simp only[gsR,e];rw[aHz]
  exact⟨H1,acc,rfl,he,by simpa using ha,hnew⟩
 |succ q ih=>
  intro k H1 acc pre hq hk hpl he ha hnew;intros;obtain⟨k,rfl⟩:=aB k (by omega)
  have e:decide (0<=((q+1:Nat):Int)-1)=true:=aPD (by omega)
  have eq:(((q+1:Nat):Int)-1)=((q:Nat):Int):=by omega
  have e3:IntKind.i64.wrap (((q:Nat):Int)-1)=((q:Nat):Int)-1:=dG (by omega) (by omega)
  obtain⟨x,hx⟩: ∃x,b[q]? =some x:=⟨_,aOW (by omega)⟩
  obtain⟨c,o,g1,_,g3⟩:=(hb.ext he).iG jK hx .i64;have g4:ld1 (.pointer (some ⟨c,o,none⟩)) H1=some (.int .i64 x,H1):=(g3 H1 rfl).2.1 0 _ rfl;obtain⟨acc2,H2,t1,t2,t3,t4⟩:=ha.rW (by':=8) jK pC (by decide) x hnew he (kM (n:=1000) (by decide) (by omega))
  rw[dY,W7];simp only[gsR,e,eq,g1,g4,oW,t1,iM,e3];have:=ih k H2 acc2 (pre++[x]) (by omega) (by omega) (by simp;omega) t4 t2 t3
  have hr:(b.take (q+1)).reverse=x::(b.take q).reverse:=by rw[List.take_add_one,hx];simp
  rw[hr];simp only[aO1,List.singleton_append] at this;exact this ..
theorem aIt {H0:aC}(hm:100<m): ∀(q k:Nat)(a b:List Int)(av bv:Value),a.length<=q->q<k->0<a.length->0<b.length->a.length<=10->b.length<=10->Is H0 av a->Is H0 bv b-> ∀(x0 x1 x2 x3 x4 x5 x6 x9 bK bN bC aO aP aM aS bI aN bG bJ bL bH bE aT aU aV aW aX aY aZ bA bB bO bP bQ bR bS bT bU bV bX bY cD cG cH cK cQ cS cT cM cN cO cP cW cU cV cY dA dC dB dD dN dO dR dS dT dU dV dW dX eG eH eI eJ eK eL eM eN eO eP eQ eS eX eY eZ fA fB fC fD fE:Value),
  ∃H' u,aI k (aK prog (lvl prog cF m) (aI m) Ly) (L2 (lvl prog cF m) (aI m)) [x0,x1,x2,x3,x4,x5,x6,av,bv,x9,bK,bN,bC,aO,aP,aM,aS,bI,aN,bG,bJ,bL,bH,bE,aT,aU,aV,aW,aX,aY,aZ,bA,bB,bO,bP,bQ,bR,bS,bT,bU,bV,bX,bY,cD,cG,cH,cK,cQ,cS,cT,cM,cN,cO,cP,cW,cU,cV,cY,dA,dC,dB,dD,dN,dO,dR,dS,dT,dU,dV,dW,dX,eG,eH,eI,eJ,eK,eL,eM,eN,eO,eP,eQ,eS,eX,eY,eZ,fA,fB,fC,fD,fE] H0=some (u,H')/\Ext H0 H'/\Iw H' u (Fo (B4 q a b))/\New H0 u:=by
 intro q;have fin: ∀(a b:List Int)(av bv:Value),0<b.length->a.length<=10->b.length<=10->Is H0 av a->Is H0 bv b-> ∀(x0 x1 x2 x3 x4 x5 x6 x9 bK bN bC aO aP aM aS bI aN bG bJ bL bH bE aT aU aV aW aX aY aZ bA bB bO bP bQ bR bS bT bU bV bX bY cD cG cH cK cQ cS cT cM cN cO cP cW cU cV cY dA dC dB dD dN dO dR dS dT dU dV dW dX eG eH eI eJ eK eL eM eN eO eP eQ eS eX eY eZ fA fB fC fD fE:Value),∃H' u,L0 (lvl prog cF m) (aI m) x0 x1 x2 x3 x4 x5 x6 av bv x9 bK bN bC aO aP aM aS bI aN bG bJ bL bH bE aT aU aV aW aX aY aZ bA bB bO bP bQ bR bS bT bU bV bX bY cD cG cH cK cQ cS cT cM cN cO cP cW cU cV cY dA dC dB dD dN dO dR dS dT dU dV dW dX eG eH eI eJ eK eL eM eN eO eP eQ eS eX eY eZ fA fB fC fD fE H0=some (u,H')/\Ext H0 H'/\Iw H' u (Fo (a,b))/\New H0 u:=by
  intro a b av bv hb0 ha hb hav hbv;intros;obtain⟨v',H',t1,t2,t3,t4⟩:=(Rw.lQ (el:=inC) (e:=3) (sz:=1) (H:=H0)).vY jK pC (by decide) (by':=8) hav (New.nP H0) (Fr.nC _ H0) (kM (n:=1000) (by decide) (by simp;omega))
  rw[List.nil_append] at t2;have hlen:=(hbv.ext t4).gO;have e3:IntKind.i64.wrap ((b.length:Int)-2)=((b.length-1:Nat):Int)-1:=by rw[dG (by omega) (by omega)];omega
  unfold L0;simp only[gsR,t1,hlen,iM,e3];exact Exists.imp (λH2 h=>Exists.imp (λu h=>⟨h.1,h.2.1,h.2.2⟩) h) (aIu (m:=m) hbv hb (b.length-1) m H' v' a (by omega) (by omega) (by omega) t4 t2 t3 ..)
 induction q with
 |zero=>intro k a b av bv h1 _ h2;omega
 |succ q ih=>
  intro k a b av bv haq hk ha0 hb0 ha10 hb10 hav hbv;intros;obtain⟨k,rfl⟩:=aB k (by omega)
  have la:=hav.gO;have lb:=hbv.gO;rw[dY,aHy];unfold B4;by_cases c1:1<a.length
  ·have d1:decide ((1:Int)<(a.length:Int))=true:=aPD (by omega)
   by_cases c2:1<b.length
   ·have d2:decide ((1:Int)<(b.length:Int))=true:=aPD (by omega)
    obtain⟨x,hx⟩: ∃x,a[a.length-2]? =some x:=⟨_,aOW (by omega)⟩
    obtain⟨y,hy⟩: ∃y,b[b.length-2]? =some y:=⟨_,aOW (by omega)⟩
    have ea:IntKind.i64.wrap ((a.length:Int)-2)=((a.length-2:Nat):Int):=by rw[dG (by omega) (by omega)];omega
    have eb:IntKind.i64.wrap ((b.length:Int)-2)=((b.length-2:Nat):Int):=by rw[dG (by omega) (by omega)];omega
    have ea1:IntKind.i64.wrap ((a.length:Int)-1)=((a.length-1:Nat):Int):=by rw[dG (by omega) (by omega)];omega
    have eb1:IntKind.i64.wrap ((b.length:Int)-1)=((b.length-1:Nat):Int):=by rw[dG (by omega) (by omega)];omega
    obtain⟨c,o,g1,_,g3⟩:=hav.iG jK hx .i64;have g4:ld1 (.pointer (some ⟨c,o,none⟩)) H0=some (.int .i64 x,H0):=(g3 H0 rfl).2.1 0 _ rfl;obtain⟨c',o',k1,_,k3⟩:=hbv.iG jK hy .i64;have k4:ld1 (.pointer (some ⟨c',o',none⟩)) H0=some (.int .i64 y,H0):=(k3 H0 rfl).2.1 0 _ rfl;by_cases c3:x=y
    ·have d3:(x==y)=true:=by simp[c3]
     rw[if_pos ⟨c1,c2,by rw[wJ hx,wJ hy,c3]⟩]
     have na:a≠[]:=λh=>by rw[h] at ha0;simp at ha0
     have nb:b≠[]:=λh=>by rw[h] at hb0;simp at hb0
     obtain⟨a',s1,s2,_⟩:=hav.D0 (P:=prog) jK szI na (lo:=none) rfl (oA a.length .i64 (a.length-1)) (Nat.zero_le _) (by omega)
     obtain⟨b',s3,s4,_⟩:=hbv.D0 (P:=prog) jK szI nb (lo:=none) rfl (oA b.length .i64 (b.length-1)) (Nat.zero_le _) (by omega)
     rw[List.drop_zero] at s2 s4;simp only[gsR,la,d1,lb,d2,iM,ea,eb,g1,g4,k1,k4,d3,ea1,eb1,s1,s3];exact ih k _ _ a' b' (by simp;omega) (by omega) (by simp;omega) (by simp;omega) (by simp;omega) (by simp;omega) s2 s4 ..
    ·have d3:(x==y)=false:=by simp[c3]
     rw[if_neg (by rw[wJ hx,wJ hy];rintro ⟨_,_,h⟩;exact c3 h)]
     simp only[gsR,la,d1,lb,d2,iM,ea,eb,g1,g4,k1,k4,d3];rw[L1];exact fin a b av bv hb0 ha10 hb10 hav hbv ..
   ·have d2:decide ((1:Int)<(b.length:Int))=false:=aPE (by omega)
    rw[if_neg (by omega)]
    simp only[gsR,la,d1,lb,d2];rw[L1];exact fin a b av bv hb0 ha10 hb10 hav hbv ..
  ·have d1:decide ((1:Int)<(a.length:Int))=false:=aPE (by omega)
   rw[if_neg (by omega)]
   simp only[gsR,la,d1];rw[L1];exact fin a b av bv hb0 ha10 hb10 hav hbv ..
theorem aIs {tv:Value}{t:List Int}(ht:Is H tv t)(hr:jO t=true){v w:Int}(hv:0<=v/\v<=t.length)(hw:0<=w/\w<=t.length)(hm:200<m)(hm2:m<=72057594037927936):
  ∃H' u,lvl prog cF m (.func 74) [tv,.int .i64 v,.int .i64 w] H=some (u,H')/\Ext H H'/\Iw H' u (oY t v w)/\New H u:=by
 have h5:t.length<=5:=by
  unfold jO at hr;rw[aO2] at hr;have:=of_decide_eq_true hr.2;omega
 have g1:=X0 ht (m:=m-1) (by omega) (by omega)
 rw[hr] at g1;have hlen:=ht.gO;have d1:decide (v<0)=false:=aPE (by omega)
 have d2:decide ((t.length:Int)<v)=false:=aPE (by omega)
 have d3:decide (w<0)=false:=aPE (by omega)
 have d4:decide ((t.length:Int)<w)=false:=aPE (by omega)
 obtain⟨H1,a,g2,x1,qa,_⟩:=X1 ht hr hv (m:=m-1) (by omega)
 obtain⟨H2,b,g3,x2,qb,_⟩:=X1 (ht.ext x1) hr hw (m:=m-1) (by omega)
 have la:=Mi t v.toNat v;have lb:=Mi t w.toNat w;have e:oY t v w=Fo (B4 (upT t v).length (upT t v) (upT t w)):=by unfold oY;rw[if_pos ⟨hr,hv.1,hv.2,hw.1,hw.2⟩]
 refine jJ (iH rfl rfl) (by omega) ?_
 rw[aHA];simp only[gsR,g1,hlen,d1,d2,d3,d4,g2,g3];rw[e];have hla:(upT t v).length=(upL t v.toNat v).length:=rfl;have hlb:(upT t w).length=(upL t w.toNat w).length:=rfl;exact Exists.imp (λH' h=>Exists.imp (λu h=>⟨h.1,(x1.tr x2).tr h.2.1,h.2.2.1,λc hc=>aPa (x1.tr x2).1 (h.2.2.2 c hc)⟩) h) (aIt (m:=m-1) (by omega) (upT t v).length (m-1) _ _ a b (aOZ _) (by omega) (by omega) (by omega) (by omega) (by omega) (qa.rs.ext x2) qb.rs ..)
end
def uZ:Nat->List (List Int)
 |0=>[[]]
 |k+1=>(uZ k).flatMap λt=>(List.range (k+1)).map λx:Nat=>t++[(x:Int)]
theorem aIB {t:List Int}{x:Int}(h:jO (t++[x])=true):jO t=true/\0<=x/\x<=t.length:=by
 have hx:=Xz h (i:=t.length) (x:=x) (by simp)
 refine⟨?_,hx.1,hx.2.1⟩;unfold jO at h⊢;rw[aO2,aPz] at h⊢;refine⟨λj hj=> ?_,?_⟩
 ·have hjl:=aPy.mp hj
  have:=h.1 j (aPy.mpr (by simp;omega))
  rw[aOY,aOX hjl] at this;rw[aOY];exact this
 ·have h2:=of_decide_eq_true h.2
  simp at h2;exact aPD (by omega)
theorem X2: ∀(k:Nat)(t:List Int),t.length=k->jO t=true->t∈uZ k
 |0,t,hl,_=>by
  rw[aPc.mp hl];simp[uZ]
 |k+1,t,hl,h=>by
  obtain⟨s,x,rfl⟩: ∃s x,t=s++[x]:=by
   refine⟨t.dropLast,t.getLast (λhh=>by rw[hh] at hl;simp at hl),?_⟩
   exact(List.dropLast_concat_getLast _).symm
  obtain⟨h1,h2,h3⟩:=aIB h;have hsl:s.length=k:=by simpa using hl
  unfold uZ;rw[List.mem_flatMap];refine⟨s,X2 k s hsl h1,aPx.mpr ⟨x.toNat,aPy.mpr (by omega),?_⟩⟩
  rw[show((x.toNat:Nat):Int)=x by omega]
def zS (t:List Int):PlanD:=cpP (t.length+1) (uY t) (nS t)
def yB (t:List Int):Bool:=kY (zS t)&&(decide (mI (zS t)=0)&&(List.range (t.length+1)).all λv=>(List.range (t.length+1)).all λw=>decide (wH (zS t) v w=oY t v w)&&(decide (v=w)||decide (2<=(oY t v w).length)))
theorem aIw:(uZ 1).all yB=true:=by decide+kernel
theorem aIx:(uZ 2).all yB=true:=by decide+kernel
theorem aIy:(uZ 3).all yB=true:=by decide+kernel
theorem aIz:(uZ 4).all yB=true:=by decide+kernel
theorem aIA:(uZ 5).all yB=true:=by decide+kernel
theorem aIJ {t:List Int}(hr:jO t=true)(h1:1<=t.length):yB t=true:=by
 have h5:t.length<=5:=by
  unfold jO at hr;rw[aO2] at hr;have:=of_decide_eq_true hr.2;omega
 have hm:=X2 t.length t rfl hr;have hc:t.length=1∨t.length=2∨t.length=3∨t.length=4∨t.length=5:=by omega
 rcases hc with h|h|h|h|h<;>rw[h] at hm
 ·exact aPz.mp aIw t hm
 ·exact aPz.mp aIx t hm
 ·exact aPz.mp aIy t hm
 ·exact aPz.mp aIz t hm
 ·exact aPz.mp aIA t hm
def Fq (t:List Int)(v:Nat):List Int:=(List.range (t.length+1)).map λw:Nat=>if v=w then(v:Int) else(oY t v w).getD 1 0
structure TG (t:List Int):Prop where
 ok:kY (zS t)=true
 er:mI (zS t)=0
 pa: ∀v w:Nat,v<=t.length->w<=t.length->wH (zS t) v w=oY t v w
 l2: ∀v w:Nat,v<=t.length->w<=t.length->v≠w->2<=(oY t v w).length
theorem Mk {t:List Int}(hr:jO t=true)(h1:1<=t.length):TG t:=by
 have h:=aIJ hr h1;unfold yB at h;simp only[aO2,decide_eq_true_eq,aPz,aPy,Bool.or_eq_true] at h;obtain⟨h1,h2,h3⟩:=h
 exact⟨h1,h2,λv w hv hw=>(h3 v (by omega) w (by omega)).1,λv w hv hw hne=>((h3 v (by omega) w (by omega)).2).resolve_left hne⟩
theorem aII {p:PlanD}{t:List Int}(hp:kY p=true)(hg:TG t):kY (qK p t)=true:=by
 have h:=hg.ok;unfold kY uW xZ wE at*;simp only[aO2] at*
 exact⟨⟨h.1.1,hp.1.2⟩,h.2.1,hp.2.2.1,hp.2.2.2.1,h.2.2.2.2⟩
theorem X3 {p:PlanD}{t:List Int}(hp:kY p=true)(hg:TG t):mI (qK p t)=0/\ ∀v w:Nat,v<=t.length->w<=t.length->wH (qK p t) v w=oY t v w:=by
 obtain⟨_,c2,_,c4⟩:=aIo (aII hp hg) hg.ok rfl rfl rfl
 exact⟨by rw[c4];exact hg.er,λv w hv hw=>by rw[c2];exact hg.pa v w hv hw⟩
section
variable {H : aC} {m : Nat} {p : PlanD} {ev wv nv : Value}
theorem aID {α:Type}{el:α->List Value}{e e':TypeId}{sz by':Nat}(hsz: ∀x,(el x).length=sz)(hall: ∀x,dZ (el x)=true)(h0:0<sz){H0:aC}{v w:Value}{xs ys:List α}{b j:Nat}{cs:List Value}
  (hb:H[b]? =some (.cells cs 28 .fix))(hj:j<cs.length)(hv:Rw el e sz H v xs)(hw:Rs el e' H w ys)(hn:New H0 v)(hbn:H0.length<=b)(he:Ext H0 H)(hr:j7 (xs.length+ys.length) by'=true):
  ∃v' H1 H',app e sz by' v w H=some (v',H1)/\stN 1 (.pointer (some ⟨b,j,none⟩)) v' H1=some (undef,H')/\
   Rw el e sz H' v' (xs++ys)/\New H0 v'/\Ext H0 H'/\H'[b]? =some (.cells (cs.set j v') 28 .fix)/\Ey b e H H':=by
 obtain⟨v',H1,g1,g2,g3,g4,g5⟩:=hv.xS hsz hall h0 (by':=by') hw hr;have hbl:=(aOU.mp hb).1;have hl:=he.1;have hnh: ¬cR v b:=λhh=>by
  obtain⟨c',hc'⟩:=hv.blk hh;rw[hb] at hc';simp at hc'
 have hb1:H1[b]? =some (.cells cs 28 .fix):=by rw[g4 b hbl hnh,hb]
 obtain⟨s1,s2⟩:=g2.zL;have hb1l:=(aOU.mp hb1).1;refine⟨v',H1,H1.set b (.cells (cs.set j v') 28 .fix),g1,?_,g2.iD λc hc=> ?_,λc hc=> ?_,⟨by rw[List.length_set];omega,λc hc _=> ?_⟩,aO0 hb1l,λc y hcb hA hy=> ?_⟩
 ·rw[mS 1 _ _ _ (by rw[s1];rfl),hb1,s1,n9 _ _ _ _ _ _ (by decide) (by simp;omega) s2]
  rfl
 ·refine aOV λhh=> ?_
  subst hh;obtain⟨c',hc'⟩:=g2.blk hc;rw[hb1] at hc';simp at hc'
 ·rcases g5 c hc with h|⟨h,_⟩
  ·exact hn c h
  ·omega
 ·rw[aOV (by omega),g4 c (by omega) (λh=>by have:=hn c h;omega),he.2 c hc id]
 ·have hch: ¬cR v c:=λhh=>by
   obtain⟨c',hc'⟩:=hv.blk hh;rw[hy] at hc';cases hc';exact hA _ rfl
  rw[aOV (Ne.symm hcb),g4 c (aOU.mp hy).1 hch,hy]
structure LA (H0 H1:aC)(pb rb:Nat)(q:PlanD)(ev wv nv:Value):Prop where
 ext:Ext H0 H1
 blk:H1[pb]? =some (plB q ev wv nv)
 res:H1[rb]? =some plZ
 ne:rb≠pb
 lp:H0.length<=pb
 lr:H0.length<=rb
theorem LA.aIC {H0 H1 H2:aC}{pb rb:Nat}{q:PlanD}(h:LA H0 H1 pb rb q ev wv nv)(he:Ext H1 H2):LA H0 H2 pb rb q ev wv nv:=⟨h.ext.tr he,hZ h.blk he,hZ h.res he,h.ne,h.lp,h.lr⟩
theorem Mj {H0 H1:aC}{b rb:Nat}{e:TypeId}(hk:Ey b e H0 H1)(hr:H0[rb]? =some plZ)(hne:rb≠b):H1[rb]? =some plZ:=hk rb _ hne (λcs hh=>by simp[plZ] at hh) hr
def Fp (H0:aC)(q:PlanD)(H':aC)(r:Value):Prop:= ∃ev wv nv,r= .tuple #[plV q ev wv nv,.int .i64 0]/\Ext H0 H'/\PV H' q ev wv nv
variable {t : List Int} {tv : Value} {H0 : aC} {pb rb : Nat}
theorem aIH {Hb:aC}{v:Nat}(hr:jO t=true)(hg:TG t)(ht:Is Hb tv t)(hv:v<t.length+1)(hm:400<m)(hm2:m<=72057594037927936){K:Ex->K (Value×aC)}{Q:aC->Value->Prop}
  (hK: ∀(H':aC)(u:Value),Ext Hb H'->Iw H' u ((List.range (t.length+1)).map λw=>if v=w then(v:Int) else(oY t v w).getD 1 0)->New Hb u-> ∀(x0 x3 x5 x7 x8 bN bC aO aP aM aS bI aN bG bJ bL bH bE aT aU aV aW aX aY aZ bA bB bO bP bQ bR bS bT bU bV bX bY cD cG cH cK cQ cS cT cM cN cO cP cW cU cV cY dA dC dB dD dN dO dR dS dT dU dV dW dX eG eH eI eJ eK eL eM eN eO eP eQ eS:Value),∃H2 r,Lm (lvl prog cF m) (aI m) K x0 tv (.pointer (some ⟨pb,0,none⟩)) x3 (.pointer (some ⟨rb,0,none⟩)) x5 (.int .i64 (t.length+1:Nat)) x7 x8 (.int .i64 (v:Nat)) u bN bC aO aP aM aS bI aN bG bJ bL bH bE aT aU aV aW aX aY aZ bA bB bO bP bQ bR bS bT bU bV bX bY cD cG cH cK cQ cS cT cM cN cO cP cW cU cV cY dA dC dB dD dN dO dR dS dT dU dV dW dX eG eH eI eJ eK eL eM eN eO eP eQ eS H'=some (r,H2)/\Q H2 r):
  ∀(k0 w k:Nat)(H1:aC)(acc:Value),t.length+1-w=k0->w<=t.length+1->k0<k->Ext Hb H1->Iw H1 acc ((List.range w).map λw=>if v=w then(v:Int) else(oY t v w).getD 1 0)->New Hb acc-> ∀(x0 x3 x5 x7 x8 bC aO aP aM aS bI aN bG bJ bL bH bE aT aU aV aW aX aY aZ bA bB bO bP bQ bR bS bT bU bV bX bY cD cG cH cK cQ cS cT cM cN cO cP cW cU cV cY dA dC dB dD dN dO dR dS dT dU dV dW dX eG eH eI eJ eK eL eM eN eO eP eQ eS:Value),
  ∃H' r,aI k (aK prog (lvl prog cF m) (aI m) Ll) (Lp (lvl prog cF m) (aI m) K) [x0,tv,(.pointer (some ⟨pb,0,none⟩)),x3,(.pointer (some ⟨rb,0,none⟩)),x5,(.int .i64 (t.length+1:Nat)),x7,x8,(.int .i64 (v:Nat)),acc,(.int .i64 (w:Nat)),bC,aO,aP,aM,aS,bI,aN,bG,bJ,bL,bH,bE,aT,aU,aV,aW,aX,aY,aZ,bA,bB,bO,bP,bQ,bR,bS,bT,bU,bV,bX,bY,cD,cG,cH,cK,cQ,cS,cT,cM,cN,cO,cP,cW,cU,cV,cY,dA,dC,dB,dD,dN,dO,dR,dS,dT,dU,dV,dW,dX,eG,eH,eI,eJ,eK,eL,eM,eN,eO,eP,eQ,eS] H1=some (r,H')/\Q H' r:=by
 intro k0;have h5:t.length<=5:=by
  unfold jO at hr;rw[aO2] at hr;have:=of_decide_eq_true hr.2;omega
 induction k0 with
 |zero=>
  intro w k H1 acc hq hi hk he ha hnew;intros;obtain⟨k,rfl⟩:=aB k (by omega)
  obtain rfl:w=t.length+1:=by omega
  have e:decide (((t.length+1:Nat):Int)<((t.length+1:Nat):Int))=false:=by simp
  rw[dY,Ww];simp only[gsR,e];rw[aHm];exact hK H1 acc he ha hnew ..
 |succ k0 ih=>
  intro w k H1 acc hq hi hk he ha hnew;intros;obtain⟨k,rfl⟩:=aB k (by omega)
  have e:decide ((w:Int)<((t.length+1:Nat):Int))=true:=aPD (by omega)
  have e3:=aA (i:=w) (by omega)
  have hrow: ∀x:Int,(if v=w then(v:Int) else(oY t v w).getD 1 0)=x->((List.range (w+1)).map λw=>if v=w then(v:Int) else(oY t v w).getD 1 0)=((List.range w).map λw=>if v=w then(v:Int) else(oY t v w).getD 1 0)++[x]:=λx hx=>by
   rw[aPt,List.map_append];simp only[aPp,List.map_nil];rw[hx]
  rw[dY,Ww];by_cases hvw:v=w
  ·have d:((v:Int)!=(w:Int))=false:=by simp[hvw]
   obtain⟨acc2,H2,t1,t2,t3,t4⟩:=ha.rW (by':=8) jK pC (by decide) (v:Int) hnew he (kM (n:=1000) (by decide) (by simp;omega))
   simp only[gsR,e,d,oW,t1,cC,e3];exact ih (w+1) k H2 acc2 (by omega) (by omega) (by omega) t4 (by rw[hrow v (if_pos hvw)];exact t2) t3 ..
  ·have d:((v:Int)!=(w:Int))=true:=by simp;omega
   obtain⟨H2,u,g1,x2,q2,_⟩:=aIs (ht.ext he) hr (v:=v) (w:=w) (by omega) (by omega) (m:=m) (by omega) (by omega)
   obtain⟨x,hx⟩: ∃x,(oY t v w)[1]? =some x:=by
    have:=hg.l2 v w (by omega) (by omega) hvw
    exact⟨_,aOW (by omega)⟩
   obtain⟨c,o,k1,_,k3⟩:=q2.rs.iG jK hx .i64;have k1:aR 1 u (.int .i64 1)=some (.pointer (some ⟨c,o,none⟩)):=k1;have k4:ld1 (.pointer (some ⟨c,o,none⟩)) H2=some (.int .i64 x,H2):=(k3 H2 rfl).2.1 0 _ rfl;have ha2:=ha.iD (H':=H2) λb hb=>x2.2 b (ha.j8 hb) id
   obtain⟨acc2,H3,t1,t2,t3,t4⟩:=ha2.rW (by':=8) jK pC (by decide) x hnew (he.tr x2) (kM (n:=1000) (by decide) (by simp;omega))
   simp only[gsR,e,d,g1,k1,k4,oW,t1,cC,e3];exact ih (w+1) k H3 acc2 (by omega) (by omega) (by omega) t4 (by rw[hrow x (by rw[if_neg hvw,wJ hx])];exact t2) t3 ..
theorem aIG {q:PlanD}{ev1 wv1:Value}(hr:jO t=true)(hg:TG t)(ht:Is H0 tv t)(hm:500<m)(hm2:m<=72057594037927936)(hqe:q.edges=uY t)(hqw:q.weights.length<=1000):
  ∀(k0 v k:Nat)(H1:aC)(nv1:Value)(us:List SV),t.length+1-v=k0->v<=t.length+1->k0<k->LA H0 H1 pb rb q ev1 wv1 nv1->Ew H1 ev1 q.edges->Iw H1 wv1 q.weights->Rw sC 25 1 H1 nv1 us->New H0 nv1->WR H1 us ((List.range v).map (Fq t))-> ∀(x0 x3 x5 x7 x8 bK bN bC aO aP aM aS bI aN bG bJ bL bH bE aT aU aV aW aX aY aZ bA bB bO bP bQ bR bS bT bU bV bX bY cD cG cH cK cQ cS cT cM cN cO cP cW cU cV cY dA dC dB dD dN dO dR dS dT dU dV dW dX eG eH eI eJ eK eL eM eN eO eP eQ eS:Value),
  ∃H' r,aI k (aK prog (lvl prog cF m) (aI m) Lk) (Lo (lvl prog cF m) (aI m)) [x0,tv,(.pointer (some ⟨pb,0,none⟩)),x3,(.pointer (some ⟨rb,0,none⟩)),x5,(.int .i64 (t.length+1:Nat)),x7,x8,(.int .i64 (v:Nat)),bK,bN,bC,aO,aP,aM,aS,bI,aN,bG,bJ,bL,bH,bE,aT,aU,aV,aW,aX,aY,aZ,bA,bB,bO,bP,bQ,bR,bS,bT,bU,bV,bX,bY,cD,cG,cH,cK,cQ,cS,cT,cM,cN,cO,cP,cW,cU,cV,cY,dA,dC,dB,dD,dN,dO,dR,dS,dT,dU,dV,dW,dX,eG,eH,eI,eJ,eK,eL,eM,eN,eO,eP,eQ,eS] H1=some (r,H')/\Fp H0 {q with next:=nS t} H' r:=by
 intro k0;have h5:t.length<=5:=by
  unfold jO at hr;rw[aO2] at hr;have:=of_decide_eq_true hr.2;omega
 induction k0 with
 |zero=>
  intro v k H1 nv1 us hq hi hk hL he1 hw1 hn1 hnew hwr;intros;obtain⟨k,rfl⟩:=aB k (by omega)
  obtain rfl:v=t.length+1:=by omega
  have e:decide (((t.length+1:Nat):Int)<((t.length+1:Nat):Int))=false:=by simp
  have hrows:Rows H1 nv1 (nS t):=hwr.L8 hn1.rs;have hb':H1[pb]? =some (plB {q with next:=nS t} ev1 wv1 nv1):=hL.blk
  have l11:=kX hb';have hqel:q.edges.length<=5:=by rw[hqe];simp[uY];exact h5
  have hpv:PV H1 {q with next:=nS t} ev1 wv1 nv1:=⟨he1.rs,hw1.rs,hrows,by show q.edges.length<=_;omega,by show q.weights.length<=_;omega,by show(nS t).length<=_;unfold nS;rw[aIn];omega⟩
  have hrl:=(aOU.mp hL.res).1;have hall:=hpv.Lg;have st:stN 11 (.pointer (some ⟨rb,0,none⟩)) (plV {q with next:=nS t} ev1 wv1 nv1) H1=some (undef,H1.set rb (plB {q with next:=nS t} ev1 wv1 nv1)):=by
   have e1:(plV {q with next:=nS t} ev1 wv1 nv1).cells.toList=plC {q with next:=nS t} ev1 wv1 nv1:=rfl
   rw[mS 11 _ _ _ rfl,hL.res,e1];unfold plZ;exact n9 _ _ _ _ _ _ (by decide) (by simp[plC]) hall
  have l2:=kX (aO0 (a:=plB {q with next:=nS t} ev1 wv1 nv1) hrl)
  have kp: ∀(b:Nat)(cs:List Value)(e:TypeId),H1[b]? =some (.cells cs e .row)->(H1.set rb (plB {q with next:=nS t} ev1 wv1 nv1))[b]? =H1[b]? :=λb cs e hb=>by
   refine aOV λhh=> ?_
   subst hh;rw[hL.res] at hb;simp[plZ] at hb
  have x2:Ext H0 (H1.set rb (plB {q with next:=nS t} ev1 wv1 nv1)):=s5 hL.ext hL.lr
  have hpv2:PV (H1.set rb (plB {q with next:=nS t} ev1 wv1 nv1)) {q with next:=nS t} ev1 wv1 nv1:=by
   refine⟨(he1.iD λb hb=> ?_).rs,(hw1.iD λb hb=> ?_).rs,(hwr.Bx λb cs hb=>kp b cs _ hb).L8 (hn1.iD λb hb=> ?_).rs,hpv.be,hpv.bw,hpv.bn⟩
   ·obtain⟨cs,hc⟩:=he1.blk hb
    exact kp b cs _ hc
   ·obtain⟨cs,hc⟩:=hw1.blk hb
    exact kp b cs _ hc
   ·obtain⟨cs,hc⟩:=hn1.blk hb
    exact kp b cs _ hc
  rw[dY,Wv];simp only[gsR,e];rw[aHl];simp only[gsR,l11,st,l2]
  exact⟨_,_,rfl,ev1,wv1,nv1,rfl,x2,hpv2⟩
 |succ k0 ih=>
  intro v k H1 nv1 us hq hi hk hL he1 hw1 hn1 hnew hwr;intros;obtain⟨k,rfl⟩:=aB k (by omega)
  have e:decide ((v:Int)<((t.length+1:Nat):Int))=true:=aPD (by omega)
  have e3:=aA (i:=v) (by omega)
  rw[dY,Wv];simp only[gsR,e];refine aIH (pb:=pb) (rb:=rb) (Q:=Fp H0 {q with next:=nS t}) hr hg (ht.ext hL.ext) (v:=v) (by omega) (by omega) hm2 (λH2 u x2 hu hun=> ?_) (t.length+1) 0 m H1 _ (by omega) (by omega) (by omega) (Fr.nC _ _) (Rw.lQ (el:=inC)) (New.nP _) ..
  intros;have hL2:=hL.aIC x2;have l10:=eU hL2.blk 10 _ rfl;have hn2:Rw sC 25 1 H2 nv1 us:=hn1.iD λb hb=>x2.2 b (hn1.j8 hb) id
  have hwr2:=hwr.Bx (H':=H2) λb cs hb=>x2.2 b (aOU.mp hb).1 id
  have he2:=he1.iD (H':=H2) λb hb=>x2.2 b (he1.j8 hb) id
  have hw2:=hw1.iD (H':=H2) λb hb=>x2.2 b (hw1.j8 hb) id
  have hul:us.length<=10:=by have:=hwr.len;simp at this;omega
  obtain⟨nv2,H3,H4,r1,r2,r3,r4,r5,r6,r7⟩:=Bq (by':=24) (H0:=H0) (b:=pb) (j:=10) K7 K6 (by decide) (qJ hu) hL2.blk (by show 10<11;omega) hn2 hnew hL.lp hL2.ext (kM (n:=1000) (by decide) (by omega))
  have bl:dL 25 1 1 [.slice none 0 0] [(0,u)] H2=some (.slice (some ⟨H2.length,0,none⟩) 1 1,H2++[.cells (sC (qJ hu)) 25 .row]):=by
   have h0:u.cells= #[u]:=(qJ hu).2.2;unfold dL;have:Instr.fill (λi=>some (i*1,1)) (List.replicate 1 [Value.slice none 0 0]).flatten.toArray [(0,u)]=some #[u]:=by
    simp[Instr.fill,h0]
   rw[this];rfl
  have hL4:LA H0 H4 pb rb q ev1 wv1 nv2:=⟨r5,r6,Mj r7 hL2.res hL.ne,hL.ne,hL.lp,hL.lr⟩;have w4:=(hwr2.Xd (s:=qJ hu) hu).Bx (H':=H4) λb cs hb=>by
   have hbp:b≠pb:=λhh=>by
    subst hh;rw[hL2.blk] at hb;simp[plB] at hb
   rw[hb];exact r7 b _ hbp (λcs' hh=>by cases hh) hb
  unfold Lm;simp only[gsR,l10,bl,r1,r2,cC,e3];refine ih (v+1) k H4 nv2 _ (by omega) (by omega) (by omega) hL4 (Rw.zP he2 r7 hL2.blk (by decide)) (Rw.zP hw2 r7 hL2.blk (by decide)) r3 r4 ?_ ..
  have hrs:(List.range (v+1)).map (Fq t)=(List.range v).map (Fq t)++[Fq t v]:=by rw[aPt,List.map_append];rfl
  exact hrs▸w4
theorem aIF {q:PlanD}{ws:List Int}{nv0:Value}(hr:jO t=true)(hg:TG t)(ht:Is H0 tv t)(hw0:Is H0 wv ws)(hwl:ws.length<=1000)(hm:500<m)(hm2:m<=72057594037927936)(hqe:q.edges=uY t)(hqw:q.weights=ws):
  ∀(k0 v k:Nat)(H1:aC)(ev1:Value),t.length-v=k0->v<=t.length->k0<k->LA H0 H1 pb rb q ev1 wv nv0->Ew H1 ev1 ((List.range v).map λi=>(t.getD i 0,((i+1:Nat):Int)))->New H0 ev1-> ∀(x0 x3 x5 x8 x9 bK bN bC aO aP aM aS bI aN bG bJ bL bH bE aT aU aV aW aX aY aZ bA bB bO bP bQ bR bS bT bU bV bX bY cD cG cH cK cQ cS cT cM cN cO cP cW cU cV cY dA dC dB dD dN dO dR dS dT dU dV dW dX eG eH eI eJ eK eL eM eN eO eP eQ eS:Value),
  ∃H' r,aI k (aK prog (lvl prog cF m) (aI m) Lj) (Ln (lvl prog cF m) (aI m)) [x0,tv,(.pointer (some ⟨pb,0,none⟩)),x3,(.pointer (some ⟨rb,0,none⟩)),x5,(.int .i64 (t.length+1:Nat)),(.int .i64 (v+1:Nat)),x8,x9,bK,bN,bC,aO,aP,aM,aS,bI,aN,bG,bJ,bL,bH,bE,aT,aU,aV,aW,aX,aY,aZ,bA,bB,bO,bP,bQ,bR,bS,bT,bU,bV,bX,bY,cD,cG,cH,cK,cQ,cS,cT,cM,cN,cO,cP,cW,cU,cV,cY,dA,dC,dB,dD,dN,dO,dR,dS,dT,dU,dV,dW,dX,eG,eH,eI,eJ,eK,eL,eM,eN,eO,eP,eQ,eS] H1=some (r,H')/\Fp H0 {q with next:=nS t} H' r:=by
 intro k0;have h5:t.length<=5:=by
  unfold jO at hr;rw[aO2] at hr;have:=of_decide_eq_true hr.2;omega
 induction k0 with
 |zero=>
  intro v k H1 ev1 hq hi hk hL he1 hen;intros;obtain⟨k,rfl⟩:=aB k (by omega)
  obtain rfl:v=t.length:=by omega
  have e:decide (((t.length+1:Nat):Int)<((t.length+1:Nat):Int))=false:=by simp
  have l8:=eU hL.blk 8 _ rfl;obtain⟨wv1,H2,H3,r1,r2,r3,r4,r5,r6,r7⟩:=aID (by':=8) (H0:=H0) jK pC (by decide) hL.blk (show 8<11 by omega) (Rw.lQ (el:=inC) (e:=3) (sz:=1)) (hw0.ext hL.ext) (New.nP _) hL.lp hL.ext (kM (n:=100000) (by decide) (by simp;omega))
  rw[List.nil_append] at r3;have hL3:LA H0 H3 pb rb q ev1 wv1 nv0:=⟨r5,r6,Mj r7 hL.res hL.ne,hL.ne,hL.lp,hL.lr⟩;have he3:=Rw.zP he1 r7 hL.blk (by decide)
  have st:=Bv (q':=q) (ev':=ev1) (wv':=wv1) (nv':= .slice none 0 0) (j:=10) (v:= .slice none 0 0) hL3.blk rfl rfl (by omega) rfl
  obtain⟨H4,hH4⟩: ∃H4,H4=H3.set pb (plB q ev1 wv1 (.slice none 0 0)):=⟨_,rfl⟩;rw[<-hH4] at st;have other: ∀b,b≠pb->H4[b]? =H3[b]? :=λb hb=>by rw[hH4];exact aOV (Ne.symm hb)
  have nrow: ∀(b:Nat)(cs:List Value)(e:TypeId),H3[b]? =some (.cells cs e .row)->b≠pb:=λb cs e hb hh=>by
   subst hh;rw[hL3.blk] at hb;simp[plB] at hb
  have hL4:LA H0 H4 pb rb q ev1 wv1 (.slice none 0 0):=⟨by rw[hH4];exact s5 r5 hL.lp,by rw[hH4];exact aO0 (aOU.mp hL3.blk).1,by rw[other rb hL.ne];exact hL3.res,hL.ne,hL.lp,hL.lr⟩
  have he4:Ew H4 ev1 (uY t):=he3.iD λb hb=>by
   obtain⟨cs,hc⟩:=he3.blk hb;exact other b (nrow b cs _ hc)
  have hw4:Iw H4 wv1 ws:=r3.iD λb hb=>by
   obtain⟨cs,hc⟩:=r3.blk hb;exact other b (nrow b cs _ hc)
  rw[dY,Wu];simp only[gsR,e];rw[aHk];simp only[gsR,l8,r1,r2,st];exact aIG hr hg ht hm hm2 hqe (by rw[hqw];omega) (t.length+1) 0 m H4 (.slice none 0 0) [] (by omega) (by omega) (by omega) hL4 (by rw[hqe];exact he4) (by rw[hqw];exact hw4) Rw.lQ (New.nP _) ⟨rfl,λj s xs h=>by simp at h⟩ ..
 |succ k0 ih=>
  intro v k H1 ev1 hq hi hk hL he1 hen;intros;obtain⟨k,rfl⟩:=aB k (by omega)
  have e:decide (((v+1:Nat):Int)<((t.length+1:Nat):Int))=true:=aPD (by omega)
  have e3:IntKind.i64.wrap (((v+1:Nat):Int)+1)=((v+1+1:Nat):Int):=by rw[dG (by omega) (by omega)];omega
  have e4:IntKind.i64.wrap (((v+1:Nat):Int)-1)=((v:Nat):Int):=by rw[dG (by omega) (by omega)];omega
  have l1:=eU hL.blk 1 _ rfl;obtain⟨x,hx⟩: ∃x,t[v]? =some x:=⟨_,aOW (by omega)⟩
  obtain⟨b,o,g1,_,g3⟩:=(ht.ext hL.ext).iG jK hx .i64;have g4:ld1 (.pointer (some ⟨b,o,none⟩)) H1=some (.int .i64 x,H1):=(g3 H1 rfl).2.1 0 _ rfl;have be:=bEd x ((v+1:Nat):Int);obtain⟨ev2,H2,H3,r1,r2,r3,r4,r5,r6,r7⟩:=Bq (by':=16) (H0:=H0) (b:=pb) (j:=1) sZ Kx (by decide) (x,((v+1:Nat):Int)) hL.blk (by show 1<11;omega) he1 hen hL.lp hL.ext (kM (n:=1000) (by decide) (by simp;omega))
  have hL3:LA H0 H3 pb rb q ev2 wv nv0:=⟨r5,r6,Mj r7 hL.res hL.ne,hL.ne,hL.lp,hL.lr⟩;rw[dY,Wu];simp only[gsR,e,l1,iM,e4,g1,g4,be,aHe,r1,r2,cC,e3];refine ih (v+1) k H3 ev2 (by omega) (by omega) (by omega) hL3 ?_ r4 ..
  rw[aPt,List.map_append];simp only[aPp,List.map_nil];rw[wJ hx];exact r3
theorem aIE (hp:PV H p ev wv nv)(hwl:p.weights.length<=1000)(ht:Is H tv t)(hr:jO t=true)(h1:1<=t.length)(hm:600<m)(hm2:m<=72057594037927936):
  ∃H' r,lvl prog cF m (.func 32) [plV p ev wv nv,tv] H=some (r,H')/\Fp H (qK p t) H' r:=by
 have hg:=Mk hr h1;have h5:t.length<=5:=by
  unfold jO at hr;rw[aO2] at hr;have:=of_decide_eq_true hr.2;omega
 obtain⟨Ha,hHa⟩: ∃Ha,Ha=H++[plB p ev wv nv]:=⟨_,rfl⟩;have xa:Ext H Ha:=by rw[hHa];exact Fr.app _ _ _
 have ba:Ha[H.length]? =some (plB p ev wv nv):=by rw[hHa];exact gZ _ _
 obtain⟨Hb,hHb⟩: ∃Hb,Hb=Ha++[plZ]:=⟨_,rfl⟩;have xb:Ext Ha Hb:=by rw[hHb];exact Fr.app _ _ _
 have bb:Hb[Ha.length]? =some plZ:=by rw[hHb];exact gZ _ _
 have xab:=xa.tr xb;have hra:=X0 (ht.ext xab) (m:=m-1) (by omega) (by omega)
 rw[hr] at hra;have hlen:=(ht.ext xab).gO;have d0:((t.length:Int)==0)=false:=by simp;exact λh=>by rw[h] at h1;simp at h1
 have e1:IntKind.i64.wrap ((t.length:Int)+1)=((t.length+1:Nat):Int):=by rw[dG (by omega) (by omega)];omega
 have bpl:=hZ ba xb;have s1:=Bv (q':={p with nodes:=((t.length+1:Nat):Int)}) (ev':=ev) (wv':=wv) (nv':=nv) (j:=0) (v:= .int .i64 (t.length+1:Nat)) bpl rfl rfl (by omega) rfl
 obtain⟨Hc,hHc⟩: ∃Hc,Hc=Hb.set H.length (plB {p with nodes:=((t.length+1:Nat):Int)} ev wv nv):=⟨_,rfl⟩;rw[<-hHc] at s1;have bc:Hc[H.length]? =some (plB {p with nodes:=((t.length+1:Nat):Int)} ev wv nv):=by rw[hHc];exact aO0 (aOU.mp bpl).1
 have s2:=Bv (q':=qK p t) (ev':= .slice none 0 0) (wv':=wv) (nv':=nv) (j:=1) (v:= .slice none 0 0) bc rfl rfl (by omega) rfl
 obtain⟨Hd,hHd⟩: ∃Hd,Hd=Hc.set H.length (plB (qK p t) (.slice none 0 0) wv nv):=⟨_,rfl⟩;rw[<-hHd] at s2;have bd:Hd[H.length]? =some (plB (qK p t) (.slice none 0 0) wv nv):=by rw[hHd];exact aO0 (aOU.mp bc).1
 have hne:Ha.length≠H.length:=by rw[hHa];simp
 have hL:LA H Hd H.length Ha.length (qK p t) (.slice none 0 0) wv nv:=by
  refine⟨?_,bd,?_,hne,aOZ _,xa.1⟩
  ·rw[hHd,hHc];exact s5 (s5 xab (aOZ _)) (aOZ _)
  ·rw[hHd,aOV (Ne.symm hne),hHc,aOV (Ne.symm hne)]
   exact bb
 refine jJ (iH rfl rfl) (by omega) ?_
 rw[aHn];simp only[gsR,lS,<-hHa,Bu,<-hHb,hra,hlen,d0,cC,e1,s1,s2];have:=aIF (q:=qK p t) (nv0:=nv) hr hg ht hp.w hwl (m:=m-1) (by omega) (by omega) rfl rfl t.length 0 (m-1) Hd (.slice none 0 0) (by omega) (by omega) (by omega) hL Rw.lQ (New.nP _)
 exact this ..
end
end Go.Proofs.YtkeilicinggjmaaGreatDoor
noncomputable section
namespace Go.Proofs.YtkeilicinggjmaaGreatDoor
open Go.Proofs.Tryz
open Go.Abs
variable (O:aE)(L:LV)(k:KV)(N P Q R S T U V W X Y Z a b c d e f g i j l m n o p q r s t u v w x y z A B C D E F G H I J zz zy zx zw zv zu zt zs zr zq zp zo zn zm zl zk zj zi zh zg zf ze zd zc zb za yz yy yx yw yv yu yt ys yr yq yp yo yn ym yl yk yj yi yh yg yf ye yd yc yb ya xz xy xx xw xv xu xt xs xr xq xp xo xn xm xl xk xj xi xh xg xf xe xd xc xb xa wz wy wx ww wv wu wt ws wr wq wp wo wn wm wl wk wj wi wh wg wf we wd wc wb wa vz vy vx vw vv vu vt vs vr vq vp vo vn vm vl vk vj vi vh vg vf ve vd vc vb va:Value)(h:aC)
def Ms:Code:=b9 [1,1,1,1,0,1,0,0,1,1,0,0,1,1,0,1,0,0] (cB prog 11)
def Mx:KV:=(dQ 2 (eD prog O L (b9 [1,1,1,1,0,1,0,0,1,1,0,0,1,1,1] (cB prog 11)) (dQ 1 (eD prog O L (b9 [1,1,1,1,0,1,0,0,1,1,1] (cB prog 11)) k))))
def Mu (O:aE)(L:LV) (k:KV) (a b c d e f g i j l m n o p q r s t u v w x y z A B C D E F G H I J zz zy zx zw zv zu zt zs zr zq zp zo zn zm zl zk zj zi zh zg zf ze zd zc zb za yz yy yx yw yv yu yt ys yr yq yp yo yn ym yl yk yj yi yh yg yf ye yd yc yb ya xz xy xx xw xv xu xt xs xr xq xp xo xn xm xl xk xj xi xh xg xf xe xd xc xb xa wz wy wx ww wv wu wt ws wr wq wp wo:Value) (h:aC):OV:=ob (M.aD (aQ f) h) λaa h=>ob (M.aD (aG 13 aa) h) λab h=>ob (ld1 ab h) λac h=>ifB (true) (ob (ldN 3 j h) λad h=>ifB (true) (ob (dL 94 3 1 [(.int .i64 0),(.slice none 0 0),(.pointer none)] [(0,ad)] h) λae h=>ob (app 94 3 40 ac ae h) λaf h=>ifB (true) (ob (M.aD (aQ f) h) λag h=>ob (M.aD (aG 13 ag) h) λah h=>ob (stN 1 ah af h) λai h=>ifB (true) (ob (M.aD (bin prog .add 3 zk (.int .i64 1)) h) λaj h=>k .normal [a,b,c,d,e,f,g,i,j,l,m,n,o,p,q,r,s,t,u,v,w,x,y,z,A,B,C,D,E,F,G,H,I,J,zz,zy,zx,zw,zv,zu,zt,zs,zr,zq,zp,zo,zn,zm,zl,aj,zj,zi,zh,zg,zf,ze,zd,zc,zb,za,yz,yy,yx,yw,yv,yu,yt,ys,yr,yq,yp,yo,yn,ym,yl,yk,yj,yi,yh,yg,yf,f,f,aa,ab,ac,ad,ae,af,ag,ah,aj,xt,xs,xr,xq,xp,xo,xn,xm,xl,xk,xj,xi,xh,xg,xf,xe,xd,xc,xb,xa,wz,wy,wx,ww,wv,wu,wt,ws,wr,wq,wp,wo] h))))
theorem aI4:Mx O L k (.exit 2) [a,b,c,d,e,f,g,i,j,l,m,n,o,p,q,r,s,t,u,v,w,x,y,z,A,B,C,D,E,F,G,H,I,J,zz,zy,zx,zw,zv,zu,zt,zs,zr,zq,zp,zo,zn,zm,zl,zk,zj,zi,zh,zg,zf,ze,zd,zc,zb,za,yz,yy,yx,yw,yv,yu,yt,ys,yr,yq,yp,yo,yn,ym,yl,yk,yj,yi,yh,yg,yf,ye,yd,yc,yb,ya,xz,xy,xx,xw,xv,xu,xt,xs,xr,xq,xp,xo,xn,xm,xl,xk,xj,xi,xh,xg,xf,xe,xd,xc,xb,xa,wz,wy,wx,ww,wv,wu,wt,ws,wr,wq,wp,wo] h=Mu O L k a b c d e f g i j l m n o p q r s t u v w x y z A B C D E F G H I J zz zy zx zw zv zu zt zs zr zq zp zo zn zm zl zk zj zi zh zg zf ze zd zc zb za yz yy yx yw yv yu yt ys yr yq yp yo yn ym yl yk yj yi yh yg yf ye yd yc yb ya xz xy xx xw xv xu xt xs xr xq xp xo xn xm xl xk xj xi xh xg xf xe xd xc xb xa wz wy wx ww wv wu wt ws wr wq wp wo h:=by kernel_rfl
theorem X7:aK prog O L Ms k [a,b,c,d,e,f,g,i,j,l,m,n,o,p,q,r,s,t,u,v,w,x,y,z,A,B,C,D,E,F,G,H,I,J,zz,zy,zx,zw,zv,zu,zt,zs,zr,zq,zp,zo,zn,zm,zl,zk,zj,zi,zh,zg,zf,ze,zd,zc,zb,za,yz,yy,yx,yw,yv,yu,yt,ys,yr,yq,yp,yo,yn,ym,yl,yk,yj,yi,yh,yg,yf,ye,yd,yc,yb,ya,xz,xy,xx,xw,xv,xu,xt,xs,xr,xq,xp,xo,xn,xm,xl,xk,xj,xi,xh,xg,xf,xe,xd,xc,xb,xa,wz,wy,wx,ww,wv,wu,wt,ws,wr,wq,wp,wo] h=ob (M.aD (bin prog .lss 3 yz za) h) λaa h74=>aL aa (ob (M.aD (aG 1 j) h74) λab h75=>ob (ld1 ab h75) λac h76=>ifB (true) (ob (M.aD (aG 9 c) h76) λad h77=>ob (ld1 ad h77) λae h78=>ifB (true) (ob (cI prog 23 55 ae h78) λaf h79=>ob (M.aD (aG 3 c) h79) λag h80=>ob (ld1 ag h80) λah h81=>ifB (true) (ob (O (.func 38) [af,ah] h81) λai h82=>ifB (chk ((ld1 ab) h82) ac&&(true)) (ob (M.aD (aG 9 c) h82) λaj h83=>ob (ld1 aj h83) λak h84=>ifB (chk ((ld1 aj) h81) ak&&(true)) (ob (cI prog 23 55 ak h84) λal h85=>ob (M.aD (aG 3 c) h85) λam h86=>ob (ld1 am h86) λan h87=>ifB (chk ((ld1 am) h81) an&&(true)) (ob (O (.func 39) [al,an] h87) λao h88=>ifB (chk ((ld1 ab) h88) ac&&(true)) (ob (M.aD (bld prog 100 [(0,ai),(1,ao)]) h88) λap h89=>ob (dL 100 2 1 [(.pointer none),(.pointer none)] [(0,ap)] h89) λaq h90=>ob (app 100 2 16 ac aq h90) λar h91=>ifB (true) (ob (M.aD (aG 1 j) h91) λau h92=>ob (stN 1 au ar h92) λav h93=>ifB (true) (ob (M.aD (bin prog .add 3 yz (.int .i64 1)) h93) λaw h94=>k .normal [a,b,c,d,e,f,g,i,j,l,m,n,o,p,q,r,s,t,u,v,w,x,y,z,A,B,C,D,E,F,G,H,I,J,zz,zy,zx,zw,zv,zu,zt,zs,zr,zq,zp,zo,zn,zm,zl,zk,zj,zi,zh,zg,zf,ze,zd,zc,zb,za,aw,aa,ab,ac,ad,ae,af,ag,ah,ai,aj,ak,al,am,an,ao,ap,aq,ar,au,aw,ye,yd,yc,yb,ya,xz,xy,xx,xw,xv,xu,xt,xs,xr,xq,xp,xo,xn,xm,xl,xk,xj,xi,xh,xg,xf,xe,xd,xc,xb,xa,wz,wy,wx,ww,wv,wu,wt,ws,wr,wq,wp,wo] h94)))))))))) (k (.exit 2) [a,b,c,d,e,f,g,i,j,l,m,n,o,p,q,r,s,t,u,v,w,x,y,z,A,B,C,D,E,F,G,H,I,J,zz,zy,zx,zw,zv,zu,zt,zs,zr,zq,zp,zo,zn,zm,zl,zk,zj,zi,zh,zg,zf,ze,zd,zc,zb,za,yz,aa,yx,yw,yv,yu,yt,ys,yr,yq,yp,yo,yn,ym,yl,yk,yj,yi,yh,yg,yf,ye,yd,yc,yb,ya,xz,xy,xx,xw,xv,xu,xt,xs,xr,xq,xp,xo,xn,xm,xl,xk,xj,xi,xh,xg,xf,xe,xd,xc,xb,xa,wz,wy,wx,ww,wv,wu,wt,ws,wr,wq,wp,wo] h74):=by kernel_rfl
def Mr:Code:=b9 [1,1,1,1,0,1,0,0] (cB prog 11)
def Mw:KV:=(dQ 0 (eD prog O L (b9 [1,1,1,1,1] (cB prog 11)) (fG prog Tryz.f11)))
def Mt (O:aE)(L:LV) (a b c d e f g i j l m n o p q r s t u v w x y z A B C D E F G H I J zz zy zx zw zv zu zt zs zr zq zp zo zn zm zl zk zj zi zh zg zf ze zd zc zb za yz yy yx yw yv yu yt ys yr yq yp yo yn ym yl yk yj yi yh yg yf ye yd yc yb ya xz xy xx xw xv xu xt xs xr xq xp xo xn xm xl xk xj xi xh xg xf xe xd xc xb xa wz wy wx ww wv wu wt ws wr wq wp wo:Value) (h:aC):OV:=ob (M.aD (aQ f) h) λaa h=>ob (M.aD (aG 13 aa) h) λab h=>ob (ld1 ab h) λac h=>ob (M.aD (bM ac) h) λad h=>ob (O (.func 40) [ad] h) λae h=>ob (M.aD (aQ f) h) λaf h=>ob (M.aD (aG 0 af) h) λag h=>ob (stN 1 ag ae h) λah h=>ob (M.aD (aQ f) h) λai h=>ob (M.aD (aG 13 ai) h) λaj h=>ob (ld1 aj h) λak h=>ifB (true) (ob (M.aD (bM ak) h) λal h=>ob (M.aD (aG 2 c) h) λam h=>ob (ld1 am h) λan h=>ifB (true) (ob (M.aD (aQ f) h) λao h=>ob (M.aD (aG 13 ao) h) λap h=>ob (ld1 ap h) λaq h=>ifB (true) (ob (M.aD (bM aq) h) λar h=>ob (M.aD (aG 2 c) h) λau h=>ob (ld1 au h) λav h=>ifB (true) (ob (M.aD (bin prog .mul 3 ar av) h) λaw h=>ob (M.aD (aG 3 c) h) λax h=>ob (ld1 ax h) λay h=>ifB (true) (ob (M.aD (bin prog .mul 3 aw ay) h) λaz h=>ob (O (.func 41) [al,an,az] h) λba h=>ifB (true) (ob (M.aD (aQ f) h) λbb h=>ob (M.aD (aG 15 bb) h) λbc h=>ob (stN 1 bc ba h) λbd h=>ifB (true) (some (aJ [f],h))))))))
theorem aI3:Mw O L (.exit 0) [a,b,c,d,e,f,g,i,j,l,m,n,o,p,q,r,s,t,u,v,w,x,y,z,A,B,C,D,E,F,G,H,I,J,zz,zy,zx,zw,zv,zu,zt,zs,zr,zq,zp,zo,zn,zm,zl,zk,zj,zi,zh,zg,zf,ze,zd,zc,zb,za,yz,yy,yx,yw,yv,yu,yt,ys,yr,yq,yp,yo,yn,ym,yl,yk,yj,yi,yh,yg,yf,ye,yd,yc,yb,ya,xz,xy,xx,xw,xv,xu,xt,xs,xr,xq,xp,xo,xn,xm,xl,xk,xj,xi,xh,xg,xf,xe,xd,xc,xb,xa,wz,wy,wx,ww,wv,wu,wt,ws,wr,wq,wp,wo] h=Mt O L a b c d e f g i j l m n o p q r s t u v w x y z A B C D E F G H I J zz zy zx zw zv zu zt zs zr zq zp zo zn zm zl zk zj zi zh zg zf ze zd zc zb za yz yy yx yw yv yu yt ys yr yq yp yo yn ym yl yk yj yi yh yg yf ye yd yc yb ya xz xy xx xw xv xu xt xs xr xq xp xo xn xm xl xk xj xi xh xg xf xe xd xc xb xa wz wy wx ww wv wu wt ws wr wq wp wo h:=by kernel_rfl
theorem X6:aK prog O L Mr k [a,b,c,d,e,f,g,i,j,l,m,n,o,p,q,r,s,t,u,v,w,x,y,z,A,B,C,D,E,F,G,H,I,J,zz,zy,zx,zw,zv,zu,zt,zs,zr,zq,zp,zo,zn,zm,zl,zk,zj,zi,zh,zg,zf,ze,zd,zc,zb,za,yz,yy,yx,yw,yv,yu,yt,ys,yr,yq,yp,yo,yn,ym,yl,yk,yj,yi,yh,yg,yf,ye,yd,yc,yb,ya,xz,xy,xx,xw,xv,xu,xt,xs,xr,xq,xp,xo,xn,xm,xl,xk,xj,xi,xh,xg,xf,xe,xd,xc,xb,xa,wz,wy,wx,ww,wv,wu,wt,ws,wr,wq,wp,wo] h=ob (M.aD (bin prog .lss 3 zk zl) h) λaa h=>aL aa (ob (M.aD (aR 1 zm zk) h) λab h=>ob (ld1 ab h) λac h=>ob (M.aD (aG 8 c) h) λad h=>ob (ld1 ad h) λae h=>ob (O (.func 36) [ae] h) λaf h=>ob (M.aD (bld prog 94 [(0,ac),(2,af)]) h) λag h=>ob (cX 94 [(.int .i64 0),(.slice none 0 0),(.pointer none)] .fix h) λah h=>ob (stN 3 ah ag h) λai h=>ob (M.aD (aG 2 c) h) λaj h=>ob (ld1 aj h) λak h=>L (aK prog O L Ms) (Mx O L k) [a,b,c,d,e,f,g,ac,ah,l,m,n,o,p,q,r,s,t,u,v,w,x,y,z,A,B,C,D,E,F,G,H,I,J,zz,zy,zx,zw,zv,zu,zt,zs,zr,zq,zp,zo,zn,zm,zl,zk,aa,ab,ac,ac,ad,ae,af,ag,aj,ak,(.int .i64 0),yy,yx,yw,yv,yu,yt,ys,yr,yq,yp,yo,yn,ym,yl,yk,yj,yi,yh,yg,yf,ye,yd,yc,yb,ya,xz,xy,xx,xw,xv,xu,xt,xs,xr,xq,xp,xo,xn,xm,xl,xk,xj,xi,xh,xg,xf,xe,xd,xc,xb,xa,wz,wy,wx,ww,wv,wu,wt,ws,wr,wq,wp,wo] h) (k (.exit 0) [a,b,c,d,e,f,g,i,j,l,m,n,o,p,q,r,s,t,u,v,w,x,y,z,A,B,C,D,E,F,G,H,I,J,zz,zy,zx,zw,zv,zu,zt,zs,zr,zq,zp,zo,zn,zm,zl,zk,aa,zi,zh,zg,zf,ze,zd,zc,zb,za,yz,yy,yx,yw,yv,yu,yt,ys,yr,yq,yp,yo,yn,ym,yl,yk,yj,yi,yh,yg,yf,ye,yd,yc,yb,ya,xz,xy,xx,xw,xv,xu,xt,xs,xr,xq,xp,xo,xn,xm,xl,xk,xj,xi,xh,xg,xf,xe,xd,xc,xb,xa,wz,wy,wx,ww,wv,wu,wt,ws,wr,wq,wp,wo] h):=by kernel_rfl
theorem X9:cE prog O L 11 [N,P] h=ob (cX 28 (Value.cells N).toList .fix h) λaa h=>ob (ldN 11 aa h) λab h=>ob (O (.func 34) [ab] h) λac h=>ob (M.aD (bin prog .neq 51 ac (.int .u16 0)) h) λad h=>ob (gd ad false (M.cA P) h) λae h=>ob (gd ad false (M.aD (bin prog .lss 3 ae (.int .i64 0))) h) λaf h=>ob (M.aD (cJ ad (.bool true) af) h) λag h=>ob (gd ag false (M.cA P) h) λah h=>ob (gd ag false (M.aD (aG 0 aa)) h) λai h=>ob (gd ag false (ld1 ai) h) λaj h=>ob (gd ag false (M.aD (bin prog .geq 3 ah aj)) h) λak h=>ob (M.aD (cJ ag (.bool true) ak) h) λal h=>aL al (some (aJ [(.pointer none)],h)) (ob (ldN 11 aa h) λam h=>ifB (true) (ob (M.aD (aG 2 aa) h) λan h=>ob (ld1 an h) λao h=>ifB (true) (ob (M.aD (aG 4 aa) h) λap h=>ob (ld1 ap h) λaq h=>ifB (true) (ob (O (.func 35) [ao,aq] h) λar h=>ifB (chk ((ldN 11 aa) h) am&&(true)) (ob (M.aD (bld prog 89 [(1,am),(2,P),(4,ar)]) h) λau h=>ob (cX 89 (Value.cells au).toList .fix h) λav h=>ob (M.aD (aQ av) h) λaw h=>ob (M.aD (aG 13 aw) h) λax h=>ob (ld1 ax h) λay h=>ifB (true) (ob (M.aD (aG 8 aa) h) λaz h=>ob (ld1 az h) λba h=>ifB (true) (ob (O (.func 36) [ba] h) λbb h=>ifB (chk ((ld1 ax) h) ay&&(true)) (ob (M.aD (bld prog 94 [(0,P),(2,bb)]) h) λbc h=>ob (dL 94 3 1 [(.int .i64 0),(.slice none 0 0),(.pointer none)] [(0,bc)] h) λbd h=>ob (app 94 3 40 ay bd h) λbe h=>ifB (true) (ob (M.aD (aQ av) h) λbf h=>ob (M.aD (aG 13 bf) h) λbg h=>ob (stN 1 bg be h) λbh h=>ifB (true) (ob (ldN 11 aa h) λbi h=>ob (O (.func 37) [bi,P] h) λbj h=>ob (M.aD (bM bj) h) λbk h=>L (aK prog O L Mr) (Mw O L) [N,P,aa,undef,(.pointer none),av,undef,undef,undef,ab,ac,ad,ad,ae,af,ag,ag,ah,ai,aj,ak,al,am,P,an,ao,ap,aq,ar,au,av,av,av,aw,ax,ay,P,az,ba,bb,bc,bd,be,bf,bg,bi,P,bj,bk,(.int .i64 0),undef,undef,undef,undef,undef,undef,undef,undef,undef,undef,undef,undef,undef,undef,undef,undef,undef,undef,undef,undef,undef,undef,undef,undef,undef,undef,undef,undef,undef,undef,undef,undef,undef,undef,undef,undef,undef,undef,undef,undef,undef,undef,undef,undef,undef,undef,undef,undef,undef,undef,undef,undef,undef,undef,undef,undef,undef,undef,undef,undef,undef,undef,undef,undef,undef,undef,undef,undef,undef,undef,undef,undef,undef,undef] h)))))))))):=by kernel_rfl
theorem Ye:cE prog O L 18 [N,P] h=ob (cX 54 (Value.cells P).toList .fix h) λaa h=>ob (M.aD (aG 0 aa) h) λab h=>ob (ld1 ab h) λac h=>ifB (true) (ob (M.aD (aQ N) h) λad h=>ob (M.aD (aG 12 ad) h) λae h=>ob (ld1 ae h) λaf h=>ifB (true) (ob (M.aD (bin prog .neq 3 ac af) h) λag h=>ob (gd ag false (M.aD (aG 1 aa)) h) λah h=>ob (gd ag false (ld1 ah) h) λai h=>ifB (true) (ob (gd ag false (M.aD (bin prog .lss 3 ai (.int .i64 0))) h) λaj h=>ob (M.aD (cJ ag (.bool true) aj) h) λak h=>ob (gd ak false (M.aD (aG 1 aa)) h) λal h=>ob (gd ak false (ld1 al) h) λam h=>ifB (true) (ob (gd ak false (M.cA N) h) λan h=>ob (gd ak false (M.aD (aQ an)) h) λao h=>ob (gd ak false (M.aD (aG 1 ao)) h) λap h=>ob (gd ak false (M.aD (aG 0 ap)) h) λaq h=>ob (gd ak false (ld1 aq) h) λar h=>ifB (true) (ob (gd ak false (M.aD (bin prog .geq 3 am ar)) h) λau h=>ob (M.aD (cJ ak (.bool true) au) h) λav h=>ob (gd av false (M.aD (aG 1 aa)) h) λaw h=>ob (gd av false (ld1 aw) h) λax h=>ifB (true) (ob (gd av false (M.cA N) h) λay h=>ob (gd av false (M.aD (aQ ay)) h) λaz h=>ob (gd av false (M.aD (aG 12 az)) h) λba h=>ob (gd av false (ld1 ba) h) λbb h=>ifB (true) (ob (gd av false (M.aD (bin prog .eql 3 ax bb)) h) λbc h=>ob (M.aD (cJ av (.bool true) bc) h) λbd h=>aL bd (some (aJ [(.int .u16 1)],h)) (ob (M.aD (aQ N) h) λbe h=>ob (M.aD (aG 14 be) h) λbf h=>ob (ld1 bf h) λbg h=>ifB (true) (ob (ldN 4 aa h) λbh h=>ifB (true) (ob (O (.func 63) [bg,bh] h) λbi h=>ifB (true) (some (aJ [bi],h)))))))))))):=by kernel_rfl
theorem aJu:cE prog O L 42 [N] h=ob (M.aD (aQ N) h) λaa h=>ob (M.aD (aG 14 aa) h) λab h=>ob (ld1 ab h) λac h=>some (aJ [ac],h):=by kernel_rfl
theorem aJe:cE prog O L 141 [N,P] h=ob (O (.func 118) [N,P] h) λaa h=>ob (M.aD (un prog .not aa) h) λab h=>aL ab (some (aJ [(.int .i64 0)],h)) (ob (M.aD (aQ N) h) λac h=>ob (M.aD (aG 0 ac) h) λad h=>ob (M.aD (qO 3 1 ad P) h) λae h=>ob (ld1 ae h) λaf h=>ob (M.aD (bM af) h) λag h=>some (aJ [ag],h)):=by kernel_rfl
def M0:Code:=b9 [1,1,1,1,0,1,0,0] (cB prog 13)
def M1:KV:=(dQ 0 (eD prog O L (b9 [1,1,1,1,1] (cB prog 13)) (fG prog Tryz.f13)))
def Ft (O:aE)(L:LV) (a b c d e f g i j l m n o p q r s t u v w x y z A B C D E F G H I J zz zy zx zw zv zu zt zs zr zq zp zo zn zm zl zk zj zi zh zg zf ze zd zc:Value) (h:aC):OV:=ob (ld1 b h) λaa h=>ob (M.aD (aQ aa) h) λab h=>ob (M.aD (aG 16 ab) h) λac h=>ob (ld1 ac h) λad h=>ob (M.aD (bin prog .add 3 ad (.int .i64 1)) h) λae h=>ob (M.aD (aQ aa) h) λaf h=>ob (M.aD (aG 16 af) h) λag h=>ob (stN 1 ag ae h) λah h=>ob (ld1 b h) λai h=>ifB (true) (ob (M.aD (aQ ai) h) λaj h=>ob (M.aD (aG 16 aj) h) λak h=>ob (ld1 ak h) λal h=>ifB (true) (ob (ld1 b h) λam h=>ifB (true) (ob (M.aD (aQ am) h) λan h=>ob (M.aD (aG 1 an) h) λao h=>ob (M.aD (aG 6 ao) h) λap h=>ob (ld1 ap h) λaq h=>ifB (true) (ob (M.aD (bin prog .rem 3 al aq) h) λar h=>ob (M.aD (bin prog .eql 3 ar (.int .i64 0)) h) λau h=>aL au (ob (ld1 b h) λav h=>ob (O (.func 53) [av,e] h) λaw h=>ob (ld1 d h) λax h=>some (aJ [ax],h)) (ob (ld1 d h) λay h=>some (aJ [ay],h))))))
theorem aJa:M1 O L (.exit 0) [a,b,c,d,e,f,g,i,j,l,m,n,o,p,q,r,s,t,u,v,w,x,y,z,A,B,C,D,E,F,G,H,I,J,zz,zy,zx,zw,zv,zu,zt,zs,zr,zq,zp,zo,zn,zm,zl,zk,zj,zi,zh,zg,zf,ze,zd,zc] h=Ft O L a b c d e f g i j l m n o p q r s t u v w x y z A B C D E F G H I J zz zy zx zw zv zu zt zs zr zq zp zo zn zm zl zk zj zi zh zg zf ze zd zc h:=by kernel_rfl
theorem Yb:aK prog O L M0 k [a,b,c,d,e,f,g,i,j,l,m,n,o,p,q,r,s,t,u,v,w,x,y,z,A,B,C,D,E,F,G,H,I,J,zz,zy,zx,zw,zv,zu,zt,zs,zr,zq,zp,zo,zn,zm,zl,zk,zj,zi,zh,zg,zf,ze,zd,zc] h=ob (M.aD (bin prog .lss 3 z y) h) λaa h=>aL aa (ob (M.aD (aR 1 x z) h) λab h=>ob (ld1 ab h) λac h=>ob (M.aD (bin prog .geq 3 ac (.int .i64 0)) h) λad h=>aL ad (ob (ld1 b h) λae h=>ob (O (.func 52) [ae,z,ac,e] h) λaf h=>ob (M.aD (bin prog .add 3 z (.int .i64 1)) h) λag h=>k .normal [a,b,c,d,e,z,ac,i,j,l,m,n,o,p,q,r,s,t,u,v,w,x,y,ag,aa,z,ab,ac,ac,ad,ae,z,ac,e,af,ag,zx,zw,zv,zu,zt,zs,zr,zq,zp,zo,zn,zm,zl,zk,zj,zi,zh,zg,zf,ze,zd,zc] h) (ob (M.aD (bin prog .add 3 z (.int .i64 1)) h) λah h=>k .normal [a,b,c,d,e,z,ac,i,j,l,m,n,o,p,q,r,s,t,u,v,w,x,y,ah,aa,z,ab,ac,ac,ad,G,H,I,J,zz,ah,zx,zw,zv,zu,zt,zs,zr,zq,zp,zo,zn,zm,zl,zk,zj,zi,zh,zg,zf,ze,zd,zc] h)) (k (.exit 0) [a,b,c,d,e,f,g,i,j,l,m,n,o,p,q,r,s,t,u,v,w,x,y,z,aa,B,C,D,E,F,G,H,I,J,zz,zy,zx,zw,zv,zu,zt,zs,zr,zq,zp,zo,zn,zm,zl,zk,zj,zi,zh,zg,zf,ze,zd,zc] h):=by kernel_rfl
theorem aJb:cE prog O L 13 [N] h=ob (cX 30 (Value.cells N).toList .fix h) λaa h0=>ob (cX 35 [(.slice none 0 0)] .fix h0) λab h1=>ob (ld1 aa h1) λac h2=>ob (O (.func 49) [ac] h2) λad h3=>ob (ld1 aa h3) λae h4=>ifB (true) (ob (M.aD (aQ ae) h4) λaf h5=>ob (M.aD (aG 0 af) h5) λag h6=>ob (ld1 ag h6) λah h7=>ifB (true) (ob (ld1 aa h7) λai h8=>ifB (true) (ob (O (.func 51) [ai] h8) λaj h9=>ifB (chk ((ld1 ag) h9) ah&&(chk ((ld1 aa) h9) ae&&(true))) (ob (ld1 aa h9) λak h10=>ifB (chk ((ld1 aa) h8) ak&&(true)) (ob (M.aD (aQ ak) h10) λal h11=>ob (M.aD (aG 1 al) h11) λam h12=>ob (M.aD (aG 5 am) h12) λan h13=>ob (ld1 an h13) λao h14=>ifB (chk ((ld1 an) h8) ao&&(true)) (ob (O (.func 50) [ah,aj,ao] h14) λap h15=>ifB (true) (ob (M.aD (bM ap) h15) λaq h16=>L (aK prog O L M0) (M1 O L) [N,aa,(.slice none 0 0),ab,(.func (.func 47) #[] #[ab,aa]),undef,undef,(.func (.func 47) #[] #[ab,aa]),ac,ad,ae,af,ag,ah,ai,aj,ak,al,am,an,ao,ap,aq,(.int .i64 0),undef,undef,undef,undef,undef,undef,undef,undef,undef,undef,undef,undef,undef,undef,undef,undef,undef,undef,undef,undef,undef,undef,undef,undef,undef,undef,undef,undef,undef,undef,undef,undef,undef,undef] h16))))))):=by kernel_rfl
theorem Yf:cE prog O L 19 [N,P,Q] h=ob (O (.func 64) [N,P,Q] h) λaa h=>ob (M.aD (ext 0 aa) h) λab h=>ob (M.aD (ext 1 aa) h) λac h=>ob (cX 100 [(.pointer none),(.pointer none)] .fix h) λad h=>ob (stN 2 ad ab h) λae h=>ob (M.aD (aG 0 ad) h) λaf h=>ob (ld1 af h) λag h=>some (aJ [ag],h):=by kernel_rfl
theorem aJp:cE prog O L 20 [N] h=ob (M.aD (aQ N) h) λaa h=>ob (M.aD (aG 0 aa) h) λab h=>ob (M.aD (aG 0 ab) h) λac h=>ob (ld1 ac h) λad h=>some (aJ [ad],h):=by kernel_rfl
theorem zT:cE prog O L 45 [N,P,Q] h=ob (cX 3 (Value.cells P).toList .fix h) λaa h=>ob (M.aD (aQ N) h) λab h=>ob (M.aD (aG 13 ab) h) λac h=>ob (ld1 ac h) λad h=>ob (slc prog 3 ad (some (.int .i64 1)) none none h) λae h=>ob (O (.func 85) [ae,(.func (.func 86) #[] #[aa])] h) λaf h=>ob (M.aD (bin prog .add 3 af (.int .i64 1)) h) λag h=>ob (M.aD (bin prog .eql 3 ag (.int .i64 0)) h) λah h=>aL ah (some (aJ [(.int .u16 1)],h)) (ob (O (.func 87) [Q] h) λai h=>ob (M.aD (ext 0 ai) h) λaj h=>ob (M.aD (ext 1 ai) h) λak h=>ob (cX 39 [(.int .u8 0),(.int .u8 0),(.int .u16 0),(.int .u8 0),(.int .u8 0),(.int .u32 0)] .fix h) λal h=>ob (stN 6 al aj h) λam h=>ob (M.aD (bin prog .neq 51 ak (.int .u16 0)) h) λan h=>aL an (some (aJ [ak],h)) (ob (M.aD (aG 1 al) h) λao h=>ob (ld1 ao h) λap h=>ob (cI prog 5 3 ap h) λaq h=>ob (O (.func 64) [N,ag,aq] h) λar h=>ob (M.aD (ext 0 ar) h) λau h=>ob (M.aD (ext 1 ar) h) λav h=>ob (cX 100 [(.pointer none),(.pointer none)] .fix h) λaw h=>ob (stN 2 aw au h) λax h=>ob (M.aD (un prog .not av) h) λay h=>aL ay (some (aJ [(.int .u16 30)],h)) (ob (M.aD (aG 0 al) h) λaz h=>ob (ld1 az h) λba h=>ob (M.aD (bin prog .eql 5 ba (.int .u8 2)) h) λbb h=>aL bb (ob (M.aD (aG 0 aw) h) λbc h=>ob (ld1 bc h) λbd h=>ob (M.aD (aG 2 al) h) λbe h=>ob (ld1 be h) λbf h=>ob (O (.func 88) [bd,bf] h) λbg h=>some (aJ [(.int .u16 0)],h)) (ob (M.aD (aG 0 al) h) λbh h=>ob (ld1 bh h) λbi h=>ob (M.aD (bin prog .eql 5 bi (.int .u8 3)) h) λbj h=>aL bj (ob (M.aD (aG 1 aw) h) λbk h=>ob (ld1 bk h) λbl h=>ob (M.aD (aG 2 al) h) λbm h=>ob (ld1 bm h) λbn h=>ob (O (.func 89) [bl,bn] h) λbo h=>some (aJ [(.int .u16 0)],h)) (ob (ldN 2 aw h) λbp h=>ob (ldN 6 al h) λbq h=>ob (O (.func 90) [N,ag,bp,bq] h) λbr h=>some (aJ [br],h)))))):=by kernel_rfl
theorem aJi:cE prog O L 149 [N] h=ob (M.aD (aQ N) h) λaa h=>ob (M.aD (aG 0 aa) h) λab h=>ob (ldN 2 ab h) λac h=>ob (O (.func 153) [ac] h) λad h=>some (aJ [ad],h):=by kernel_rfl
theorem aJx:cE prog O L 46 [N] h=ob (M.aD (aQ N) h) λaa h=>ob (M.aD (aG 3 aa) h) λab h=>ob (ld1 ab h) λac h=>ob (O (.func 91) [ac] h) λad h=>some (aJ [ad],h):=by kernel_rfl
theorem aJw:cE prog O L 44 [N,P,Q] h=ob (O (.func 64) [N,P,Q] h) λaa h=>ob (M.aD (ext 0 aa) h) λab h=>ob (M.aD (ext 1 aa) h) λac h=>ob (cX 100 [(.pointer none),(.pointer none)] .fix h) λad h=>ob (stN 2 ad ab h) λae h=>ob (M.aD (aG 1 ad) h) λaf h=>ob (ld1 af h) λag h=>some (aJ [ag],h):=by kernel_rfl
theorem aJq:cE prog O L 35 [N,P] h=ob (M.aD (bin prog .lss 3 N (.int .i64 1)) h) λaa h=>ob (gd aa false (M.cA N) h) λab h=>ob (gd aa false (M.aD (bin prog .gtr 3 ab (.int .i64 3))) h) λac h=>ob (M.aD (cJ aa (.bool true) ac) h) λad h=>ob (gd ad false (M.cA P) h) λae h=>ob (gd ad false (M.aD (bin prog .lss 3 ae (.int .i64 1))) h) λaf h=>ob (M.aD (cJ ad (.bool true) af) h) λag h=>ob (gd ag false (M.cA P) h) λah h=>ob (gd ag false (M.aD (bin prog .gtr 3 ah (.int .i64 8))) h) λai h=>ob (M.aD (cJ ag (.bool true) ai) h) λaj h=>aL aj (some (aJ [(.pointer none)],h)) (ob (M.aD (bld prog 167 [(2,N),(3,P)]) h) λak h=>ob (cX 167 (Value.cells ak).toList .fix h) λal h=>some (aJ [al],h)):=by kernel_rfl
theorem aJr:cE prog O L 38 [N,P] h=ob (M.aD (bin prog .geq 55 N (.int .u64 4611686018427387904)) h) λaa h=>ob (gd aa false (M.cA P) h) λab h=>ob (gd aa false (M.aD (bin prog .lss 3 ab (.int .i64 1))) h) λac h=>ob (M.aD (cJ aa (.bool true) ac) h) λad h=>ob (gd ad false (M.cA P) h) λae h=>ob (gd ad false (M.aD (bin prog .gtr 3 ae (.int .i64 8))) h) λaf h=>ob (M.aD (cJ ad (.bool true) af) h) λag h=>aL ag (some (aJ [(.pointer none)],h)) (ob (cI prog 3 55 P h) λah h=>ob (M.aD (bin prog .add 55 N ah) h) λai h=>ob (M.aD (bld prog 141 [(0,N),(1,ai)]) h) λaj h=>ob (M.aD (bld prog 143 [(0,aj)]) h) λak h=>ob (cX 143 (Value.cells ak).toList .fix h) λal h=>some (aJ [al],h)):=by kernel_rfl
theorem aJs:cE prog O L 39 [N,P] h=ob (M.aD (bin prog .geq 55 N (.int .u64 4611686018427387904)) h) λaa h=>ob (gd aa false (M.cA P) h) λab h=>ob (gd aa false (M.aD (bin prog .lss 3 ab (.int .i64 1))) h) λac h=>ob (M.aD (cJ aa (.bool true) ac) h) λad h=>ob (gd ad false (M.cA P) h) λae h=>ob (gd ad false (M.aD (bin prog .gtr 3 ae (.int .i64 8))) h) λaf h=>ob (M.aD (cJ ad (.bool true) af) h) λag h=>aL ag (some (aJ [(.pointer none)],h)) (ob (M.aD (bld prog 174 [(0,N),(2,P)]) h) λah h=>ob (cX 174 (Value.cells ah).toList .fix h) λai h=>some (aJ [ai],h)):=by kernel_rfl
theorem aJt:cE prog O L 40 [N] h=ob (M.aD (bin prog .lss 3 N (.int .i64 1)) h) λaa h=>ob (gd aa false (M.cA N) h) λab h=>ob (gd aa false (M.aD (bin prog .gtr 3 ab (.int .i64 16))) h) λac h=>ob (M.aD (cJ aa (.bool true) ac) h) λad h=>aL ad (some (aJ [(.pointer none)],h)) (ob (lO 3 1 8 [(.int .i64 0)] N N h) λae h=>ob (lO 3 1 8 [(.int .i64 0)] N N h) λaf h=>ob (M.aD (bld prog 176 [(0,ae),(1,af)]) h) λag h=>ob (cX 176 (Value.cells ag).toList .fix h) λah h=>some (aJ [ah],h)):=by kernel_rfl
theorem aJv:cE prog O L 43 [N] h=ob (M.aD (aQ N) h) λaa h=>ob (M.aD (aG 15 aa) h) λab h=>ob (ld1 ab h) λac h=>some (aJ [ac],h):=by kernel_rfl
theorem Ns:cE prog O L 63 [N,P] h=ob (cX 54 (Value.cells P).toList .fix h) λaa h=>ob (M.aD (aG 2 aa) h) λab h=>ob (ld1 ab h) λac h=>ob (O (.func 118) [N,ac] h) λad h=>ob (M.aD (un prog .not ad) h) λae h=>aL ae (some (aJ [(.int .u16 1)],h)) (ob (M.aD (aG 2 aa) h) λaf h=>ob (ld1 af h) λag h=>ifB (true) (ob (M.aD (aQ N) h) λah h=>ob (M.aD (aG 0 ah) h) λai h=>ob (M.aD (qO 3 1 ai ag) h) λaj h=>ob (ld1 aj h) λak h=>ifB (true) (ob (M.aD (bM ak) h) λal h=>ob (M.aD (aQ N) h) λam h=>ob (M.aD (aG 5 am) h) λan h=>ob (ld1 an h) λao h=>ifB (true) (ob (M.aD (bin prog .eql 3 al ao) h) λap h=>aL ap (some (aJ [(.int .u16 150)],h)) (ob (M.aD (aG 2 aa) h) λaq h=>ob (ld1 aq h) λar h=>ifB (true) (ob (M.aD (aG 2 aa) h) λau h=>ob (ld1 au h) λav h=>ifB (true) (ob (M.aD (aQ N) h) λaw h=>ob (M.aD (aG 0 aw) h) λax h=>ob (M.aD (qO 3 1 ax av) h) λay h=>ob (ld1 ay h) λaz h=>ifB (true) (ob (ldN 4 aa h) λba h=>ifB (true) (ob (dL 54 4 1 [(.int .i64 0),(.int .i64 0),(.int .i64 0),(.int .u32 0)] [(0,ba)] h) λbb h=>ob (app 54 4 32 az bb h) λbc h=>ifB (chk ((ld1 aq) h) ar&&(true)) (ob (M.aD (aQ N) h) λbd h=>ob (M.aD (aG 0 bd) h) λbe h=>ob (M.aD (qO 3 1 be ar) h) λbf h=>ob (stN 1 bf bc h) λbg h=>ifB (true) (some (aJ [(.int .u16 0)],h)))))))))))):=by kernel_rfl
theorem aI2:cE prog O L 118 [N,P] h=ob (M.aD (bin prog .geq 3 P (.int .i64 0)) h) λaa h=>ob (gd aa true (M.cA P) h) λab h=>ob (gd aa true (M.cA N) h) λac h=>ob (gd aa true (M.aD (aQ ac)) h) λad h=>ob (gd aa true (M.aD (aG 4 ad)) h) λae h=>ob (gd aa true (ld1 ae) h) λaf h=>ob (gd aa true (M.aD (bin prog .lss 3 ab af)) h) λag h=>ob (M.aD (cJ aa ag (.bool false)) h) λah h=>some (aJ [ah],h):=by kernel_rfl
theorem aJy:cE prog O L 47 [N,P,Q,R] h=ob (cX 39 (Value.cells P).toList .fix h) λaa h=>ob (ldN 6 aa h) λab h=>ob (O (.func 48) [ab] h) λac h=>ob (M.aD (ext 0 ac) h) λad h=>ob (M.aD (ext 1 ac) h) λae h=>ob (ld1 Q h) λaf h=>ifB (true) (ob (ld1 R h) λag h=>ifB (true) (ob (M.aD (aQ ag) h) λah h=>ob (M.aD (aG 13 ah) h) λai h=>ob (ld1 ai h) λaj h=>ifB (true) (ob (M.aD (aR 3 aj N) h) λak h=>ob (M.aD (aG 0 ak) h) λal h=>ob (ld1 al h) λam h=>ifB (true) (ob (M.aD (bld prog 43 [(0,am),(1,ad)]) h) λan h=>ob (dL 43 2 1 [(.int .i64 0),(.slice none 0 0)] [(0,an)] h) λao h=>ob (app 43 2 32 af ao h) λap h=>ifB (true) (ob (stN 1 Q ap h) λaq h=>ifB (true) (some (aJ [],h))))))):=by kernel_rfl
theorem aJz:cE prog O L 48 [N] h=ob (cX 39 (Value.cells N).toList .fix h) λaa h0=>ob (ldN 6 aa h0) λab h1=>ob (O (.func 92) [ab] h1) λac h2=>ob (M.aD (un prog .not ac) h2) λad h3=>aL ad (some (aJ [(.slice none 0 0),(.int .u16 1)],h3)) (ob (M.aD (aG 0 aa) h3) λae h4=>ob (ld1 ae h4) λaf h5=>ob (M.aD (aG 1 aa) h5) λag h6=>ob (ld1 ag h6) λah h7=>ob (dL 5 1 2 [(.int .u8 0)] [(0,af),(1,ah)] h7) λai h8=>ob (M.aD (aG 2 aa) h8) λaj h9=>ob (ld1 aj h9) λak h10=>ob (O (.func 93) [ai,ak] h10) λal h11=>ob (M.aD (aG 0 aa) h11) λam h12=>ob (ld1 am h12) λan h13=>ob (M.aD (bin prog .eql 5 an (.int .u8 1)) h13) λao h14=>aL ao (ob (M.aD (aG 3 aa) h14) λap h15=>ob (ld1 ap h15) λaq h16=>ifB (true) (ob (M.aD (aG 4 aa) h16) λar h17=>ob (ld1 ar h17) λau h18=>ifB (true) (ob (dL 5 1 2 [(.int .u8 0)] [(0,aq),(1,au)] h18) λav h19=>ob (app 5 1 1 al av h19) λaw h20=>ifB (true) (ob (M.aD (aG 5 aa) h20) λax h21=>ob (ld1 ax h21) λay h22=>ifB (chk ((ld1 ax) h19) ay&&(true)) (ob (O (.func 94) [aw,ay] h22) λaz h23=>ifB (true) (ob (O (.func 95) [az] h23) λba h24=>ob (O (.func 93) [az,ba] h24) λbb h25=>some (aJ [bb,(.int .u16 0)],h25))))))) (ob (O (.func 95) [al] h14) λbc h26=>ob (O (.func 93) [al,bc] h26) λbd h27=>some (aJ [bd,(.int .u16 0)],h27))):=by kernel_rfl
def M7:Code:=b9 [1,0,0,1,1,0,0,1,1,0,1,0,0] (cB prog 49)
def M9:KV:=(dQ 2 (eD prog O L (b9 [1,0,0,1,1,0,0,1,1,1] (cB prog 49)) (dQ 1 (eD prog O L (b9 [1,0,0,1,1,1] (cB prog 49)) k))))
def Fu (O:aE)(L:LV) (k:KV) (a b c d e f g i j l m n o p q r s t u v w x y z A B C D E F G H I J zz zy zx zw zv zu zt zs zr zq zp zo zn zm zl zk zj zi zh zg zf ze zd zc zb za yz yy:Value) (h:aC):OV:=ob (M.aD (aQ a) h) λaa h16=>ob (M.aD (aG 1 aa) h16) λab h17=>ob (M.aD (aG 3 ab) h17) λac h18=>ob (ld1 ac h18) λad h19=>ob (M.aD (bin prog .geq 3 d ad) h19) λae h20=>aL ae (ob (M.aD (bin prog .add 3 o (.int .i64 1)) h20) λaf h21=>k .normal [a,b,c,d,e,f,g,i,j,l,m,n,af,p,q,r,s,t,u,v,w,x,y,z,A,B,C,D,E,F,G,H,I,d,a,aa,ab,ac,ad,ae,zt,zs,zr,zq,zp,zo,zn,zm,zl,zk,zj,zi,zh,zg,zf,ze,zd,zc,zb,za,yz,af] h21) (ob (M.aD (aQ a) h20) λag h22=>ob (M.aD (aG 14 ag) h22) λah h23=>ob (ld1 ah h23) λai h24=>ob (O (.func 97) [ai,c] h24) λaj h25=>ob (M.aD (ext 0 aj) h25) λak h26=>ob (M.aD (ext 1 aj) h26) λal h27=>ob (cX 54 [(.int .i64 0),(.int .i64 0),(.int .i64 0),(.int .u32 0)] .fix h27) λam h28=>ob (stN 4 am ak h28) λan h29=>aL al (ob (M.aD (aQ a) h29) λao h30=>ob (M.aD (aG 15 ao) h30) λap h31=>ob (ld1 ap h31) λaq h32=>ifB (true) (ob (M.aD (aG 1 am) h32) λar h33=>ob (ld1 ar h33) λau h34=>ifB (true) (ob (O (.func 99) [a,au] h34) λav h35=>ifB (chk ((ld1 ap) h35) aq&&(true)) (ob (ldN 4 am h35) λaw h36=>ifB (chk ((ldN 4 am) h34) aw&&(true)) (ob (O (.func 98) [aq,(.int .i64 0),av,c,aw] h36) λax h37=>ifB (true) (ob (M.aD (bin prog .add 3 o (.int .i64 1)) h37) λay h38=>k .normal [a,b,c,d,e,am,al,i,j,l,m,n,ay,p,q,r,s,t,u,v,w,x,y,z,A,B,C,D,E,F,G,H,I,d,a,aa,ab,ac,ad,ae,aj,a,ag,ah,ai,c,aj,ak,al,al,a,ao,ap,aq,a,ar,au,av,c,aw,ax,ay] h38)))))) (ob (M.aD (bin prog .add 3 o (.int .i64 1)) h29) λaz h39=>k .normal [a,b,c,d,e,am,al,i,j,l,m,n,az,p,q,r,s,t,u,v,w,x,y,z,A,B,C,D,E,F,G,H,I,d,a,aa,ab,ac,ad,ae,aj,a,ag,ah,ai,c,aj,ak,al,al,zj,zi,zh,zg,zf,ze,zd,zc,zb,za,yz,az] h39))
theorem aJB:M9 O L k (.exit 2) [a,b,c,d,e,f,g,i,j,l,m,n,o,p,q,r,s,t,u,v,w,x,y,z,A,B,C,D,E,F,G,H,I,J,zz,zy,zx,zw,zv,zu,zt,zs,zr,zq,zp,zo,zn,zm,zl,zk,zj,zi,zh,zg,zf,ze,zd,zc,zb,za,yz,yy] h=Fu O L k a b c d e f g i j l m n o p q r s t u v w x y z A B C D E F G H I J zz zy zx zw zv zu zt zs zr zq zp zo zn zm zl zk zj zi zh zg zf ze zd zc zb za yz yy h:=by kernel_rfl
theorem Yh:aK prog O L M7 k [a,b,c,d,e,f,g,i,j,l,m,n,o,p,q,r,s,t,u,v,w,x,y,z,A,B,C,D,E,F,G,H,I,J,zz,zy,zx,zw,zv,zu,zt,zs,zr,zq,zp,zo,zn,zm,zl,zk,zj,zi,zh,zg,zf,ze,zd,zc,zb,za,yz,yy] h=ob (M.aD (bin prog .lss 3 w v) h) λaa h=>aL aa (ob (M.aD (aQ a) h) λab h=>ob (M.aD (aG 15 ab) h) λac h=>ob (ld1 ac h) λad h=>ob (O (.func 96) [ad,(.int .i64 0),w,c] h) λae h=>ob (M.aD (bin prog .add 3 d ae) h) λaf h=>ob (M.aD (bin prog .add 3 w (.int .i64 1)) h) λag h=>k .normal [a,b,c,af,w,f,g,i,j,l,m,n,o,p,q,r,s,t,u,v,ag,aa,w,d,a,ab,ac,ad,w,c,ae,af,ag,J,zz,zy,zx,zw,zv,zu,zt,zs,zr,zq,zp,zo,zn,zm,zl,zk,zj,zi,zh,zg,zf,ze,zd,zc,zb,za,yz,yy] h) (k (.exit 2) [a,b,c,d,e,f,g,i,j,l,m,n,o,p,q,r,s,t,u,v,w,aa,y,z,A,B,C,D,E,F,G,H,I,J,zz,zy,zx,zw,zv,zu,zt,zs,zr,zq,zp,zo,zn,zm,zl,zk,zj,zi,zh,zg,zf,ze,zd,zc,zb,za,yz,yy] h):=by kernel_rfl
def M6:Code:=b9 [1,0,0] (cB prog 49)
def M8 (O:aE)(L:LV):KV:=(dQ 0 (fG prog Tryz.f49))
theorem aJA:M8 O L (.exit 0) [a,b,c,d,e,f,g,i,j,l,m,n,o,p,q,r,s,t,u,v,w,x,y,z,A,B,C,D,E,F,G,H,I,J,zz,zy,zx,zw,zv,zu,zt,zs,zr,zq,zp,zo,zn,zm,zl,zk,zj,zi,zh,zg,zf,ze,zd,zc,zb,za,yz,yy] h=some (aJ [],h):=by kernel_rfl
theorem Yg:aK prog O L M6 k [a,b,c,d,e,f,g,i,j,l,m,n,o,p,q,r,s,t,u,v,w,x,y,z,A,B,C,D,E,F,G,H,I,J,zz,zy,zx,zw,zv,zu,zt,zs,zr,zq,zp,zo,zn,zm,zl,zk,zj,zi,zh,zg,zf,ze,zd,zc,zb,za,yz,yy] h=ob (M.aD (bin prog .lss 3 o n) h) λaa h=>aL aa (ob (M.aD (aQ a) h) λab h=>ob (M.aD (aG 13 ab) h) λac h=>ob (ld1 ac h) λad h=>ob (M.aD (bM ad) h) λae h=>L (aK prog O L M7) (M9 O L k) [a,b,o,(.int .i64 0),e,f,g,i,j,l,m,n,o,aa,o,a,ab,ac,ad,ae,(.int .i64 0),x,y,z,A,B,C,D,E,F,G,H,I,J,zz,zy,zx,zw,zv,zu,zt,zs,zr,zq,zp,zo,zn,zm,zl,zk,zj,zi,zh,zg,zf,ze,zd,zc,zb,za,yz,yy] h) (k (.exit 0) [a,b,c,d,e,f,g,i,j,l,m,n,o,aa,q,r,s,t,u,v,w,x,y,z,A,B,C,D,E,F,G,H,I,J,zz,zy,zx,zw,zv,zu,zt,zs,zr,zq,zp,zo,zn,zm,zl,zk,zj,zi,zh,zg,zf,ze,zd,zc,zb,za,yz,yy] h):=by kernel_rfl
theorem aJC:cE prog O L 49 [N] h=ob (M.aD (aQ N) h) λaa h=>ob (M.aD (aG 1 aa) h) λab h=>ob (M.aD (aG 2 ab) h) λac h=>ob (ld1 ac h) λad h=>L (aK prog O L M6) (M8 O L) [N,undef,undef,undef,undef,undef,undef,N,aa,ab,ac,ad,(.int .i64 0),undef,undef,undef,undef,undef,undef,undef,undef,undef,undef,undef,undef,undef,undef,undef,undef,undef,undef,undef,undef,undef,undef,undef,undef,undef,undef,undef,undef,undef,undef,undef,undef,undef,undef,undef,undef,undef,undef,undef,undef,undef,undef,undef,undef,undef,undef,undef,undef,undef] h:=by kernel_rfl
def Nb:Code:=b9 [1,0,1,1,1,1,1,1,0,1,0,0,1,1,0,0,1,1,0,1,0,0] (cB prog 50)
def Ng:KV:=(dQ 2 (eD prog O L (b9 [1,0,1,1,1,1,1,1,0,1,0,0,1,1,0,0,1,1,1] (cB prog 50)) (dQ 1 (eD prog O L (b9 [1,0,1,1,1,1,1,1,0,1,0,0,1,1,1] (cB prog 50)) k))))
def Nd (O:aE)(L:LV) (k:KV) (a b c d e f g i j l m n o p q r s t u v w x y z A B C D E F G H I J zz zy zx zw zv zu zt zs zr zq zp zo zn zm zl zk zj zi zh zg zf ze zd zc zb za yz yy yx yw yv yu yt ys yr yq yp yo yn ym yl yk yj yi yh yg yf ye yd yc yb ya xz xy xx xw xv xu xt xs xr xq xp xo xn xm xl xk xj xi xh xg xf xe xd xc xb xa wz wy wx ww wv wu wt ws wr wq wp wo wn wm wl wk wj wi wh wg wf we wd:Value) (h:aC):OV:=ob (M.aD (aQ l) h) λaa h=>ob (M.aD (aG 1 aa) h) λab h=>ob (ld1 ab h) λac h=>ob (M.aD (bin prog .eql 23 ac o) h) λad h=>aL ad (k (.exit 0) [a,b,c,d,e,f,g,i,j,l,m,n,o,p,q,r,s,t,u,v,w,x,y,z,A,B,C,D,E,F,G,H,I,J,zz,zy,zx,zw,zv,zu,zt,zs,zr,zq,zp,zo,zn,zm,zl,zk,zj,zi,zh,zg,zf,ze,zd,zc,zb,za,yz,yy,yx,yw,yv,yu,yt,ys,yr,yq,yp,yo,yn,ym,yl,yk,yj,yi,yh,yg,yf,ye,yd,yc,yb,ya,xz,xy,xx,xw,xv,xu,xt,xs,xr,xq,xp,xo,xn,xm,xl,xk,xj,xi,xh,xg,xf,xe,xd,xc,xb,xa,wz,wy,wx,ww,wv,wu,wt,ws,wr,wq,wp,wo,l,aa,ab,ac,o,ad,wh,wg,wf,we,wd] h) (ob (M.aD (bin prog .add 3 zm (.int .i64 1)) h) λae h=>k .normal [a,b,c,d,e,f,g,i,j,l,m,n,o,p,q,r,s,t,u,v,w,x,y,z,A,B,C,D,E,F,G,H,I,J,zz,zy,zx,zw,zv,zu,zt,zs,zr,zq,zp,zo,zn,ae,zl,zk,zj,zi,zh,zg,zf,ze,zd,zc,zb,za,yz,yy,yx,yw,yv,yu,yt,ys,yr,yq,yp,yo,yn,ym,yl,yk,yj,yi,yh,yg,yf,ye,yd,yc,yb,ya,xz,xy,xx,xw,xv,xu,xt,xs,xr,xq,xp,xo,xn,xm,xl,xk,xj,xi,xh,xg,xf,xe,xd,xc,xb,xa,wz,wy,wx,ww,wv,wu,wt,ws,wr,wq,wp,wo,l,aa,ab,ac,o,ad,ae,wg,wf,we,wd] h)
theorem aJD:Ng O L k (.exit 2) [a,b,c,d,e,f,g,i,j,l,m,n,o,p,q,r,s,t,u,v,w,x,y,z,A,B,C,D,E,F,G,H,I,J,zz,zy,zx,zw,zv,zu,zt,zs,zr,zq,zp,zo,zn,zm,zl,zk,zj,zi,zh,zg,zf,ze,zd,zc,zb,za,yz,yy,yx,yw,yv,yu,yt,ys,yr,yq,yp,yo,yn,ym,yl,yk,yj,yi,yh,yg,yf,ye,yd,yc,yb,ya,xz,xy,xx,xw,xv,xu,xt,xs,xr,xq,xp,xo,xn,xm,xl,xk,xj,xi,xh,xg,xf,xe,xd,xc,xb,xa,wz,wy,wx,ww,wv,wu,wt,ws,wr,wq,wp,wo,wn,wm,wl,wk,wj,wi,wh,wg,wf,we,wd] h=Nd O L k a b c d e f g i j l m n o p q r s t u v w x y z A B C D E F G H I J zz zy zx zw zv zu zt zs zr zq zp zo zn zm zl zk zj zi zh zg zf ze zd zc zb za yz yy yx yw yv yu yt ys yr yq yp yo yn ym yl yk yj yi yh yg yf ye yd yc yb ya xz xy xx xw xv xu xt xs xr xq xp xo xn xm xl xk xj xi xh xg xf xe xd xc xb xa wz wy wx ww wv wu wt ws wr wq wp wo wn wm wl wk wj wi wh wg wf we wd h:=by kernel_rfl
theorem Yj:aK prog O L Nb k [a,b,c,d,e,f,g,i,j,l,m,n,o,p,q,r,s,t,u,v,w,x,y,z,A,B,C,D,E,F,G,H,I,J,zz,zy,zx,zw,zv,zu,zt,zs,zr,zq,zp,zo,zn,zm,zl,zk,zj,zi,zh,zg,zf,ze,zd,zc,zb,za,yz,yy,yx,yw,yv,yu,yt,ys,yr,yq,yp,yo,yn,ym,yl,yk,yj,yi,yh,yg,yf,ye,yd,yc,yb,ya,xz,xy,xx,xw,xv,xu,xt,xs,xr,xq,xp,xo,xn,xm,xl,xk,xj,xi,xh,xg,xf,xe,xd,xc,xb,xa,wz,wy,wx,ww,wv,wu,wt,ws,wr,wq,wp,wo,wn,wm,wl,wk,wj,wi,wh,wg,wf,we,wd] h=ob (M.aD (bin prog .lss 3 za zb) h) λaa h=>aL aa (ob (M.aD (aR 1 zc za) h) λab h=>ob (ld1 ab h) λac h=>ob (M.aD (aQ a) h) λad h=>ob (M.aD (aG 1 ad) h) λae h=>ob (ld1 ae h) λaf h=>ob (M.aD (aR 1 af za) h) λag h=>ob (ld1 ag h) λah h=>ob (O (.func 103) [ac,ah,i] h) λai h=>ob (M.aD (bin prog .eql 3 ai (.int .i64 (-1))) h) λaj h=>aL aj (ob (M.aD (bin prog .add 3 za (.int .i64 1)) h) λak h=>k .normal [a,b,c,d,e,f,g,i,j,l,m,n,o,za,ac,ai,s,t,u,v,w,x,y,z,A,B,C,D,E,F,G,H,I,J,zz,zy,zx,zw,zv,zu,zt,zs,zr,zq,zp,zo,zn,zm,zl,zk,zj,zi,zh,zg,zf,ze,zd,zc,zb,ak,aa,za,ab,ac,ac,a,ad,ae,af,za,ag,ah,i,ai,ai,aj,yj,yi,yh,yg,yf,ye,yd,yc,yb,ya,xz,xy,xx,xw,xv,xu,xt,xs,xr,xq,xp,xo,xn,xm,xl,xk,xj,xi,xh,xg,xf,xe,xd,xc,xb,xa,wz,wy,wx,ww,wv,wu,wt,ws,wr,wq,wp,ak,wn,wm,wl,wk,wj,wi,wh,wg,wf,we,wd] h) (ob (M.aD (aQ l) h) λal h=>ob (M.aD (aG 0 al) h) λam h=>ob (ld1 am h) λan h=>ob (M.aD (aR 1 an za) h) λao h=>ob (stN 1 ao ai h) λap h=>ob (M.aD (aQ l) h) λaq h=>ob (M.aD (aG 1 aq) h) λar h=>ob (ld1 ar h) λau h=>ifB (true) (ob (M.aD (bin prog .shl 23 (.int .u16 1) za) h) λav h=>ob (M.aD (bin prog .andNot 23 au av) h) λaw h=>ob (M.aD (aQ l) h) λax h=>ob (M.aD (aG 1 ax) h) λay h=>ob (stN 1 ay aw h) λaz h=>ifB (true) (ob (M.aD (aQ l) h) λba h=>ob (M.aD (aG 2 ba) h) λbb h=>ob (ld1 bb h) λbc h=>ifB (true) (ob (M.aD (bin prog .shl 23 (.int .u16 1) ai) h) λbd h=>ob (M.aD (bin prog .andNot 23 bc bd) h) λbe h=>ob (M.aD (aQ l) h) λbf h=>ob (M.aD (aG 2 bf) h) λbg h=>ob (stN 1 bg be h) λbh h=>ifB (true) (ob (M.aD (bin prog .eql 3 n (.int .i64 0)) h) λbi h=>aL bi (ob (M.aD (aQ a) h) λbj h=>ob (M.aD (aG 0 bj) h) λbk h=>ob (ld1 bk h) λbl h=>ifB (true) (ob (M.aD (aQ a) h) λbm h=>ob (M.aD (aG 1 bm) h) λbn h=>ob (ld1 bn h) λbo h=>ifB (true) (ob (M.aD (bin prog .add 3 za (.int .i64 1)) h) λbp h=>ob (M.aD (bin prog .rem 3 bp i) h) λbq h=>ob (M.aD (bin prog .add 3 ai (.int .i64 1)) h) λbr h=>ob (M.aD (bin prog .rem 3 br i) h) λbs h=>ob (M.aD (aR 1 bl ai) h) λbt h=>ob (stN 1 bt bq h) λbu h=>ifB (true) (ob (M.aD (aR 1 bo za) h) λbv h=>ob (stN 1 bv bs h) λbw h=>ifB (true) (ob (M.aD (bin prog .add 3 za (.int .i64 1)) h) λbx h=>k .normal [a,b,c,d,e,f,g,i,j,l,m,n,o,za,ac,ai,s,t,u,v,w,x,y,z,A,B,C,D,E,F,G,H,I,J,zz,zy,zx,zw,zv,zu,zt,zs,zr,zq,zp,zo,zn,zm,zl,zk,zj,zi,zh,zg,zf,ze,zd,zc,zb,bx,aa,za,ab,ac,ac,a,ad,ae,af,za,ag,ah,i,ai,ai,aj,l,al,am,an,za,ai,ao,l,aq,ar,au,za,av,aw,ax,ay,l,ba,bb,bc,ai,bd,be,bf,bg,n,bi,a,bj,bk,bl,ai,a,bm,bn,bo,za,za,bp,i,bq,ai,br,i,bs,bt,bv,bx,wn,wm,wl,wk,wj,wi,wh,wg,wf,we,wd] h))))) (ob (M.aD (bin prog .add 3 za (.int .i64 1)) h) λbz h=>k .normal [a,b,c,d,e,f,g,i,j,l,m,n,o,za,ac,ai,s,t,u,v,w,x,y,z,A,B,C,D,E,F,G,H,I,J,zz,zy,zx,zw,zv,zu,zt,zs,zr,zq,zp,zo,zn,zm,zl,zk,zj,zi,zh,zg,zf,ze,zd,zc,zb,bz,aa,za,ab,ac,ac,a,ad,ae,af,za,ag,ah,i,ai,ai,aj,l,al,am,an,za,ai,ao,l,aq,ar,au,za,av,aw,ax,ay,l,ba,bb,bc,ai,bd,be,bf,bg,n,bi,xi,xh,xg,xf,xe,xd,xc,xb,xa,wz,wy,wx,ww,wv,wu,wt,ws,wr,wq,wp,bz,wn,wm,wl,wk,wj,wi,wh,wg,wf,we,wd] h))))))) (k (.exit 2) [a,b,c,d,e,f,g,i,j,l,m,n,o,p,q,r,s,t,u,v,w,x,y,z,A,B,C,D,E,F,G,H,I,J,zz,zy,zx,zw,zv,zu,zt,zs,zr,zq,zp,zo,zn,zm,zl,zk,zj,zi,zh,zg,zf,ze,zd,zc,zb,za,aa,yy,yx,yw,yv,yu,yt,ys,yr,yq,yp,yo,yn,ym,yl,yk,yj,yi,yh,yg,yf,ye,yd,yc,yb,ya,xz,xy,xx,xw,xv,xu,xt,xs,xr,xq,xp,xo,xn,xm,xl,xk,xj,xi,xh,xg,xf,xe,xd,xc,xb,xa,wz,wy,wx,ww,wv,wu,wt,ws,wr,wq,wp,wo,wn,wm,wl,wk,wj,wi,wh,wg,wf,we,wd] h):=by kernel_rfl
def Na:Code:=b9 [1,0,1,1,1,1,1,1,0,1,0,0] (cB prog 50)
def Nf:KV:=(dQ 0 (eD prog O L (b9 [1,0,1,1,1,1,1,1,1] (cB prog 50)) (fG prog Tryz.f50)))
def Nc (O:aE)(L:LV) (a b c d e f g i j l m n o p q r s t u v w x y z A B C D E F G H I J zz zy zx zw zv zu zt zs zr zq zp zo zn zm zl zk zj zi zh zg zf ze zd zc zb za yz yy yx yw yv yu yt ys yr yq yp yo yn ym yl yk yj yi yh yg yf ye yd yc yb ya xz xy xx xw xv xu xt xs xr xq xp xo xn xm xl xk xj xi xh xg xf xe xd xc xb xa wz wy wx ww wv wu wt ws wr wq wp wo wn wm wl wk wj wi wh wg wf we wd:Value) (h:aC):OV:=ob (M.aD (aQ l) h) λaa h=>ob (M.aD (aG 0 aa) h) λab h=>ob (ld1 ab h) λac h=>some (aJ [ac],h)
theorem Yk:Nf O L (.exit 0) [a,b,c,d,e,f,g,i,j,l,m,n,o,p,q,r,s,t,u,v,w,x,y,z,A,B,C,D,E,F,G,H,I,J,zz,zy,zx,zw,zv,zu,zt,zs,zr,zq,zp,zo,zn,zm,zl,zk,zj,zi,zh,zg,zf,ze,zd,zc,zb,za,yz,yy,yx,yw,yv,yu,yt,ys,yr,yq,yp,yo,yn,ym,yl,yk,yj,yi,yh,yg,yf,ye,yd,yc,yb,ya,xz,xy,xx,xw,xv,xu,xt,xs,xr,xq,xp,xo,xn,xm,xl,xk,xj,xi,xh,xg,xf,xe,xd,xc,xb,xa,wz,wy,wx,ww,wv,wu,wt,ws,wr,wq,wp,wo,wn,wm,wl,wk,wj,wi,wh,wg,wf,we,wd] h=Nc O L a b c d e f g i j l m n o p q r s t u v w x y z A B C D E F G H I J zz zy zx zw zv zu zt zs zr zq zp zo zn zm zl zk zj zi zh zg zf ze zd zc zb za yz yy yx yw yv yu yt ys yr yq yp yo yn ym yl yk yj yi yh yg yf ye yd yc yb ya xz xy xx xw xv xu xt xs xr xq xp xo xn xm xl xk xj xi xh xg xf xe xd xc xb xa wz wy wx ww wv wu wt ws wr wq wp wo wn wm wl wk wj wi wh wg wf we wd h:=by kernel_rfl
theorem Yi:aK prog O L Na k [a,b,c,d,e,f,g,i,j,l,m,n,o,p,q,r,s,t,u,v,w,x,y,z,A,B,C,D,E,F,G,H,I,J,zz,zy,zx,zw,zv,zu,zt,zs,zr,zq,zp,zo,zn,zm,zl,zk,zj,zi,zh,zg,zf,ze,zd,zc,zb,za,yz,yy,yx,yw,yv,yu,yt,ys,yr,yq,yp,yo,yn,ym,yl,yk,yj,yi,yh,yg,yf,ye,yd,yc,yb,ya,xz,xy,xx,xw,xv,xu,xt,xs,xr,xq,xp,xo,xn,xm,xl,xk,xj,xi,xh,xg,xf,xe,xd,xc,xb,xa,wz,wy,wx,ww,wv,wu,wt,ws,wr,wq,wp,wo,wn,wm,wl,wk,wj,wi,wh,wg,wf,we,wd] h=ob (M.aD (bin prog .lss 3 zm zn) h) λaa h=>aL aa (ob (M.aD (aQ l) h) λab h=>ob (M.aD (aG 1 ab) h) λac h=>ob (ld1 ac h) λad h=>ob (O (.func 102) [a,l,m] h) λae h=>ob (M.aD (bM ae) h) λaf h=>L (aK prog O L Nb) (Ng O L k) [a,b,c,d,e,f,g,i,j,l,m,zm,ad,p,q,r,s,t,u,v,w,x,y,z,A,B,C,D,E,F,G,H,I,J,zz,zy,zx,zw,zv,zu,zt,zs,zr,zq,zp,zo,zn,zm,aa,zm,l,ab,ac,ad,a,l,m,ae,af,(.int .i64 0),yz,yy,yx,yw,yv,yu,yt,ys,yr,yq,yp,yo,yn,ym,yl,yk,yj,yi,yh,yg,yf,ye,yd,yc,yb,ya,xz,xy,xx,xw,xv,xu,xt,xs,xr,xq,xp,xo,xn,xm,xl,xk,xj,xi,xh,xg,xf,xe,xd,xc,xb,xa,wz,wy,wx,ww,wv,wu,wt,ws,wr,wq,wp,wo,wn,wm,wl,wk,wj,wi,wh,wg,wf,we,wd] h) (k (.exit 0) [a,b,c,d,e,f,g,i,j,l,m,n,o,p,q,r,s,t,u,v,w,x,y,z,A,B,C,D,E,F,G,H,I,J,zz,zy,zx,zw,zv,zu,zt,zs,zr,zq,zp,zo,zn,zm,aa,zk,zj,zi,zh,zg,zf,ze,zd,zc,zb,za,yz,yy,yx,yw,yv,yu,yt,ys,yr,yq,yp,yo,yn,ym,yl,yk,yj,yi,yh,yg,yf,ye,yd,yc,yb,ya,xz,xy,xx,xw,xv,xu,xt,xs,xr,xq,xp,xo,xn,xm,xl,xk,xj,xi,xh,xg,xf,xe,xd,xc,xb,xa,wz,wy,wx,ww,wv,wu,wt,ws,wr,wq,wp,wo,wn,wm,wl,wk,wj,wi,wh,wg,wf,we,wd] h):=by kernel_rfl
theorem aJE:cE prog O L 50 [N,P,Q] h=ob (M.aD (aQ N) h) λaa h=>ob (M.aD (aG 0 aa) h) λab h=>ob (ld1 ab h) λac h=>ob (M.aD (bM ac) h) λad h=>ob (M.aD (bM P) h) λae h=>ob (M.aD (bin prog .neq 3 ae ad) h) λaf h=>ob (gd af false (M.cA Q) h) λag h=>ob (gd af false (M.aD (bin prog .lss 3 ag (.int .i64 1))) h) λah h=>ob (M.aD (cJ af (.bool true) ah) h) λai h=>ob (gd ai false (M.cA Q) h) λaj h=>ob (gd ai false (M.aD (bin prog .gtr 3 aj (.int .i64 16))) h) λak h=>ob (M.aD (cJ ai (.bool true) ak) h) λal h=>aL al (some (aJ [(.slice none 0 0)],h)) (ob (M.aD (bin prog .shl 23 (.int .u16 1) ad) h) λam h=>ob (M.aD (bin prog .sub 23 am (.int .u16 1)) h) λan h=>ob (dL 3 1 1 [(.int .i64 0)] [(0,(.int .i64 (-1)))] h) λao h=>ob (O (.func 100) [ao,ad] h) λap h=>ob (M.aD (bld prog 201 [(0,ap),(1,an),(2,an)]) h) λaq h=>ob (cX 201 (Value.cells aq).toList .fix h) λar h=>ob (O (.func 101) [P,ad] h) λau h=>L (aK prog O L Na) (Nf O L) [N,P,Q,undef,undef,undef,(.slice none 0 0),ad,an,ar,au,undef,undef,undef,undef,undef,N,aa,ab,ac,ad,P,ae,ad,af,af,ag,ah,ai,ai,aj,ak,al,ad,am,an,ao,ad,ap,an,an,aq,ar,P,ad,au,Q,(.int .i64 0),undef,undef,undef,undef,undef,undef,undef,undef,undef,undef,undef,undef,undef,undef,undef,undef,undef,undef,undef,undef,undef,undef,undef,undef,undef,undef,undef,undef,undef,undef,undef,undef,undef,undef,undef,undef,undef,undef,undef,undef,undef,undef,undef,undef,undef,undef,undef,undef,undef,undef,undef,undef,undef,undef,undef,undef,undef,undef,undef,undef,undef,undef,undef,undef,undef,undef,undef,undef,undef,undef,undef,undef,undef,undef,undef,undef,undef,undef,undef,undef,undef,undef,undef,undef,undef,undef,undef] h):=by kernel_rfl
def Ni:Code:=b9 [1,1,0,1,0,0,1,1,0,0,1,1,0,0] (cB prog 51)
def Nl:KV:=(dQ 2 (dQ 1 (eD prog O L (b9 [1,1,0,1,0,0,1,1,1] (cB prog 51)) k)))
def Nj (O:aE)(L:LV) (k:KV) (a b c d e f g i j l m n o p q r s t u v w x y z A B C D E F G H I J zz zy zx zw zv zu zt zs zr zq:Value) (h:aC):OV:=ob (M.aD (bin prog .add 3 t (.int .i64 1)) h) λaa h=>k .normal [a,b,c,d,e,f,g,i,j,l,m,n,o,p,q,r,s,aa,u,v,w,x,y,z,A,B,C,D,E,F,G,H,I,J,zz,zy,zx,zw,zv,zu,zt,zs,aa,zq] h
theorem aJG:Nl O L k (.exit 2) [a,b,c,d,e,f,g,i,j,l,m,n,o,p,q,r,s,t,u,v,w,x,y,z,A,B,C,D,E,F,G,H,I,J,zz,zy,zx,zw,zv,zu,zt,zs,zr,zq] h=Nj O L k a b c d e f g i j l m n o p q r s t u v w x y z A B C D E F G H I J zz zy zx zw zv zu zt zs zr zq h:=by kernel_rfl
theorem Ym:aK prog O L Ni k [a,b,c,d,e,f,g,i,j,l,m,n,o,p,q,r,s,t,u,v,w,x,y,z,A,B,C,D,E,F,G,H,I,J,zz,zy,zx,zw,zv,zu,zt,zs,zr,zq] h=ob (M.aD (bin prog .lss 3 B A) h) λaa h=>aL aa (ob (O (.func 104) [a,e,B] h) λab h=>ob (M.aD (bin prog .neq 23 ab (.int .u16 0)) h) λac h=>aL ac (ob (M.aD (aR 1 d e) h) λad h=>ob (ld1 ad h) λae h=>ifB (true) (ob (M.aD (bin prog .shl 23 (.int .u16 1) B) h) λaf h=>ob (M.aD (bin prog .or 23 ae af) h) λag h=>ob (M.aD (aR 1 d e) h) λah h=>ob (stN 1 ah ag h) λai h=>ifB (true) (ob (M.aD (bin prog .add 3 B (.int .i64 1)) h) λaj h=>k .normal [a,b,c,d,e,B,g,i,j,l,m,n,o,p,q,r,s,t,u,v,w,x,y,z,A,aj,aa,B,a,e,B,ab,ac,d,e,ad,ae,B,af,ag,ah,aj,zr,zq] h))) (ob (M.aD (bin prog .add 3 B (.int .i64 1)) h) λak h=>k .normal [a,b,c,d,e,B,g,i,j,l,m,n,o,p,q,r,s,t,u,v,w,x,y,z,A,ak,aa,B,a,e,B,ab,ac,J,zz,zy,zx,zw,zv,zu,zt,ak,zr,zq] h)) (k (.exit 2) [a,b,c,d,e,f,g,i,j,l,m,n,o,p,q,r,s,t,u,v,w,x,y,z,A,B,aa,D,E,F,G,H,I,J,zz,zy,zx,zw,zv,zu,zt,zs,zr,zq] h):=by kernel_rfl
def Nh:Code:=b9 [1,1,0,1,0,0] (cB prog 51)
def Nk:KV:=(dQ 0 (eD prog O L (b9 [1,1,1] (cB prog 51)) (fG prog Tryz.f51)))
theorem aJF:Nk O L (.exit 0) [a,b,c,d,e,f,g,i,j,l,m,n,o,p,q,r,s,t,u,v,w,x,y,z,A,B,C,D,E,F,G,H,I,J,zz,zy,zx,zw,zv,zu,zt,zs,zr,zq] h=some (aJ [d],h):=by kernel_rfl
theorem Yl:aK prog O L Nh k [a,b,c,d,e,f,g,i,j,l,m,n,o,p,q,r,s,t,u,v,w,x,y,z,A,B,C,D,E,F,G,H,I,J,zz,zy,zx,zw,zv,zu,zt,zs,zr,zq] h=ob (M.aD (bin prog .lss 3 t s) h) λaa h=>aL aa (ob (M.aD (aQ a) h) λab h=>ob (M.aD (aG 13 ab) h) λac h=>ob (ld1 ac h) λad h=>ob (M.aD (bM ad) h) λae h=>L (aK prog O L Ni) (Nl O L k) [a,b,c,d,t,f,g,i,j,l,m,n,o,p,q,r,s,t,aa,t,a,ab,ac,ad,ae,(.int .i64 0),C,D,E,F,G,H,I,J,zz,zy,zx,zw,zv,zu,zt,zs,zr,zq] h) (k (.exit 0) [a,b,c,d,e,f,g,i,j,l,m,n,o,p,q,r,s,t,aa,v,w,x,y,z,A,B,C,D,E,F,G,H,I,J,zz,zy,zx,zw,zv,zu,zt,zs,zr,zq] h):=by kernel_rfl
theorem aJH:cE prog O L 51 [N] h=ob (M.aD (aQ N) h) λaa h=>ob (M.aD (aG 13 aa) h) λab h=>ob (ld1 ab h) λac h=>ob (M.aD (bM ac) h) λad h=>ob (lO 23 1 2 [(.int .u16 0)] ad ad h) λae h=>ob (M.aD (aQ N) h) λaf h=>ob (M.aD (aG 13 af) h) λag h=>ob (ld1 ag h) λah h=>ob (M.aD (bM ah) h) λai h=>L (aK prog O L Nh) (Nk O L) [N,undef,(.slice none 0 0),ae,undef,undef,N,aa,ab,ac,ad,ae,N,af,ag,ah,ai,(.int .i64 0),undef,undef,undef,undef,undef,undef,undef,undef,undef,undef,undef,undef,undef,undef,undef,undef,undef,undef,undef,undef,undef,undef,undef,undef,undef,undef] h:=by kernel_rfl
theorem Nm:cE prog O L 52 [N,P,Q,R] h=ob (M.aD (aQ N) h) λaa h=>ob (M.aD (aG 13 aa) h) λab h=>ob (ld1 ab h) λac h=>ifB (true) (ob (M.aD (aR 3 ac Q) h) λad h=>ob (M.aD (aG 2 ad) h) λae h=>ob (ld1 ae h) λaf h=>ifB (true) (ob (O (.func 104) [N,P,Q] h) λag h=>ifB (chk ((ld1 ae) h) af&&(chk ((ld1 ab) h) ac&&(true))) (ob (O (.func 105) [af,ag] h) λah h=>ifB (true) (ob (M.aD (bin prog .lss 3 ah (.int .i64 0)) h) λai h=>aL ai (some (aJ [],h)) (ob (M.aD (aQ N) h) λaj h=>ob (M.aD (aG 15 aj) h) λak h=>ob (ld1 ak h) λal h=>ob (O (.func 106) [al,P,Q,ah] h) λam h=>ob (M.aD (ext 0 am) h) λan h=>ob (M.aD (ext 1 am) h) λao h=>ob (cX 54 [(.int .i64 0),(.int .i64 0),(.int .i64 0),(.int .u32 0)] .fix h) λap h=>ob (stN 4 ap an h) λaq h=>ob (M.aD (bin prog .gtr 3 P (.int .i64 0)) h) λar h=>aL ar (ob (M.aD (aQ N) h) λau h=>ob (M.aD (aG 13 au) h) λav h=>ob (ld1 av h) λaw h=>ob (M.aD (aR 3 aw P) h) λax h=>ob (M.aD (aG 1 ax) h) λay h=>ob (ld1 ay h) λaz h=>ob (M.aD (aR 2 az ah) h) λba h=>ob (M.aD (aG 1 ba) h) λbb h=>ob (ld1 bb h) λbc h=>ob (O (.func 107) [bc] h) λbd h=>ob (M.aD (bin prog .eql 3 Q (.int .i64 0)) h) λbe h=>aL be (ob (M.aD (aQ N) h) λbf h=>ob (M.aD (aG 14 bf) h) λbg h=>ob (ld1 bg h) λbh h=>ifB (true) (ob (ldN 4 ap h) λbi h=>ifB (true) (ob (O (.func 108) [bh,bi] h) λbj h=>ifB (true) (some (aJ [],h))))) (ob (M.aD (aQ N) h) λbk h=>ob (M.aD (aG 13 bk) h) λbl h=>ob (ld1 bl h) λbm h=>ob (M.aD (aR 3 bm Q) h) λbn h=>ob (M.aD (aG 1 bn) h) λbo h=>ob (ld1 bo h) λbp h=>ob (M.aD (aR 2 bp ah) h) λbq h=>ob (M.aD (aG 0 bq) h) λbr h=>ob (ld1 br h) λbs h=>ob (O (.func 109) [bs] h) λbt h=>ob (M.aD (ext 0 bt) h) λbu h=>ob (M.aD (ext 1 bt) h) λbv h=>ob (cI prog 3 5 ah h) λbw h=>ob (cI prog 55 23 bu h) λbx h=>ob (M.aD (aG 0 ap) h) λbz h=>ob (ld1 bz h) λca h=>ob (cI prog 3 5 ca h) λcb h=>ob (M.aD (aG 1 ap) h) λcc h=>ob (ld1 cc h) λcd h=>ob (cI prog 3 5 cd h) λce h=>ob (M.aD (aG 3 ap) h) λcf h=>ob (ld1 cf h) λcg h=>ob (M.aD (bld prog 39 [(0,(.int .u8 1)),(1,bw),(2,bx),(3,cb),(4,ce),(5,cg)]) h) λch h=>ob (oH O R [Q,ch] h) λci h=>some (aJ [],h))) (ob (M.aD (bin prog .eql 3 Q (.int .i64 0)) h) λcj h=>aL cj (ob (M.aD (aQ N) h) λck h=>ob (M.aD (aG 14 ck) h) λcl h=>ob (ld1 cl h) λcm h=>ifB (true) (ob (ldN 4 ap h) λcn h=>ifB (true) (ob (O (.func 108) [cm,cn] h) λco h=>ifB (true) (some (aJ [],h))))) (ob (M.aD (aQ N) h) λcp h=>ob (M.aD (aG 13 cp) h) λcq h=>ob (ld1 cq h) λcr h=>ob (M.aD (aR 3 cr Q) h) λcs h=>ob (M.aD (aG 1 cs) h) λct h=>ob (ld1 ct h) λcu h=>ob (M.aD (aR 2 cu ah) h) λcv h=>ob (M.aD (aG 0 cv) h) λcw h=>ob (ld1 cw h) λcx h=>ob (O (.func 109) [cx] h) λcy h=>ob (M.aD (ext 0 cy) h) λcz h=>ob (M.aD (ext 1 cy) h) λda h=>ob (cI prog 3 5 ah h) λdb h=>ob (cI prog 55 23 cz h) λdc h=>ob (M.aD (aG 0 ap) h) λdd h=>ob (ld1 dd h) λde h=>ob (cI prog 3 5 de h) λdf h=>ob (M.aD (aG 1 ap) h) λdg h=>ob (ld1 dg h) λdh h=>ob (cI prog 3 5 dh h) λdi h=>ob (M.aD (aG 3 ap) h) λdj h=>ob (ld1 dj h) λdk h=>ob (M.aD (bld prog 39 [(0,(.int .u8 1)),(1,db),(2,dc),(3,df),(4,di),(5,dk)]) h) λdl h=>ob (oH O R [Q,dl] h) λdm h=>some (aJ [],h)))))))):=by kernel_rfl
def Np:Code:=b9 [1,0,0,1,1,0,0,1,1,0,0] (cB prog 53)
def Nr:KV:=(dQ 2 (dQ 1 (eD prog O L (b9 [1,0,0,1,1,1] (cB prog 53)) k)))
def Fv (O:aE)(L:LV) (k:KV) (a b c d e f g i j l m n o p q r s t u v w x y z A B C D E F G H I J zz zy zx zw zv zu zt zs zr zq zp zo zn zm:Value) (h:aC):OV:=ob (M.aD (bin prog .add 3 p (.int .i64 1)) h) λaa h=>k .normal [a,b,c,d,e,f,g,i,j,l,m,n,o,aa,q,r,s,t,u,v,w,x,y,z,A,B,C,D,E,F,G,H,I,J,zz,zy,zx,zw,zv,zu,zt,zs,zr,zq,zp,zo,zn,aa] h
theorem Yo:Nr O L k (.exit 2) [a,b,c,d,e,f,g,i,j,l,m,n,o,p,q,r,s,t,u,v,w,x,y,z,A,B,C,D,E,F,G,H,I,J,zz,zy,zx,zw,zv,zu,zt,zs,zr,zq,zp,zo,zn,zm] h=Fv O L k a b c d e f g i j l m n o p q r s t u v w x y z A B C D E F G H I J zz zy zx zw zv zu zt zs zr zq zp zo zn zm h:=by kernel_rfl
theorem Nn:aK prog O L Np k [a,b,c,d,e,f,g,i,j,l,m,n,o,p,q,r,s,t,u,v,w,x,y,z,A,B,C,D,E,F,G,H,I,J,zz,zy,zx,zw,zv,zu,zt,zs,zr,zq,zp,zo,zn,zm] h=ob (M.aD (bin prog .lss 3 x w) h) λaa h=>aL aa (ob (M.aD (aR 2 v x) h) λab h=>ob (ldN 2 ab h) λac h=>ob (cX 100 [(.pointer none),(.pointer none)] .fix h) λad h=>ob (stN 2 ad ac h) λae h=>ob (cI prog 3 5 x h) λaf h=>ob (M.aD (aG 0 ad) h) λag h=>ob (ld1 ag h) λah h=>ob (O (.func 20) [ah] h) λai h=>ob (cI prog 55 23 ai h) λaj h=>ob (M.aD (bld prog 39 [(0,(.int .u8 3)),(1,af),(2,aj)]) h) λak h=>ob (oH O b [e,ak] h) λal h=>ob (cI prog 3 5 x h) λam h=>ob (M.aD (aG 1 ad) h) λan h=>ob (ld1 an h) λao h=>ob (O (.func 110) [ao] h) λap h=>ob (cI prog 55 23 ap h) λaq h=>ob (M.aD (bld prog 39 [(0,(.int .u8 2)),(1,am),(2,aq)]) h) λar h=>ob (oH O b [e,ar] h) λau h=>ob (M.aD (bin prog .add 3 x (.int .i64 1)) h) λav h=>k .normal [a,b,c,d,e,f,x,ad,j,l,m,n,o,p,q,r,s,t,u,v,w,av,aa,x,ab,ac,b,e,x,af,ag,ah,ai,aj,ak,al,b,e,x,am,an,ao,ap,aq,ar,au,av,zm] h) (k (.exit 2) [a,b,c,d,e,f,g,i,j,l,m,n,o,p,q,r,s,t,u,v,w,x,aa,z,A,B,C,D,E,F,G,H,I,J,zz,zy,zx,zw,zv,zu,zt,zs,zr,zq,zp,zo,zn,zm] h):=by kernel_rfl
def No:Code:=b9 [1,0,0] (cB prog 53)
def Nq (O:aE)(L:LV):KV:=(dQ 0 (fG prog Tryz.f53))
theorem aJI:Nq O L (.exit 0) [a,b,c,d,e,f,g,i,j,l,m,n,o,p,q,r,s,t,u,v,w,x,y,z,A,B,C,D,E,F,G,H,I,J,zz,zy,zx,zw,zv,zu,zt,zs,zr,zq,zp,zo,zn,zm] h=some (aJ [],h):=by kernel_rfl
theorem Yn:aK prog O L No k [a,b,c,d,e,f,g,i,j,l,m,n,o,p,q,r,s,t,u,v,w,x,y,z,A,B,C,D,E,F,G,H,I,J,zz,zy,zx,zw,zv,zu,zt,zs,zr,zq,zp,zo,zn,zm] h=ob (M.aD (bin prog .lss 3 p o) h) λaa h=>aL aa (ob (M.aD (aR 3 n p) h) λab h=>ob (ldN 3 ab h) λac h=>ob (cX 94 [(.int .i64 0),(.slice none 0 0),(.pointer none)] .fix h) λad h=>ob (stN 3 ad ac h) λae h=>ob (M.aD (aG 1 ad) h) λaf h=>ob (ld1 af h) λag h=>ob (M.aD (bM ag) h) λah h=>L (aK prog O L Np) (Nr O L k) [a,b,c,d,p,ad,g,i,j,l,m,n,o,p,aa,p,ab,ac,af,ag,ah,(.int .i64 0),y,z,A,B,C,D,E,F,G,H,I,J,zz,zy,zx,zw,zv,zu,zt,zs,zr,zq,zp,zo,zn,zm] h) (k (.exit 0) [a,b,c,d,e,f,g,i,j,l,m,n,o,p,aa,r,s,t,u,v,w,x,y,z,A,B,C,D,E,F,G,H,I,J,zz,zy,zx,zw,zv,zu,zt,zs,zr,zq,zp,zo,zn,zm] h):=by kernel_rfl
theorem aJJ:cE prog O L 53 [N,P] h=ob (M.aD (aQ N) h) λaa h=>ob (M.aD (aG 13 aa) h) λab h=>ob (ld1 ab h) λac h=>ob (M.aD (bM ac) h) λad h=>L (aK prog O L No) (Nq O L) [N,P,undef,undef,undef,undef,undef,undef,N,aa,ab,ac,ad,(.int .i64 0),undef,undef,undef,undef,undef,undef,undef,undef,undef,undef,undef,undef,undef,undef,undef,undef,undef,undef,undef,undef,undef,undef,undef,undef,undef,undef,undef,undef,undef,undef,undef,undef,undef,undef] h:=by kernel_rfl
theorem Yp:cE prog O L 64 [N,P,Q] h=ob (cX 100 [(.pointer none),(.pointer none)] .fix h) λaa h=>ob (M.aD (bin prog .lss 3 P (.int .i64 1)) h) λab h=>ob (gd ab false (M.cA P) h) λac h=>ob (gd ab false (M.cA N) h) λad h=>ob (gd ab false (M.aD (aQ ad)) h) λae h=>ob (gd ab false (M.aD (aG 13 ae)) h) λaf h=>ob (gd ab false (ld1 af) h) λag h=>ob (gd ab false (M.aD (bM ag)) h) λah h=>ob (gd ab false (M.aD (bin prog .geq 3 ac ah)) h) λai h=>ob (M.aD (cJ ab (.bool true) ai) h) λaj h=>ob (gd aj false (M.cA Q) h) λak h=>ob (gd aj false (M.aD (bin prog .lss 3 ak (.int .i64 0))) h) λal h=>ob (M.aD (cJ aj (.bool true) al) h) λam h=>ob (gd am false (M.cA Q) h) λan h=>ob (gd am false (M.cA N) h) λao h=>ob (gd am false (M.aD (aQ ao)) h) λap h=>ob (gd am false (M.aD (aG 1 ap)) h) λaq h=>ob (gd am false (M.aD (aG 2 aq)) h) λar h=>ob (gd am false (ld1 ar) h) λau h=>ob (gd am false (M.aD (bin prog .geq 3 an au)) h) λav h=>ob (M.aD (cJ am (.bool true) av) h) λaw h=>aL aw (ob (M.aD (bld prog 100 []) h) λax h=>ob (stN 2 aa ax h) λay h=>ob (ldN 2 aa h) λw23 _=>some (aJ [w23,(.bool false)],h)) (ob (M.aD (aQ N) h) λaz h=>ob (M.aD (aG 13 az) h) λba h=>ob (ld1 ba h) λbb h=>ob (M.aD (aR 3 bb P) h) λbc h=>ob (M.aD (aG 1 bc) h) λbd h=>ob (ld1 bd h) λbe h=>ob (M.aD (aR 2 be Q) h) λbf h=>ob (ldN 2 bf h) λbg h=>ob (stN 2 aa bg h) λbh h=>ob (ldN 2 aa h) λw33 _=>some (aJ [w33,(.bool true)],h)):=by kernel_rfl
def Nt:Code:=b9 [1,0,1,0,0] (cB prog 85)
def Fw:KV:=(dQ 0 (eD prog O L (b9 [1,1] (cB prog 85)) (fG prog Tryz.f85)))
theorem aJK:Fw O L (.exit 0) [a,b,c,d,e,f,g,i,j,l,m,n,o,p,q,r,s,t,u] h=some (aJ [(.int .i64 (-1))],h):=by kernel_rfl
theorem aJM:Fw O L .ret [a,b,c,d,e,f,g,i,j,l,m,n,o,p,q,r,s,t,u] h=some (aJ [e],h):=by kernel_rfl
theorem Yq:aK prog O L Nt k [a,b,c,d,e,f,g,i,j,l,m,n,o,p,q,r,s,t,u] h=ob (M.aD (bin prog .lss 3 j i) h) λaa h=>aL aa (ob (M.aD (aR 3 a j) h) λab h=>ob (ldN 3 ab h) λac h=>ob (oH O b [ac] h) λad h=>aL ad (k .ret [a,b,c,d,j,j,g,i,j,aa,j,b,a,j,ab,ac,ad,j,u] h) (ob (M.aD (bin prog .add 3 j (.int .i64 1)) h) λae h=>k .normal [a,b,c,d,e,j,g,i,ae,aa,j,b,a,j,ab,ac,ad,t,ae] h)) (k (.exit 0) [a,b,c,d,e,f,g,i,j,aa,m,n,o,p,q,r,s,t,u] h):=by kernel_rfl
theorem aJL:cE prog O L 85 [N,P] h=ob (M.aD (bM N) h) λaa h=>L (aK prog O L Nt) (Fw O L) [N,P,undef,undef,(.int .i64 0),undef,N,aa,(.int .i64 0),undef,undef,undef,undef,undef,undef,undef,undef,undef,undef] h:=by kernel_rfl
theorem aJN:cE prog O L 86 [N,P] h=ob (cX 94 (Value.cells N).toList .fix h) λaa h=>ob (M.aD (aG 0 aa) h) λab h=>ob (ld1 ab h) λac h=>ob (ld1 P h) λad h=>ob (M.aD (bin prog .eql 3 ac ad) h) λae h=>some (aJ [ae],h):=by kernel_rfl
theorem Yr:cE prog O L 87 [N] h=ob (cX 39 [(.int .u8 0),(.int .u8 0),(.int .u16 0),(.int .u8 0),(.int .u8 0),(.int .u32 0)] .fix h) λaa h0=>ob (cX 39 [(.int .u8 0),(.int .u8 0),(.int .u16 0),(.int .u8 0),(.int .u8 0),(.int .u32 0)] .fix h0) λab h1=>ob (M.aD (bM N) h1) λac h2=>ob (M.aD (bin prog .neq 3 ac (.int .i64 6)) h2) λad h3=>ob (gd ad true (M.cA N) h3) λae h4=>ob (gd ad true (M.aD (bM ae)) h4) λaf h5=>ob (gd ad true (M.aD (bin prog .neq 3 af (.int .i64 12))) h5) λag h6=>ob (M.aD (cJ ad ag (.bool false)) h6) λah h7=>aL ah (ob (ldN 6 ab h7) λai h8=>ob (stN 6 aa ai h8) λaj h9=>ob (ldN 6 aa h9) λw10 _=>some (aJ [w10,(.int .u16 30)],h9)) (ob (M.aD (bM N) h7) λak h11=>ob (M.aD (bin prog .sub 3 ak (.int .i64 2)) h11) λal h12=>ob (M.aD (bM N) h12) λam h13=>ob (M.aD (bin prog .sub 3 am (.int .i64 2)) h13) λan h14=>ob (slc prog 1 N none (some al) (some an) h14) λao h15=>ifB (true) (ob (O (.func 95) [ao] h15) λap h16=>ifB (true) (ob (cI prog 23 37 ap h16) λaq h17=>ob (M.aD (bM N) h17) λar h18=>ob (M.aD (bin prog .sub 3 ar (.int .i64 2)) h18) λau h19=>ob (slc prog 1 N (some au) none none h19) λav h20=>ifB (chk ((slc prog 1 N (some au) none none) h15) av&&(true)) (ob (O (.func 136) [av] h20) λaw h21=>ifB (true) (ob (M.aD (bin prog .neq 37 aq aw) h21) λax h22=>aL ax (ob (ldN 6 ab h22) λay h23=>ob (stN 6 aa ay h23) λaz h24=>ob (ldN 6 aa h24) λw25 _=>some (aJ [w25,(.int .u16 30)],h24)) (ob (M.aD (aR 1 N (.int .i64 0)) h22) λba h26=>ob (ld1 ba h26) λbb h27=>ob (M.aD (bin prog .eql 5 bb (.int .u8 1)) h27) λbc h28=>ob (M.aD (bM N) h28) λbd h29=>ob (M.aD (bin prog .eql 3 bd (.int .i64 12)) h29) λbe h30=>ob (M.aD (bin prog .neq 4 bc be) h30) λbf h31=>aL bf (ob (ldN 6 ab h31) λbg h32=>ob (stN 6 aa bg h32) λbh h33=>ob (ldN 6 aa h33) λw34 _=>some (aJ [w34,(.int .u16 30)],h33)) (ob (M.aD (aR 1 N (.int .i64 0)) h31) λbi h35=>ob (ld1 bi h35) λbj h36=>ifB (true) (ob (M.aD (aR 1 N (.int .i64 1)) h36) λbk h37=>ob (ld1 bk h37) λbl h38=>ifB (true) (ob (slc prog 1 N (some (.int .i64 2)) (some (.int .i64 4)) none h38) λbm h39=>ifB (true) (ob (O (.func 136) [bm] h39) λbn h40=>ifB (chk ((ld1 bk) h40) bl&&(chk ((ld1 bi) h40) bj&&(true))) (ob (cI prog 37 23 bn h40) λbo h41=>ob (M.aD (bld prog 39 [(0,bj),(1,bl),(2,bo)]) h41) λbp h42=>ob (stN 6 ab bp h42) λbq h43=>ifB (true) (ob (M.aD (bM N) h43) λbr h44=>ob (M.aD (bin prog .eql 3 br (.int .i64 12)) h44) λbs h45=>aL bs (ob (M.aD (aR 1 N (.int .i64 4)) h45) λbt h46=>ob (ld1 bt h46) λbu h47=>ifB (true) (ob (M.aD (aR 1 N (.int .i64 5)) h47) λbv h48=>ob (ld1 bv h48) λbw h49=>ifB (true) (ob (slc prog 1 N (some (.int .i64 6)) (some (.int .i64 10)) none h49) λbx h50=>ifB (true) (ob (O (.func 136) [bx] h50) λbz h51=>ifB (chk ((ld1 bv) h51) bw&&(chk ((ld1 bt) h51) bu&&(true))) (ob (M.aD (aG 3 ab) h51) λca h52=>ob (stN 1 ca bu h52) λcb h53=>ifB (chk ((ld1 bv) h53) bw&&(true)) (ob (M.aD (aG 4 ab) h53) λcc h54=>ob (stN 1 cc bw h54) λcd h55=>ifB (true) (ob (M.aD (aG 5 ab) h55) λce h56=>ob (stN 1 ce bz h56) λcf h57=>ifB (true) (ob (ldN 6 ab h57) λcg h58=>ob (O (.func 92) [cg] h58) λch h59=>ob (M.aD (un prog .not ch) h59) λci h60=>aL ci (ob (M.aD (bld prog 39 []) h60) λcj h61=>ob (stN 6 aa cj h61) λck h62=>ob (ldN 6 aa h62) λw63 _=>some (aJ [w63,(.int .u16 30)],h62)) (ob (ldN 6 ab h60) λcl h64=>ob (stN 6 aa cl h64) λcm h65=>ob (ldN 6 aa h65) λw66 _=>some (aJ [w66,(.int .u16 0)],h65)))))))))) (ob (ldN 6 ab h45) λcn h67=>ob (O (.func 92) [cn] h67) λco h68=>ob (M.aD (un prog .not co) h68) λcp h69=>aL cp (ob (M.aD (bld prog 39 []) h69) λcq h70=>ob (stN 6 aa cq h70) λcr h71=>ob (ldN 6 aa h71) λw72 _=>some (aJ [w72,(.int .u16 30)],h71)) (ob (ldN 6 ab h69) λcs h73=>ob (stN 6 aa cs h73) λct h74=>ob (ldN 6 aa h74) λw75 _=>some (aJ [w75,(.int .u16 0)],h74))))))))))))))):=by kernel_rfl
theorem aJO:cE prog O L 88 [N,P] h=ob (M.aD (aQ N) h) λaa h=>ob (M.aD (aG 0 aa) h) λab h=>ob (M.aD (aG 1 ab) h) λac h=>ob (ld1 ac h) λad h=>ob (O (.func 137) [ad,P] h) λae h=>ob (M.aD (aQ N) h) λaf h=>ob (M.aD (aG 0 af) h) λag h=>ob (M.aD (aG 1 ag) h) λah h=>ob (ld1 ah h) λai h=>ob (M.aD (bin prog .leq 55 ae ai) h) λaj h=>ob (gd aj false (M.cA ae) h) λak h=>ob (gd aj false (M.cA N) h) λal h=>ob (gd aj false (M.aD (aQ al)) h) λam h=>ob (gd aj false (M.aD (aG 0 am)) h) λan h=>ob (gd aj false (M.aD (aG 0 an)) h) λao h=>ob (gd aj false (ld1 ao) h) λap h=>ob (gd aj false (M.aD (bin prog .add 55 ap (.int .u64 8))) h) λaq h=>ob (gd aj false (M.aD (bin prog .gtr 55 ak aq)) h) λar h=>ob (M.aD (cJ aj (.bool true) ar) h) λau h=>aL au (some (aJ [(.bool false)],h)) (ob (M.aD (aQ N) h) λav h=>ob (M.aD (aG 0 av) h) λaw h=>ob (M.aD (aG 1 aw) h) λax h=>ob (stN 1 ax ae h) λay h=>some (aJ [(.bool true)],h)):=by kernel_rfl
theorem aJP:cE prog O L 89 [N,P] h=ob (O (.func 138) [N,P] h) λaa h=>ob (M.aD (ext 0 aa) h) λab h=>ob (M.aD (ext 1 aa) h) λac h=>ob (M.aD (ext 2 aa) h) λad h=>ob (M.aD (un prog .not ad) h) λae h=>ob (gd ae false (M.cA ac) h) λaf h=>ob (gd ae false (M.aD (bin prog .eql 55 af (.int .u64 0))) h) λag h=>ob (M.aD (cJ ae (.bool true) ag) h) λah h=>ob (gd ah false (M.cA ac) h) λai h=>ob (gd ah false (M.cA N) h) λaj h=>ob (gd ah false (M.aD (aQ aj)) h) λak h=>ob (gd ah false (M.aD (aG 2 ak)) h) λal h=>ob (gd ah false (ld1 al) h) λam h=>ifB (true) (ob (gd ah false (M.cA N) h) λan h=>ob (gd ah false (M.aD (aQ an)) h) λao h=>ob (gd ah false (M.aD (aG 1 ao)) h) λap h=>ob (gd ah false (ld1 ap) h) λaq h=>ifB (true) (ob (gd ah false (M.aD (bin prog .sub 3 am aq)) h) λar h=>ob (gd ah false (cI prog 3 55 ar) h) λau h=>ob (gd ah false (M.aD (bin prog .gtr 55 ai au)) h) λav h=>ob (M.aD (cJ ah (.bool true) av) h) λaw h=>aL aw (some (aJ [(.bool false)],h)) (ob (M.aD (aQ N) h) λax h=>ob (M.aD (aG 0 ax) h) λay h=>ob (stN 1 ay ab h) λaz h=>some (aJ [(.bool true)],h)))):=by kernel_rfl
theorem Nu:cE prog O L 90 [N,P,Q,R] h=ob (cX 100 (Value.cells Q).toList .fix h) λaa h0=>ob (cX 39 (Value.cells R).toList .fix h0) λab h1=>ob (M.aD (aG 3 ab) h1) λac h2=>ob (ld1 ac h2) λad h3=>ifB (true) (ob (M.aD (aG 4 ab) h3) λae h4=>ob (ld1 ae h4) λaf h5=>ifB (true) (ob (M.aD (lN prog true [ad,af]) h5) λag h6=>ob (cI prog 5 3 ag h6) λah h7=>ob (M.aD (aQ N) h7) λai h8=>ob (M.aD (aG 1 ai) h8) λaj h9=>ob (M.aD (aG 0 aj) h9) λak h10=>ob (ld1 ak h10) λal h11=>ifB (true) (ob (M.aD (bin prog .geq 3 ah al) h11) λam h12=>aL am (some (aJ [(.int .u16 30)],h12)) (ob (M.aD (aG 1 aa) h12) λan h13=>ob (ld1 an h13) λao h14=>ob (M.aD (aG 2 ab) h14) λap h15=>ob (ld1 ap h15) λaq h16=>ob (O (.func 139) [ao,aq] h16) λar h17=>ob (M.aD (bin prog .neq 51 ar (.int .u16 0)) h17) λau h18=>aL au (some (aJ [ar],h18)) (ob (M.aD (aG 3 ab) h18) λav h19=>ob (ld1 av h19) λaw h20=>ob (cI prog 5 3 aw h20) λax h21=>ob (M.aD (aG 4 ab) h21) λay h22=>ob (ld1 ay h22) λaz h23=>ob (cI prog 5 3 az h23) λba h24=>ob (M.aD (aG 1 ab) h24) λbb h25=>ob (ld1 bb h25) λbc h26=>ob (cI prog 5 3 bc h26) λbd h27=>ob (M.aD (aG 5 ab) h27) λbe h28=>ob (ld1 be h28) λbf h29=>ob (M.aD (bld prog 54 [(0,ax),(1,ba),(2,bd),(3,bf)]) h29) λbg h30=>ob (cX 54 [(.int .i64 0),(.int .i64 0),(.int .i64 0),(.int .u32 0)] .fix h30) λbh h31=>ob (stN 4 bh bg h31) λbi h32=>ob (M.aD (aQ N) h32) λbj h33=>ob (M.aD (aG 15 bj) h33) λbk h34=>ob (ld1 bk h34) λbl h35=>ifB (true) (ob (M.aD (aG 1 bh) h35) λbm h36=>ob (ld1 bm h36) λbn h37=>ifB (true) (ob (O (.func 99) [N,bn] h37) λbo h38=>ifB (chk ((ld1 bk) h38) bl&&(true)) (ob (M.aD (aG 2 bh) h38) λbp h39=>ob (ld1 bp h39) λbq h40=>ifB (chk ((ld1 bp) h37) bq&&(true)) (ob (ldN 4 bh h40) λbr h41=>ifB (chk ((ldN 4 bh) h37) br&&(true)) (ob (O (.func 98) [bl,P,bo,bq,br] h41) λbs h42=>ifB (true) (some (aJ [(.int .u16 0)],h42)))))))))))):=by kernel_rfl
theorem aJl:cE prog O L 153 [N] h=ob (cX 141 (Value.cells N).toList .fix h) λaa h=>ob (M.aD (aG 1 aa) h) λab h=>ob (ld1 ab h) λac h=>ob (M.aD (aG 0 aa) h) λad h=>ob (ld1 ad h) λae h=>ob (M.aD (bin prog .sub 55 ac ae) h) λaf h=>ob (cI prog 55 3 af h) λag h=>some (aJ [ag],h):=by kernel_rfl
theorem Ys:cE prog O L 91 [N] h=ob (M.aD (bin prog .eql 69 N (.slice none 0 0)) h) λaa h=>aL aa (some (aJ [(.slice none 0 0)],h)) (ob (dL 54 4 0 [(.int .i64 0),(.int .i64 0),(.int .i64 0),(.int .u32 0)] [] h) λab h=>ob (app 54 4 32 ab N h) λac h=>some (aJ [ac],h)):=by kernel_rfl
theorem aI1:cE prog O L 110 [N] h=ob (M.aD (aQ N) h) λaa h=>ob (M.aD (aG 0 aa) h) λab h=>ob (ld1 ab h) λac h=>ifB (true) (ob (M.aD (aQ N) h) λad h=>ob (M.aD (aG 2 ad) h) λae h=>ob (ld1 ae h) λaf h=>ifB (true) (ob (M.aD (aQ N) h) λag h=>ob (M.aD (aG 1 ag) h) λah h=>ob (ld1 ah h) λai h=>ifB (true) (ob (M.aD (bin prog .sub 3 af ai) h) λaj h=>ob (cI prog 3 55 aj h) λak h=>ob (M.aD (bin prog .add 55 ac ak) h) λal h=>some (aJ [al],h)))):=by kernel_rfl
theorem aJQ:cE prog O L 92 [N] h=ob (cX 39 (Value.cells N).toList .fix h) λaa h=>ob (M.aD (aG 0 aa) h) λab h=>ob (ld1 ab h) λac h=>ob (M.aD (bin prog .eql 5 ac (.int .u8 1)) h) λad h=>aL ad (ob (M.aD (aG 1 aa) h) λae h=>ob (ld1 ae h) λaf h=>ob (M.aD (bin prog .lss 5 af (.int .u8 3)) h) λag h=>ob (gd ag true (M.aD (aG 3 aa)) h) λah h=>ob (gd ag true (ld1 ah) h) λai h=>ob (gd ag true (M.aD (aG 4 aa)) h) λaj h=>ob (gd ag true (ld1 aj) h) λak h=>ob (gd ag true (M.aD (lN prog true [ai,ak])) h) λal h=>ob (gd ag true (M.aD (bin prog .lss 5 al (.int .u8 6))) h) λam h=>ob (M.aD (cJ ag am (.bool false)) h) λan h=>ob (gd an true (M.aD (aG 3 aa)) h) λao h=>ob (gd an true (ld1 ao) h) λap h=>ob (gd an true (M.aD (aG 4 aa)) h) λaq h=>ob (gd an true (ld1 aq) h) λar h=>ob (gd an true (M.aD (bin prog .neq 5 ap ar)) h) λau h=>ob (M.aD (cJ an au (.bool false)) h) λav h=>some (aJ [av],h)) (ob (M.aD (bin prog .eql 5 ac (.int .u8 2)) h) λaw h=>aL aw (aL aw (ob (M.aD (aG 1 aa) h) λax h=>ob (ld1 ax h) λay h=>ob (M.aD (bin prog .lss 5 ay (.int .u8 3)) h) λaz h=>ob (gd az true (ldN 6 aa) h) λba h=>ob (gd az true (M.aD (aG 0 aa)) h) λbb h=>ob (gd az true (ld1 bb) h) λbc h=>ob (gd az true (M.aD (aG 1 aa)) h) λbd h=>ob (gd az true (ld1 bd) h) λbe h=>ob (gd az true (M.aD (aG 2 aa)) h) λbf h=>ob (gd az true (ld1 bf) h) λbg h=>ob (gd az true (M.aD (bld prog 39 [(0,bc),(1,be),(2,bg)])) h) λbh h=>ob (gd az true (M.aD (bin prog .eql 39 ba bh)) h) λbi h=>ob (M.aD (cJ az bi (.bool false)) h) λbj h=>some (aJ [bj],h)) (some (aJ [(.bool false)],h))) (ob (M.aD (bin prog .eql 5 ac (.int .u8 3)) h) λbk h=>aL bk (ob (M.aD (aG 1 aa) h) λbl h=>ob (ld1 bl h) λbm h=>ob (M.aD (bin prog .lss 5 bm (.int .u8 3)) h) λbn h=>ob (gd bn true (ldN 6 aa) h) λbo h=>ob (gd bn true (M.aD (aG 0 aa)) h) λbp h=>ob (gd bn true (ld1 bp) h) λbq h=>ob (gd bn true (M.aD (aG 1 aa)) h) λbr h=>ob (gd bn true (ld1 br) h) λbs h=>ob (gd bn true (M.aD (aG 2 aa)) h) λbt h=>ob (gd bn true (ld1 bt) h) λbu h=>ob (gd bn true (M.aD (bld prog 39 [(0,bq),(1,bs),(2,bu)])) h) λbv h=>ob (gd bn true (M.aD (bin prog .eql 39 bo bv)) h) λbw h=>ob (M.aD (cJ bn bw (.bool false)) h) λbx h=>some (aJ [bx],h)) (some (aJ [(.bool false)],h)))):=by kernel_rfl
theorem aJR:cE prog O L 93 [N,P] h=ob (M.aD (bin prog .shr 23 P (.int .u64 8)) h) λaa h=>ob (cI prog 23 5 aa h) λab h=>ob (cI prog 23 5 P h) λac h=>ob (dL 5 1 2 [(.int .u8 0)] [(0,ab),(1,ac)] h) λad h=>ob (app 5 1 1 N ad h) λae h=>some (aJ [ae],h):=by kernel_rfl
theorem aJS:cE prog O L 94 [N,P] h=ob (M.aD (bin prog .shr 37 P (.int .u64 16)) h) λaa h=>ob (cI prog 37 23 aa h) λab h=>ob (O (.func 93) [N,ab] h) λac h=>ob (cI prog 37 23 P h) λad h=>ob (O (.func 93) [ac,ad] h) λae h=>some (aJ [ae],h):=by kernel_rfl
def Nv:Code:=b9 [1,1,0,1,0,0] (cB prog 95)
def Nx:KV:=(dQ 0 (eD prog O L (b9 [1,1,1] (cB prog 95)) (fG prog Tryz.f95)))
theorem aJT:Nx O L (.exit 0) [a,b,c,d,e,f,g,i,j,l,m,n,o,p,q,r] h=ob (ld1 d h) λaa h=>some (aJ [aa],h):=by kernel_rfl
theorem Yt:aK prog O L Nv k [a,b,c,d,e,f,g,i,j,l,m,n,o,p,q,r] h=ob (M.aD (bin prog .lss 3 j i) h) λaa h=>aL aa (ob (M.aD (aR 1 g j) h) λab h=>ob (ld1 ab h) λac h=>ob (O (.func 140) [d,ac] h) λad h=>ob (M.aD (bin prog .add 3 j (.int .i64 1)) h) λae h=>k .normal [a,b,c,d,e,ac,g,i,ae,aa,ab,ac,ac,ad,ae,r] h) (k (.exit 0) [a,b,c,d,e,f,g,i,j,aa,m,n,o,p,q,r] h):=by kernel_rfl
theorem aJU:cE prog O L 95 [N] h=ob (cX 253 [(.int .u16 0)] .fix h) λaa h=>ob (stN 1 aa (.int .u16 65535) h) λab h=>ob (M.aD (bM N) h) λac h=>L (aK prog O L Nv) (Nx O L) [N,undef,(.int .u16 0),aa,undef,undef,N,ac,(.int .i64 0),undef,undef,undef,undef,undef,undef,undef] h:=by kernel_rfl
theorem Yu:cE prog O L 97 [N,P] h=ob (cX 54 [(.int .i64 0),(.int .i64 0),(.int .i64 0),(.int .u32 0)] .fix h) λaa h=>ob (O (.func 141) [N,P] h) λab h=>ob (M.aD (bin prog .eql 3 ab (.int .i64 0)) h) λac h=>aL ac (ob (M.aD (bld prog 54 []) h) λad h=>ob (stN 4 aa ad h) λae h=>ob (ldN 4 aa h) λw5 _=>some (aJ [w5,(.bool false)],h)) (ob (M.aD (aQ N) h) λaf h=>ob (M.aD (aG 0 af) h) λag h=>ob (M.aD (qO 3 1 ag P) h) λah h=>ob (ld1 ah h) λai h=>ob (M.aD (aR 4 ai (.int .i64 0)) h) λaj h=>ob (ldN 4 aj h) λak h=>ob (cX 54 [(.int .i64 0),(.int .i64 0),(.int .i64 0),(.int .u32 0)] .fix h) λal h=>ob (stN 4 al ak h) λam h=>ob (M.aD (aQ N) h) λan h=>ob (M.aD (aG 0 an) h) λao h=>ob (M.aD (qO 3 1 ao P) h) λap h=>ob (ld1 ap h) λaq h=>ifB (true) (ob (slc prog 4 aq (some (.int .i64 1)) none none h) λar h=>ifB (true) (ob (M.aD (aQ N) h) λau h=>ob (M.aD (aG 0 au) h) λav h=>ob (M.aD (qO 3 1 av P) h) λaw h=>ob (stN 1 aw ar h) λax h=>ifB (true) (ob (ldN 4 al h) λay h=>ob (stN 4 aa ay h) λaz h=>ob (ldN 4 aa h) λw25 _=>some (aJ [w25,(.bool true)],h))))):=by kernel_rfl
theorem aJV:cE prog O L 99 [N,P] h=ob (M.aD (aQ N) h) λaa h=>ob (M.aD (aG 12 aa) h) λab h=>ob (ld1 ab h) λac h=>ob (M.aD (bin prog .eql 3 P ac) h) λad h=>aL ad (some (aJ [(.int .i64 0)],h)) (ob (M.aD (aQ N) h) λae h=>ob (M.aD (aG 1 ae) h) λaf h=>ob (M.aD (aG 10 af) h) λag h=>ob (ld1 ag h) λah h=>ifB (true) (ob (M.aD (aQ N) h) λai h=>ob (M.aD (aG 12 ai) h) λaj h=>ob (ld1 aj h) λak h=>ifB (true) (ob (M.aD (aR 1 ah ak) h) λal h=>ob (ld1 al h) λam h=>ifB (true) (ob (M.aD (aR 1 am P) h) λan h=>ob (ld1 an h) λao h=>ifB (true) (ob (cX 3 [(.int .i64 0)] .fix h) λap h=>ob (stN 1 ap ao h) λaq h=>ifB (true) (ob (M.aD (aQ N) h) λar h=>ob (M.aD (aG 13 ar) h) λau h=>ob (ld1 au h) λav h=>ob (slc prog 3 av (some (.int .i64 1)) none none h) λaw h=>ob (O (.func 85) [aw,(.func (.func 144) #[] #[ap])] h) λax h=>ob (M.aD (bin prog .add 3 ax (.int .i64 1)) h) λay h=>some (aJ [ay],h))))))):=by kernel_rfl
def Ml:Code:=b9 [1,1,1,1,1,1,0,0,0] (cB prog 100)
def Mm:KV:=(dQ 0 (eD prog O L (b9 [1,1,1,1,1,1,1] (cB prog 100)) (fG prog Tryz.f100)))
theorem aIO:Mm O L (.exit 0) [a,b,c,d,e,f,g,i,j,l,m,n,o,p,q,r,s,t,u,v,w,x,y,z,A,B,C,D,E,F,G,H,I,J,zz,zy,zx,zw,zv,zu,zt,zs,zr,zq,zp,zo,zn,zm] h=some (aJ [i],h):=by kernel_rfl
theorem aIK:aK prog O L Ml k [a,b,c,d,e,f,g,i,j,l,m,n,o,p,q,r,s,t,u,v,w,x,y,z,A,B,C,D,E,F,G,H,I,J,zz,zy,zx,zw,zv,zu,zt,zs,zr,zq,zp,zo,zn,zm] h=ob (M.aD (bM i) h) λaa h=>ob (M.aD (bin prog .lss 3 j aa) h) λab h=>aL ab (ob (slc prog 1 i (some j) none none h) λac h=>ifB (true) (ob (slc prog 1 i none (some j) none h) λad h=>ifB (true) (ob (cpy 1 ac ad h) λae h=>ifB (true) (ob (M.aD (bin prog .add 3 j ae) h) λaf h=>k .normal [a,b,c,d,e,f,g,i,af,l,m,n,o,p,q,r,s,t,u,v,w,x,y,z,A,B,C,D,E,F,G,H,I,J,j,i,aa,ab,j,i,j,ac,i,j,ad,ae,af,zm] h)))) (k (.exit 0) [a,b,c,d,e,f,g,i,j,l,m,n,o,p,q,r,s,t,u,v,w,x,y,z,A,B,C,D,E,F,G,H,I,J,j,i,aa,ab,zv,zu,zt,zs,zr,zq,zp,zo,zn,zm] h):=by kernel_rfl
def aIN:Code:=b9 [1,1,1,1,1,1,0,0,0] (cB prog 100)
def aIS:KV:=(dQ 0 (eD prog O L (b9 [1,1,1,1,1,1,1] (cB prog 100)) (fG prog Tryz.f100)))
def aIM:Code:=b9 [1,1,1,1,1,1,0,0,0] (cB prog 100)
def aIR:KV:=(dQ 0 (eD prog O L (b9 [1,1,1,1,1,1,1] (cB prog 100)) (fG prog Tryz.f100)))
def aIL:Code:=b9 [1,1,1,1,1,1,0,0,0] (cB prog 100)
def aIQ:KV:=(dQ 0 (eD prog O L (b9 [1,1,1,1,1,1,1] (cB prog 100)) (fG prog Tryz.f100)))
theorem aIP:cE prog O L 100 [N,P] h=ob (M.aD (bin prog .lss 3 P (.int .i64 0)) h) λaa h=>aL aa (ob (M.dP /- operation -/ h) λab h=>ob (M.dP /- operation -/ h) λac h=>ob (M.aD (bM N) h) λad h=>ob (cI prog 3 116 ad h) λae h=>ob (cI prog 3 116 P h) λaf h=>ob (O (.func 145) [ae,af] h) λag h=>ob (M.aD (ext 0 ag) h) λah h=>ob (M.aD (ext 1 ag) h) λai h=>ob (M.aD (bin prog .gtr 116 ah (.int .u64 0)) h) λaj h=>ob (gd aj false (M.cA ai) h) λak h=>ob (gd aj false (M.aD (bin prog .gtr 116 ak (.int .u64 9223372036854775807))) h) λal h=>ob (M.aD (cJ aj (.bool true) al) h) λam h=>aL am (ob (M.dP /- operation -/ h) λan h=>ob (M.dP /- operation -/ h) λao h=>ob (cI prog 116 3 ai h) λap h=>ob (lO 3 1 8 [(.int .i64 0)] ap ap h) λaq h=>ob (cpy 1 aq N h) λar h=>L (aK prog O L aIL) (aIQ O L) [N,P,undef,undef,(.slice none 0 0),ah,ai,aq,ar,P,aa,ab,ag,N,ad,ae,P,af,ag,ah,ai,ah,aj,aj,ak,al,am,an,ai,ap,aq,aq,N,ar,undef,undef,undef,undef,undef,undef,undef,undef,undef,undef,undef,undef,undef,undef] h) (ob (cI prog 116 3 ai h) λau h=>ob (lO 3 1 8 [(.int .i64 0)] au au h) λav h=>ob (cpy 1 av N h) λaw h=>L (aK prog O L aIM) (aIR O L) [N,P,undef,undef,(.slice none 0 0),ah,ai,av,aw,P,aa,ab,ag,N,ad,ae,P,af,ag,ah,ai,ah,aj,aj,ak,al,am,undef,ai,au,av,av,N,aw,undef,undef,undef,undef,undef,undef,undef,undef,undef,undef,undef,undef,undef,undef] h)) (ob (M.aD (bM N) h) λax h=>ob (cI prog 3 116 ax h) λay h=>ob (cI prog 3 116 P h) λaz h=>ob (O (.func 145) [ay,az] h) λba h=>ob (M.aD (ext 0 ba) h) λbb h=>ob (M.aD (ext 1 ba) h) λbc h=>ob (M.aD (bin prog .gtr 116 bb (.int .u64 0)) h) λbd h=>ob (gd bd false (M.cA bc) h) λbe h=>ob (gd bd false (M.aD (bin prog .gtr 116 be (.int .u64 9223372036854775807))) h) λbf h=>ob (M.aD (cJ bd (.bool true) bf) h) λbg h=>aL bg (ob (M.dP /- operation -/ h) λbh h=>ob (M.dP /- operation -/ h) λbi h=>ob (cI prog 116 3 bc h) λbj h=>ob (lO 3 1 8 [(.int .i64 0)] bj bj h) λbk h=>ob (cpy 1 bk N h) λbl h=>L (aK prog O L aIN) (aIS O L) [N,P,undef,undef,(.slice none 0 0),bb,bc,bk,bl,P,aa,undef,ba,N,ax,ay,P,az,ba,bb,bc,bb,bd,bd,be,bf,bg,bh,bc,bj,bk,bk,N,bl,undef,undef,undef,undef,undef,undef,undef,undef,undef,undef,undef,undef,undef,undef] h) (ob (cI prog 116 3 bc h) λbm h=>ob (lO 3 1 8 [(.int .i64 0)] bm bm h) λbn h=>ob (cpy 1 bn N h) λbo h=>L (aK prog O L Ml) (Mm O L) [N,P,undef,undef,(.slice none 0 0),bb,bc,bn,bo,P,aa,undef,ba,N,ax,ay,P,az,ba,bb,bc,bb,bd,bd,be,bf,bg,undef,bc,bm,bn,bn,N,bo,undef,undef,undef,undef,undef,undef,undef,undef,undef,undef,undef,undef,undef,undef] h)):=by kernel_rfl
def Mn:Code:=b9 [1,1,0,1,0,0] (cB prog 102)
def Mo:KV:=(dQ 0 (eD prog O L (b9 [1,1,1] (cB prog 102)) (fG prog Tryz.f102)))
theorem aIT:Mo O L (.exit 0) [a,b,c,d,e,f,g,i,j,l,m,n,o,p,q,r,s,t,u,v,w,x,y,z,A,B,C,D,E,F,G,H,I,J,zz,zy,zx,zw,zv,zu,zt,zs,zr,zq,zp,zo,zn,zm,zl,zk,zj,zi,zh,zg,zf,ze,zd] h=some (aJ [i],h):=by kernel_rfl
theorem X4:aK prog O L Mn k [a,b,c,d,e,f,g,i,j,l,m,n,o,p,q,r,s,t,u,v,w,x,y,z,A,B,C,D,E,F,G,H,I,J,zz,zy,zx,zw,zv,zu,zt,zs,zr,zq,zp,zo,zn,zm,zl,zk,zj,zi,zh,zg,zf,ze,zd] h=ob (M.aD (bin prog .lss 3 s r) h) λaa h=>aL aa (ob (M.aD (aR 1 q s) h) λab h=>ob (ld1 ab h) λac h=>ob (M.aD (aQ b) h) λad h=>ob (M.aD (aG 1 ad) h) λae h=>ob (ld1 ae h) λaf h=>ifB (true) (ob (M.aD (bin prog .and 23 ac af) h) λag h=>ob (M.aD (aQ a) h) λah h=>ob (M.aD (aG 0 ah) h) λai h=>ob (ld1 ai h) λaj h=>ifB (true) (ob (M.aD (aR 1 aj s) h) λak h=>ob (ld1 ak h) λal h=>ifB (true) (ob (M.aD (bM c) h) λam h=>ob (O (.func 103) [ag,al,am] h) λan h=>ifB (true) (ob (M.aD (bin prog .neq 3 an (.int .i64 (-1))) h) λao h=>ob (gd ao true (M.cA b) h) λap h=>ob (gd ao true (M.aD (aQ ap)) h) λaq h=>ob (gd ao true (M.aD (aG 2 aq)) h) λar h=>ob (gd ao true (ld1 ar) h) λau h=>ob (gd ao true (M.cA s) h) λav h=>ob (gd ao true (O (.func 148) [au,av]) h) λaw h=>ob (M.aD (cJ ao aw (.bool false)) h) λax h=>aL ax (ob (M.aD (aR 1 i an) h) λay h=>ob (ld1 ay h) λaz h=>ifB (true) (ob (M.aD (bin prog .shl 23 (.int .u16 1) s) h) λba h=>ob (M.aD (bin prog .or 23 az ba) h) λbb h=>ob (M.aD (aR 1 i an) h) λbc h=>ob (stN 1 bc bb h) λbd h=>ifB (true) (ob (M.aD (bin prog .add 3 s (.int .i64 1)) h) λbe h=>k .normal [a,b,c,d,e,f,g,i,s,ac,an,n,o,p,q,r,be,aa,s,ab,ac,ac,b,ad,ae,af,ag,a,ah,ai,aj,s,ak,al,c,am,an,an,ao,ao,ap,aq,ar,au,av,aw,ax,i,an,ay,az,s,ba,bb,bc,be,zd] h))) (ob (M.aD (bin prog .add 3 s (.int .i64 1)) h) λbf h=>k .normal [a,b,c,d,e,f,g,i,s,ac,an,n,o,p,q,r,bf,aa,s,ab,ac,ac,b,ad,ae,af,ag,a,ah,ai,aj,s,ak,al,c,am,an,an,ao,ao,ap,aq,ar,au,av,aw,ax,zm,zl,zk,zj,zi,zh,zg,zf,bf,zd] h)))))) (k (.exit 0) [a,b,c,d,e,f,g,i,j,l,m,n,o,p,q,r,s,aa,u,v,w,x,y,z,A,B,C,D,E,F,G,H,I,J,zz,zy,zx,zw,zv,zu,zt,zs,zr,zq,zp,zo,zn,zm,zl,zk,zj,zi,zh,zg,zf,ze,zd] h):=by kernel_rfl
theorem aIU:cE prog O L 102 [N,P,Q] h=ob (M.aD (bM Q) h) λaa h=>ob (lO 23 1 2 [(.int .u16 0)] aa aa h) λab h=>ob (M.aD (bM Q) h) λac h=>L (aK prog O L Mn) (Mo O L) [N,P,Q,undef,undef,undef,(.slice none 0 0),ab,undef,undef,undef,Q,aa,ab,Q,ac,(.int .i64 0),undef,undef,undef,undef,undef,undef,undef,undef,undef,undef,undef,undef,undef,undef,undef,undef,undef,undef,undef,undef,undef,undef,undef,undef,undef,undef,undef,undef,undef,undef,undef,undef,undef,undef,undef,undef,undef,undef,undef,undef] h:=by kernel_rfl
def Mp:Code:=b9 [1,1,0,1,0,0] (cB prog 104)
def Mq:KV:=(dQ 0 (eD prog O L (b9 [1,1,1] (cB prog 104)) (fG prog Tryz.f104)))
theorem aIV:Mq O L (.exit 0) [a,b,c,d,e,f,g,i,j,l,m,n,o,p,q,r,s,t,u,v,w,x,y,z,A,B,C,D,E,F,G,H,I,J,zz,zy,zx,zw,zv,zu,zt,zs,zr,zq,zp,zo,zn,zm,zl,zk] h=some (aJ [i],h):=by kernel_rfl
theorem X5:aK prog O L Mp k [a,b,c,d,e,f,g,i,j,l,m,n,o,p,q,r,s,t,u,v,w,x,y,z,A,B,C,D,E,F,G,H,I,J,zz,zy,zx,zw,zv,zu,zt,zs,zr,zq,zp,zo,zn,zm,zl,zk] h=ob (M.aD (bin prog .lss 3 q p) h) λaa h=>aL aa (ob (M.aD (aQ a) h) λab h=>ob (M.aD (aG 15 ab) h) λac h=>ob (ld1 ac h) λad h=>ob (O (.func 96) [ad,b,c,q] h) λae h=>ob (M.aD (bin prog .eql 3 ae (.int .i64 0)) h) λaf h=>aL af (ob (M.aD (bin prog .add 3 q (.int .i64 1)) h) λag h=>k .normal [a,b,c,d,e,f,g,i,q,l,m,n,o,p,ag,aa,q,a,ab,ac,ad,b,c,q,ae,af,C,D,E,F,G,H,I,J,zz,zy,zx,zw,zv,zu,zt,zs,zr,zq,zp,zo,zn,zm,ag,zk] h) (ob (M.aD (bin prog .eql 3 c (.int .i64 0)) h) λah h=>ob (gd ah false (M.cA a) h) λai h=>ob (gd ah false (M.aD (aQ ai)) h) λaj h=>ob (gd ah false (M.aD (aG 13 aj)) h) λak h=>ob (gd ah false (ld1 ak) h) λal h=>ob (gd ah false (M.cA c) h) λam h=>ob (gd ah false (M.aD (aR 3 al am)) h) λan h=>ob (gd ah false (M.aD (aG 1 an)) h) λao h=>ob (gd ah false (ld1 ao) h) λap h=>ob (gd ah false (M.cA q) h) λaq h=>ob (gd ah false (M.aD (aR 2 ap aq)) h) λar h=>ob (gd ah false (M.aD (aG 0 ar)) h) λau h=>ob (gd ah false (ld1 au) h) λav h=>ob (gd ah false (O (.func 149) [av]) h) λaw h=>ob (gd ah false (M.aD (bin prog .gtr 3 aw (.int .i64 0))) h) λax h=>ob (M.aD (cJ ah (.bool true) ax) h) λay h=>aL ay (ob (M.aD (bin prog .shl 23 (.int .u16 1) q) h) λaz h=>ob (M.aD (bin prog .or 23 i az) h) λba h=>ob (M.aD (bin prog .add 3 q (.int .i64 1)) h) λbb h=>k .normal [a,b,c,d,e,f,g,ba,q,l,m,n,o,p,bb,aa,q,a,ab,ac,ad,b,c,q,ae,af,c,ah,ah,ai,aj,ak,al,am,an,ao,ap,aq,ar,au,av,aw,ax,ay,i,q,az,ba,bb,zk] h) (ob (M.aD (bin prog .add 3 q (.int .i64 1)) h) λbc h=>k .normal [a,b,c,d,e,f,g,i,q,l,m,n,o,p,bc,aa,q,a,ab,ac,ad,b,c,q,ae,af,c,ah,ah,ai,aj,ak,al,am,an,ao,ap,aq,ar,au,av,aw,ax,ay,zp,zo,zn,zm,bc,zk] h))) (k (.exit 0) [a,b,c,d,e,f,g,i,j,l,m,n,o,p,q,aa,s,t,u,v,w,x,y,z,A,B,C,D,E,F,G,H,I,J,zz,zy,zx,zw,zv,zu,zt,zs,zr,zq,zp,zo,zn,zm,zl,zk] h):=by kernel_rfl
theorem aIW:cE prog O L 104 [N,P,Q] h=ob (M.aD (aQ N) h) λaa h=>ob (M.aD (aG 1 aa) h) λab h=>ob (M.aD (aG 2 ab) h) λac h=>ob (ld1 ac h) λad h=>L (aK prog O L Mp) (Mq O L) [N,P,Q,undef,undef,undef,(.int .u16 0),(.int .u16 0),undef,N,aa,ab,ac,ad,(.int .i64 0),undef,undef,undef,undef,undef,undef,undef,undef,undef,undef,undef,undef,undef,undef,undef,undef,undef,undef,undef,undef,undef,undef,undef,undef,undef,undef,undef,undef,undef,undef,undef,undef,undef,undef,undef] h:=by kernel_rfl
theorem aIX:cE prog O L 105 [N,P] h=ob (M.aD (aQ N) h) λaa h0=>ob (M.aD (aG 0 aa) h0) λab h1=>ob (ld1 ab h1) λac h2=>ob (M.aD (bM ac) h2) λad h3=>ob (M.aD (bin prog .shl 23 (.int .u16 1) ad) h3) λae h4=>ob (M.aD (bin prog .sub 23 ae (.int .u16 1)) h4) λaf h5=>ob (M.aD (bin prog .and 23 P af) h5) λag h6=>ob (M.aD (bin prog .eql 23 ag (.int .u16 0)) h6) λah h7=>aL ah (some (aJ [(.int .i64 (-1))],h7)) (ob (O (.func 150) [N] h7) λai h8=>ob (M.aD (bin prog .and 23 ag ai) h8) λaj h9=>ob (M.aD (bin prog .eql 23 aj (.int .u16 0)) h9) λak h10=>aL ak (ob (M.aD (aQ N) h10) λal h11=>ob (M.aD (aG 1 al) h11) λam h12=>ob (ld1 am h12) λan h13=>ifB (true) (ob (M.aD (aQ N) h13) λao h14=>ob (M.aD (aG 0 ao) h14) λap h15=>ob (ld1 ap h15) λaq h16=>ifB (true) (ob (cpy 1 an aq h16) λar h17=>ifB (true) (ob (O (.func 150) [N] h17) λau h18=>ifB (true) (ob (M.aD (bin prog .and 23 ag au) h18) λav h19=>ob (M.aD (aQ N) h19) λaw h20=>ob (M.aD (aG 2 aw) h20) λax h21=>ob (ld1 ax h21) λay h22=>ifB (chk ((ld1 ax) h17) ay&&(true)) (ob (O (.func 103) [av,ay,ad] h22) λaz h23=>ifB (true) (ob (M.aD (aQ N) h23) λba h24=>ob (M.aD (aG 1 ba) h24) λbb h25=>ob (ld1 bb h25) λbc h26=>ob (M.aD (aR 1 bc az) h26) λbd h27=>ob (ld1 bd h27) λbe h28=>ob (M.aD (bin prog .sub 3 be (.int .i64 1)) h28) λbf h29=>ob (M.aD (aR 1 bc az) h29) λbg h30=>ob (stN 1 bg bf h30) λbh h31=>ob (M.aD (bin prog .add 3 az (.int .i64 1)) h31) λbi h32=>ob (M.aD (bin prog .rem 3 bi ad) h32) λbj h33=>ob (M.aD (aQ N) h33) λbk h34=>ob (M.aD (aG 2 bk) h34) λbl h35=>ob (stN 1 bl bj h35) λbm h36=>some (aJ [az],h36)))))))) (ob (O (.func 150) [N] h10) λbn h37=>ifB (true) (ob (M.aD (bin prog .and 23 ag bn) h37) λbo h38=>ob (M.aD (aQ N) h38) λbp h39=>ob (M.aD (aG 2 bp) h39) λbq h40=>ob (ld1 bq h40) λbr h41=>ifB (chk ((ld1 bq) h10) br&&(true)) (ob (O (.func 103) [bo,br,ad] h41) λbs h42=>ifB (true) (ob (M.aD (aQ N) h42) λbt h43=>ob (M.aD (aG 1 bt) h43) λbu h44=>ob (ld1 bu h44) λbv h45=>ob (M.aD (aR 1 bv bs) h45) λbw h46=>ob (ld1 bw h46) λbx h47=>ob (M.aD (bin prog .sub 3 bx (.int .i64 1)) h47) λbz h48=>ob (M.aD (aR 1 bv bs) h48) λca h49=>ob (stN 1 ca bz h49) λcb h50=>ob (M.aD (bin prog .add 3 bs (.int .i64 1)) h50) λcc h51=>ob (M.aD (bin prog .rem 3 cc ad) h51) λcd h52=>ob (M.aD (aQ N) h52) λce h53=>ob (M.aD (aG 2 ce) h53) λcf h54=>ob (stN 1 cf cd h54) λcg h55=>some (aJ [bs],h55)))))):=by kernel_rfl
theorem aIY:cE prog O L 107 [N] h=ob (M.aD (aQ N) h) λaa h=>ob (M.aD (aG 1 aa) h) λab h=>ob (ld1 ab h) λac h=>ob (M.aD (bin prog .eql 3 ac (.int .i64 0)) h) λad h=>aL ad (some (aJ [(.bool false)],h)) (ob (M.aD (aQ N) h) λae h=>ob (M.aD (aG 1 ae) h) λaf h=>ob (ld1 af h) λag h=>ob (M.aD (bin prog .sub 3 ag (.int .i64 1)) h) λah h=>ob (M.aD (aQ N) h) λai h=>ob (M.aD (aG 1 ai) h) λaj h=>ob (stN 1 aj ah h) λak h=>some (aJ [(.bool true)],h)):=by kernel_rfl
theorem aIZ:cE prog O L 108 [N,P] h=ob (cX 54 (Value.cells P).toList .fix h) λaa h=>ob (M.aD (aQ N) h) λab h=>ob (M.aD (aG 3 ab) h) λac h=>ob (ld1 ac h) λad h=>ifB (true) (ob (ldN 4 aa h) λae h=>ifB (true) (ob (dL 54 4 1 [(.int .i64 0),(.int .i64 0),(.int .i64 0),(.int .u32 0)] [(0,ae)] h) λaf h=>ob (app 54 4 32 ad af h) λag h=>ifB (true) (ob (M.aD (aQ N) h) λah h=>ob (M.aD (aG 3 ah) h) λai h=>ob (stN 1 ai ag h) λaj h=>ifB (true) (some (aJ [],h))))):=by kernel_rfl
theorem aI0:cE prog O L 109 [N] h=ob (M.aD (aQ N) h) λaa h=>ob (M.aD (aG 0 aa) h) λab h=>ob (ldN 2 ab h) λac h=>ob (O (.func 153) [ac] h) λad h=>ob (M.aD (bin prog .eql 3 ad (.int .i64 0)) h) λae h=>aL ae (some (aJ [(.int .u64 0),(.bool false)],h)) (ob (M.aD (aQ N) h) λaf h=>ob (M.aD (aG 0 af) h) λag h=>ob (M.aD (aG 0 ag) h) λah h=>ob (ld1 ah h) λai h=>ob (M.aD (aQ N) h) λaj h=>ob (M.aD (aG 0 aj) h) λak h=>ob (M.aD (aG 0 ak) h) λal h=>ob (ld1 al h) λam h=>ob (M.aD (bin prog .add 55 am (.int .u64 1)) h) λan h=>ob (M.aD (aQ N) h) λao h=>ob (M.aD (aG 0 ao) h) λap h=>ob (M.aD (aG 0 ap) h) λaq h=>ob (stN 1 aq an h) λar h=>some (aJ [ai,(.bool true)],h)):=by kernel_rfl
def My:Code:=b9 [1,1,0,1,0,0] (cB prog 136)
def Mz:KV:=(dQ 0 (eD prog O L (b9 [1,1,1] (cB prog 136)) (fG prog Tryz.f136)))
theorem aI5:Mz O L (.exit 0) [a,b,c,d,e,f,g,i,j,l,m,n,o,p,q,r,s,t,u] h=some (aJ [d],h):=by kernel_rfl
theorem Ya:aK prog O L My k [a,b,c,d,e,f,g,i,j,l,m,n,o,p,q,r,s,t,u] h=ob (M.aD (bin prog .lss 3 j i) h) λaa h=>aL aa (ob (M.aD (aR 1 g j) h) λab h=>ob (ld1 ab h) λac h=>ob (M.aD (bin prog .shl 37 d (.int .u64 8)) h) λad h=>ob (cI prog 5 37 ac h) λae h=>ob (M.aD (bin prog .or 37 ad ae) h) λaf h=>ob (M.aD (bin prog .add 3 j (.int .i64 1)) h) λag h=>k .normal [a,b,c,af,e,ac,g,i,ag,aa,ab,ac,d,ad,ac,ae,af,ag,u] h) (k (.exit 0) [a,b,c,d,e,f,g,i,j,aa,m,n,o,p,q,r,s,t,u] h):=by kernel_rfl
theorem aI6:cE prog O L 136 [N] h=ob (M.aD (bM N) h) λaa h=>L (aK prog O L My) (Mz O L) [N,undef,(.int .u32 0),(.int .u32 0),undef,undef,N,aa,(.int .i64 0),undef,undef,undef,undef,undef,undef,undef,undef,undef,undef] h:=by kernel_rfl
theorem aI7:cE prog O L 137 [N,P] h=ob (M.aD (bin prog .sub 55 N (.int .u64 32768)) h) λaa h=>ob (O (.func 174) [aa] h) λab h=>ob (M.aD (bin prog .sub 23 P ab) h) λac h=>ob (cI prog 23 55 ac h) λad h=>ob (M.aD (bin prog .add 55 aa ad) h) λae h=>some (aJ [ae],h):=by kernel_rfl
theorem aI8:cE prog O L 138 [N,P] h=ob (M.aD (aQ N) h) λaa h=>ob (M.aD (aG 0 aa) h) λab h=>ob (ld1 ab h) λac h=>ob (O (.func 137) [ac,P] h) λad h=>ob (M.aD (aQ N) h) λae h=>ob (M.aD (aG 0 ae) h) λaf h=>ob (ld1 af h) λag h=>ifB (true) (ob (M.aD (bin prog .sub 55 ad ag) h) λah h=>ob (M.aD (aQ N) h) λai h=>ob (M.aD (aG 0 ai) h) λaj h=>ob (ld1 aj h) λak h=>ifB (true) (ob (M.aD (bin prog .geq 55 ad ak) h) λal h=>some (aJ [ad,ah,al],h))):=by kernel_rfl
theorem aI9:cE prog O L 139 [N,P] h=ob (O (.func 138) [N,P] h) λaa h=>ob (M.aD (ext 0 aa) h) λab h=>ob (M.aD (ext 1 aa) h) λac h=>ob (M.aD (ext 2 aa) h) λad h=>ob (M.aD (un prog .not ad) h) λae h=>aL ae (some (aJ [(.int .u16 60)],h)) (ob (M.aD (aQ N) h) λaf h=>ob (M.aD (aG 2 af) h) λag h=>ob (ld1 ag h) λah h=>ifB (true) (ob (M.aD (aQ N) h) λai h=>ob (M.aD (aG 1 ai) h) λaj h=>ob (ld1 aj h) λak h=>ifB (true) (ob (M.aD (bin prog .sub 3 ah ak) h) λal h=>ob (cI prog 3 55 al h) λam h=>ob (M.aD (bin prog .geq 55 ac am) h) λan h=>aL an (some (aJ [(.int .u16 61)],h)) (ob (M.aD (bin prog .add 55 ab (.int .u64 1)) h) λao h=>ob (M.aD (aQ N) h) λap h=>ob (M.aD (aG 0 ap) h) λaq h=>ob (stN 1 aq ao h) λar h=>ob (M.aD (aQ N) h) λau h=>ob (M.aD (aG 1 au) h) λav h=>ob (ld1 av h) λaw h=>ob (M.aD (bin prog .add 3 aw (.int .i64 1)) h) λax h=>ob (M.aD (aQ N) h) λay h=>ob (M.aD (aG 1 ay) h) λaz h=>ob (stN 1 az ax h) λba h=>some (aJ [(.int .u16 0)],h))))):=by kernel_rfl
def M2:Code:=b9 [1,1,0,0] (cB prog 140)
def M3 (O:aE)(L:LV):KV:=(dQ 0 (fG prog Tryz.f140))
theorem aJc:M3 O L (.exit 0) [a,b,c,d,e,f,g,i,j,l,m,n,o,p,q,r,s] h=some (aJ [],h):=by kernel_rfl
theorem Yc:aK prog O L M2 k [a,b,c,d,e,f,g,i,j,l,m,n,o,p,q,r,s] h=ob (M.aD (bin prog .lss 3 o (.int .i64 8)) h) λaa h=>aL aa (ob (O (.func 175) [a] h) λab h=>ob (M.aD (bin prog .add 3 o (.int .i64 1)) h) λac h=>k .normal [a,b,c,d,e,f,g,i,j,l,m,n,ac,aa,a,ab,ac] h) (k (.exit 0) [a,b,c,d,e,f,g,i,j,l,m,n,o,aa,q,r,s] h):=by kernel_rfl
theorem aJd:cE prog O L 140 [N,P] h=ob (M.aD (aQ N) h) λaa h=>ob (ld1 aa h) λab h=>ob (cI prog 5 253 P h) λac h=>ob (M.aD (bin prog .shl 253 ac (.int .u64 8)) h) λad h=>ob (M.aD (bin prog .xor 253 ab ad) h) λae h=>ob (M.aD (aQ N) h) λaf h=>ob (stN 1 af ae h) λag h=>L (aK prog O L M2) (M3 O L) [N,P,undef,undef,N,aa,ab,P,ac,ad,ae,af,(.int .i64 0),undef,undef,undef,undef] h:=by kernel_rfl
theorem aJf:cE prog O L 144 [N,P] h=ob (cX 94 (Value.cells N).toList .fix h) λaa h=>ob (M.aD (aG 0 aa) h) λab h=>ob (ld1 ab h) λac h=>ob (ld1 P h) λad h=>ob (M.aD (bin prog .eql 3 ac ad) h) λae h=>some (aJ [ae],h):=by kernel_rfl
theorem aJh:cE prog O L 148 [N,P] h=ob (M.aD (bin prog .geq 3 P (.int .i64 0)) h) λaa h=>ob (gd aa true (M.cA P) h) λab h=>ob (gd aa true (M.aD (bin prog .lss 3 ab (.int .i64 16))) h) λac h=>ob (M.aD (cJ aa ac (.bool false)) h) λad h=>ob (gd ad true (M.cA N) h) λae h=>ob (gd ad true (M.cA P) h) λaf h=>ob (gd ad true (M.aD (bin prog .shr 23 ae af)) h) λag h=>ob (gd ad true (M.aD (bin prog .and 23 ag (.int .u16 1))) h) λah h=>ob (gd ad true (M.aD (bin prog .eql 23 ah (.int .u16 1))) h) λai h=>ob (M.aD (cJ ad ai (.bool false)) h) λaj h=>some (aJ [aj],h):=by kernel_rfl
def M4:Code:=b9 [1,1,0,1,0,0] (cB prog 150)
def M5:KV:=(dQ 0 (eD prog O L (b9 [1,1,1] (cB prog 150)) (fG prog Tryz.f150)))
theorem aJj:M5 O L (.exit 0) [a,b,c,d,e,f,g,i,j,l,m,n,o,p,q,r,s,t,u,v,w,x,y,z] h=some (aJ [d],h):=by kernel_rfl
theorem Yd:aK prog O L M4 k [a,b,c,d,e,f,g,i,j,l,m,n,o,p,q,r,s,t,u,v,w,x,y,z] h=ob (M.aD (bin prog .lss 3 n m) h) λaa h=>aL aa (ob (M.aD (aR 1 l n) h) λab h=>ob (ld1 ab h) λac h=>ob (M.aD (bin prog .gtr 3 ac (.int .i64 0)) h) λad h=>aL ad (ob (M.aD (bin prog .shl 23 (.int .u16 1) n) h) λae h=>ob (M.aD (bin prog .or 23 d ae) h) λaf h=>ob (M.aD (bin prog .add 3 n (.int .i64 1)) h) λag h=>k .normal [a,b,c,af,n,ac,g,i,j,l,m,ag,aa,n,ab,ac,ac,ad,d,n,ae,af,ag,z] h) (ob (M.aD (bin prog .add 3 n (.int .i64 1)) h) λah h=>k .normal [a,b,c,d,n,ac,g,i,j,l,m,ah,aa,n,ab,ac,ac,ad,u,v,w,x,ah,z] h)) (k (.exit 0) [a,b,c,d,e,f,g,i,j,l,m,n,aa,p,q,r,s,t,u,v,w,x,y,z] h):=by kernel_rfl
theorem aJk:cE prog O L 150 [N] h=ob (M.aD (aQ N) h) λaa h=>ob (M.aD (aG 1 aa) h) λab h=>ob (ld1 ab h) λac h=>ob (M.aD (bM ac) h) λad h=>L (aK prog O L M4) (M5 O L) [N,undef,(.int .u16 0),(.int .u16 0),undef,undef,N,aa,ab,ac,ad,(.int .i64 0),undef,undef,undef,undef,undef,undef,undef,undef,undef,undef,undef,undef] h:=by kernel_rfl
theorem aJm:cE prog O L 174 [N] h=ob (cI prog 55 23 N h) λaa h=>some (aJ [aa],h):=by kernel_rfl
theorem aJn:cE prog O L 175 [N] h=ob (M.aD (aQ N) h) λaa h=>ob (ld1 aa h) λab h=>ob (M.aD (bin prog .and 253 ab (.int .u16 32768)) h) λac h=>ob (M.aD (aQ N) h) λad h=>ob (ld1 ad h) λae h=>ob (M.aD (bin prog .shl 253 ae (.int .u64 1)) h) λaf h=>ob (M.aD (aQ N) h) λag h=>ob (stN 1 ag af h) λah h=>ob (M.aD (bin prog .neq 253 ac (.int .u16 0)) h) λai h=>aL ai (ob (M.aD (aQ N) h) λaj h=>ob (ld1 aj h) λak h=>ob (M.aD (bin prog .xor 253 ak (.int .u16 4129)) h) λal h=>ob (M.aD (aQ N) h) λam h=>ob (stN 1 am al h) λan h=>some (aJ [],h)) (some (aJ [],h)):=by kernel_rfl
theorem aJg:cE prog O L 145 [N,P] h=aL (.bool false) (ob (cI prog 116 37 N h) λaa h=>ob (cI prog 116 37 P h) λab h=>ob (O (.func 176) [aa,ab] h) λac h=>ob (M.aD (ext 0 ac) h) λad h=>ob (M.aD (ext 1 ac) h) λae h=>ob (cI prog 37 116 ad h) λaf h=>ob (cI prog 37 116 ae h) λag h=>some (aJ [af,ag],h)) (ob (O (.func 177) [N,P] h) λah h=>ob (M.aD (ext 0 ah) h) λai h=>ob (M.aD (ext 1 ah) h) λaj h=>some (aJ [ai,aj],h)):=by kernel_rfl
theorem aJo:cE prog O L 177 [N,P] h=ob (M.aD (bin prog .and 55 N (.int .u64 4294967295)) h) λaa h=>ob (M.aD (bin prog .shr 55 N (.int .u64 32)) h) λab h=>ob (M.aD (bin prog .and 55 P (.int .u64 4294967295)) h) λac h=>ob (M.aD (bin prog .shr 55 P (.int .u64 32)) h) λad h=>ob (M.aD (bin prog .mul 55 aa ac) h) λae h=>ob (M.aD (bin prog .mul 55 ab ac) h) λaf h=>ob (M.aD (bin prog .shr 55 ae (.int .u64 32)) h) λag h=>ob (M.aD (bin prog .add 55 af ag) h) λah h=>ob (M.aD (bin prog .and 55 ah (.int .u64 4294967295)) h) λai h=>ob (M.aD (bin prog .shr 55 ah (.int .u64 32)) h) λaj h=>ob (M.aD (bin prog .mul 55 aa ad) h) λak h=>ob (M.aD (bin prog .add 55 ai ak) h) λal h=>ob (M.aD (bin prog .mul 55 ab ad) h) λam h=>ob (M.aD (bin prog .add 55 am aj) h) λan h=>ob (M.aD (bin prog .shr 55 al (.int .u64 32)) h) λao h=>ob (M.aD (bin prog .add 55 an ao) h) λap h=>ob (M.aD (bin prog .mul 55 N P) h) λaq h=>some (aJ [ap,aq],h):=by kernel_rfl
end Go.Proofs.YtkeilicinggjmaaGreatDoor
end
namespace Go.Abs
theorem Yv: ∀(cs:List Value)(o:Nat)(v:Value),eT cs o [v]=cs.set o v
 |[],_,_=>by simp[eT]
 |c::cs,0,v=>by simp[eT]
 |c::cs,o+1,v=>by
  rw[List.set_cons_succ,<-Yv cs o v];simp[eT]
theorem cZ {H:aC}{b o:Nat}{cs:List Value}{e:TypeId}{k:Kind}{v:Value}(h:H[b]? =some (.cells cs e k))(hv:cs[o]? =some v):ld1 (.pointer (some ⟨b,o,none⟩)) H=some (v,H):=by
 rw[kV,h,uO,hv,xM]
theorem B6 {H:aC}{b o n:Nat}{cs:List Value}{e:TypeId}{k:Kind}(h:H[b]? =some (.cells cs e k))(hn:o+n<=cs.length):ldN n (.pointer (some ⟨b,o,none⟩)) H=some (.agg ((cs.drop o).take n).toArray,H):=by
 rw[rV,h,sO _ _ _ _ _ hn]
theorem tC {H:aC}{b o:Nat}{cs:List Value}{e:TypeId}{k:Kind}{v:Value}(h:H[b]? =some (.cells cs e k))(hk:k≠ .ro)(ho:o<cs.length)(hv:v.cells.toList=[v])(ha:dZ [v]=true):
  stN 1 (.pointer (some ⟨b,o,none⟩)) v H=some (undef,H.set b (.cells (cs.set o v) e k)):=by
 rw[mS 1 b o v (by rw[hv];rfl),h,hv,n9 b cs e k o [v] hk (by simp only[aPg,List.length_nil];omega) ha,Yv]
theorem zW {H:aC}{b o n:Nat}{cs vs:List Value}{e:TypeId}{k:Kind}{v:Value}(h:H[b]? =some (.cells cs e k))(hk:k≠ .ro)(hv:v.cells.toList=vs)(hn:vs.length=n)(ho:o+n<=cs.length)(ha:dZ vs=true):
  stN n (.pointer (some ⟨b,o,none⟩)) v H=some (undef,H.set b (.cells (eT cs o vs) e k)):=by
 subst hv;rw[mS n b o v hn,h,n9 b cs e k o _ hk (by rw[hn];exact ho) ha]
theorem kZ {H:aC}{b o:Nat}{cs:List Value}{e:TypeId}{k:Kind}{q:IntKind}{n:Int}(h:H[b]? =some (.cells cs e k))(hk:k≠ .ro)(ho:o<cs.length):
  stN 1 (.pointer (some ⟨b,o,none⟩)) (.int q n) H=some (undef,H.set b (.cells (cs.set o (.int q n)) e k)):=tC h hk ho rfl rfl
theorem iE {H:aC}{b:Nat}{x y:Blk}(h:H[b]? =some x):(H.set b y)[b]? =some y:=aO0 (aOU.mp h).1
theorem Nz (H:aC)(b:Nat)(x y:Blk):(H.set b x).set b y=H.set b y:=by simp
theorem dJ (H:aC)(x:Blk):(H++[x])[H.length]? =some x:=by simp
theorem nG (H:aC)(x y:Blk):(H++[x]).set H.length y=H++[y]:=by simp
theorem nF {H:aC}{b:Nat}{x:Blk}(h:H[b]? =some x)(y:Blk):(H++[y])[b]? =some x:=by rw[aOX (aOU.mp h).1,h]
theorem dE {H:aC}{b:Nat}{x:Blk}(h:H[b]? =some x):b<H.length:=(aOU.mp h).1
theorem aJZ (a b:Nat)(ha:a<18446744073709551616)(hb:b<18446744073709551616):IntKind.u64.wrap ((a:Int)-b)=(((a+(18446744073709551616-b))%18446744073709551616:Nat):Int):=by rw[sX];omega
theorem aJX (a b:Nat):IntKind.u64.wrap ((a:Int)+b)=(((a+b)%18446744073709551616:Nat):Int):=by rw[sX];omega
theorem aJY (a b:Nat)(ha:a<65536)(hb:b<65536):IntKind.u16.wrap ((a:Int)-b)=(((a+65536-b)%65536:Nat):Int):=by rw[Be];omega
theorem zU (a:Nat)(ha:a<18446744073709551616):IntKind.u64.wrap (a:Int)=a:=aEX (by omega) (by omega)
theorem Fx (a:Nat)(ha:a<4294967296):IntKind.u32.wrap (a:Int)=a:=Jf (by omega) (by omega)
theorem B5 (a:Nat):IntKind.u16.wrap (a:Int)=((a%65536:Nat):Int):=by rw[Be];omega
theorem Ny (a:Nat):IntKind.u8.wrap (a:Int)=((a%256:Nat):Int):=by rw[Bf];omega
theorem zV (a:Nat)(ha:a<9223372036854775808):IntKind.i64.wrap (a:Int)=a:=dG (by omega) (by omega)
theorem Br.ext {H H':aC}{u:Value}{bs:List UInt8}(h:Br H u bs)(he:Ext H H'):Br H' u bs:=by
 rcases h with h|⟨b,o,c,cs,e,k,h1,h2,h3,h4⟩
 ·exact .inl h
 ·exact .inr ⟨b,o,c,cs,e,k,h1,h2,by rw[he.2 b (dE h3) id,h3],h4⟩
theorem Rs.aJW {α:Type}{el:α->List Value}{e:TypeId}{sz:Nat}{H:aC}{v:Value}{xs:List α}{P:Program}(hsz: ∀x,(el x).length=sz)(he:P.cellsOf e=sz)(h:Rs el e H v xs)(hne:xs≠[]):
  ∃b o cap,v= .slice (some ⟨b,o,none⟩) xs.length cap/\xs.length<=cap/\ ∀(H':aC),Rs el e H' v xs-> ∀(l r:Nat)(lo hi mx:Option Value)(c:Nat),bnd 0 lo=some l->bnd xs.length hi=some r->bnd cap mx=some c->l<=r->r<=xs.length->r<=c->c<=cap->
   slc P sz v lo hi mx H'=some (.slice (some ⟨b,o+l*sz,none⟩) (r-l) (c-l),H')/\Rs el e H' (.slice (some ⟨b,o+l*sz,none⟩) (r-l) (c-l)) ((xs.take r).drop l):=by
 rcases h with⟨_,h⟩|⟨b,o,cap,rfl,h3,h4⟩
 ·exact absurd h hne
 ·refine⟨b,o,cap,rfl,h3,λH' h' l r lo hi mx c h1 h2 h5 hlr hr hrc hcc=> ?_⟩
  rcases h' with⟨_,h⟩|⟨b',o',cap',heq,h3',h4'⟩
  ·exact absurd h hne
  ·cases heq
   have hl:=sP (xs.map el) (uP hsz);have hlen:((xs.take r).drop l).length=r-l:=by simp;omega
   obtain⟨e',k,pre,post,rfl,hk,hb⟩:=h4' hne;refine⟨uR (sz:=sz) hb (λh=>by rw[hk h];exact he) h1 h2 h5 hlr hrc hcc,.inr ⟨b,_,c-l,by rw[hlen],by rw[hlen];omega,λ_=>⟨e',k,pre++((xs.take l).map el).flatten,((xs.drop r).map el).flatten++post,?_,hk,?_⟩⟩⟩
   ·have hf:=sP ((xs.take l).map el) (uP hsz)
    rw[aO8,List.length_take,Nat.min_eq_left (by omega)] at hf
    rw[aO6,hf]
   ·rw[hb]
    have:xs=xs.take l++((xs.take r).drop l++xs.drop r):=by
     conv=>lhs;rw[<-List.take_append_drop l xs]
     congr 1
     have:=List.take_append_drop (r-l) (xs.drop l);rw[aPC,List.take_drop] at this;rw[show l+(r-l)=r by omega] at this
     exact this.symm
    congr 2
    conv=>lhs;rw[this]
    simp only[List.map_append,List.flatten_append,aO1]
structure Pkt where
 src:Int
 dst:Int
 lane:Int
 body:Int
deriving DecidableEq
def Pkt.oZ (x:Pkt):List Value:=[.int .i64 x.src,.int .i64 x.dst,.int .i64 x.lane,.int .u32 x.body]
def Pkt.dM (x:Pkt):Value:= .agg ⟨x.oZ⟩
def pk0:Pkt:=⟨0,0,0,0⟩
abbrev iA:=Int×Int×Int
def rA (r:Nat):Nat:=if r<32768 then r*2 else(r*2-65536)^^^4129
theorem N0 {r:Nat}(h:r<65536):rA r<65536:=by
 unfold rA;split
 ·omega
 ·exact Nat.xor_lt_two_pow (n:=16) (by omega) (by omega)
def u4:Nat->Nat->Nat
 |0,r=>r
 |k+1,r=>u4 k (rA r)
theorem Yy: ∀(k:Nat){r:Nat},r<65536->u4 k r<65536
 |0,_,h=>h
 |k+1,_,h=>Yy k (N0 h)
def pF (r:Nat)(c:UInt8):Nat:=u4 8 (r^^^c.toNat*256)
theorem N3 {r:Nat}(h:r<65536)(c:UInt8):r^^^c.toNat*256<65536:=Nat.xor_lt_two_pow (n:=16) h (by have:=c.toNat_lt;omega)
theorem aJ0 {r:Nat}(h:r<65536)(c:UInt8):pF r c<65536:=Yy 8 (N3 h c)
attribute [irreducible] pF
def crc (bs:List UInt8):Nat:=bs.foldl pF 65535
theorem N4 (bs:List UInt8): ∀{r:Nat},r<65536->bs.foldl pF r<65536:=by
 induction bs with
 |nil=>exact λh=>h
 |cons c bs ih=>
  intro r h;rw[List.foldl_cons];exact ih (aJ0 h c)
theorem yC (bs:List UInt8):crc bs<65536:=N4 bs (by decide)
theorem Yx {r:Nat}(h:r<65536):(r&&&32768=0)↔r<32768:=by
 have e:r&&&32768=if r<32768 then 0 else 32768:=by
  apply Nat.eq_of_testBit_eq;intro i;rw[Nat.testBit_and];have hb:Nat.testBit 32768 i=decide (15=i):=Nat.testBit_two_pow (n:=15) (m:=i);by_cases hi:15=i
  ·subst hi
   rw[hb];split
   ·rename_i hl
    rw[Nat.testBit_lt_two_pow (i:=15) (by omega)]
    rfl
   ·rename_i hl
    have:r.testBit 15=true:=by
     rw[Nat.testBit_eq_decide_div_mod_eq];have:r/2 ^ 15=1:=by omega
     rw[this];rfl
    rw[this];rfl
  ·rw[hb,aPE hi,Bool.and_false]
   split
   ·simp
   ·rw[hb,aPE hi]
 rw[e]
 split<;>omega
def eA (near s:Nat):Nat:=((near+18446744073709518848)%18446744073709551616+(s+65536-(near+18446744073709518848)%18446744073709551616%65536)%65536)%18446744073709551616
structure Frm where
 kind:Nat
 lane:Nat
 seq:Nat
 src:Nat
 dst:Nat
 body:Nat
deriving DecidableEq
structure Frm.ok (f:Frm):Prop where
 kind:f.kind<256
 lane:f.lane<256
 seq:f.seq<65536
 src:f.src<256
 dst:f.dst<256
 body:f.body<4294967296
def Frm.iI:Frm:=⟨0,0,0,0,0,0⟩
def dK (f:Frm):Bool:=decide (f.lane<=2)&&(if f.kind=1 then decide (f.src<=5)&&decide (f.dst<=5)&&decide (f.src≠f.dst) else(decide (f.kind=2)||decide (f.kind=3))&&decide (f.src=0)&&decide (f.dst=0)&&decide (f.body=0))
def by8 (n:Nat):UInt8:=UInt8.ofNat n
def eV (n:Nat):List UInt8:=[by8 (n/256),by8 n]
def pG (f:Frm):List UInt8:=by8 f.kind::by8 f.lane::eV f.seq
def jQ (f:Frm):List UInt8:=pG f++if f.kind=1 then by8 f.src::by8 f.dst::(eV (f.body/65536)++eV f.body) else []
def kP (f:Frm):List UInt8:=jQ f++eV (crc (jQ f))
def nH (f:Frm):Option (List UInt8):=if dK f=true then some (kP f) else none
def fH (bs:List UInt8):Nat:=bs.foldl (λn c=>n*256+c.toNat) 0
def eW (bs:List UInt8):Frm:=⟨(bs.getD 0 0).toNat,(bs.getD 1 0).toNat,fH [bs.getD 2 0,bs.getD 3 0],0,0,0⟩
def jL (bs:List UInt8):Frm:={eW bs with src:=(bs.getD 4 0).toNat,dst:=(bs.getD 5 0).toNat,body:=fH [bs.getD 6 0,bs.getD 7 0,bs.getD 8 0,bs.getD 9 0]}
def wL (b s:List UInt8)(f:Frm):Option Frm:=if crc b=fH s/\dK f=true then some f else none
def oK (bs:List UInt8):Option Frm:=
 if bs.length=6/\(bs.getD 0 0).toNat≠1 then wL (bs.take 4) (bs.drop 4) (eW bs)
 else if bs.length=12/\(bs.getD 0 0).toNat=1 then wL (bs.take 10) (bs.drop 10) (jL bs)
 else none
def yD (bs:List UInt8):Option Frm:=
 if bs.length<6 then none
 else let f:=if(bs.getD 0 0).toNat=1/\12<=bs.length then jL bs else eW bs
  if nH f=some bs then some f else none
theorem tD (n:Nat):(by8 n).toNat=n%256:=by simp[by8]
theorem Yw (c:UInt8):by8 c.toNat=c:=by simp[by8]
theorem Fy (a b:UInt8):fH [a,b]=a.toNat*256+b.toNat:=by simp[fH]
theorem N6 (a b c d:UInt8):fH [a,b,c,d]=((a.toNat*256+b.toNat)*256+c.toNat)*256+d.toNat:=by simp[fH]
theorem wK {n:Nat}{c:UInt8}(h:n%256=c.toNat):by8 n=c:=by
 apply UInt8.toNat_inj.mp;rw[tD,h]
theorem N7 (a b:UInt8):eV (fH [a,b])=[a,b]:=by
 have ha:=a.toNat_lt;have hb:=b.toNat_lt;rw[Fy];simp only[eV];rw[wK (n:=(a.toNat*256+b.toNat)/256) (c:=a) (by omega),wK (n:=a.toNat*256+b.toNat) (c:=b) (by omega)]
theorem Y2 {n:Nat}(hn:n<65536){a b:UInt8}:eV n=[a,b]↔n=fH [a,b]:=by
 constructor
 ·intro h
  simp only[eV,List.cons.injEq,and_true] at h;have h1:=congrArg UInt8.toNat h.1;have h2:=congrArg UInt8.toNat h.2;rw[tD] at h1 h2;rw[Fy];omega
 ·rintro rfl
  exact N7 a b
theorem aJ1 (a b c d:UInt8):eV (fH [a,b,c,d]/65536)++eV (fH [a,b,c,d])=[a,b,c,d]:=by
 have ha:=a.toNat_lt;have hb:=b.toNat_lt;have hc:=c.toNat_lt;have hd:=d.toNat_lt;rw[N6];simp only[eV,List.cons_append,List.nil_append];rw[wK (c:=a) (by omega),wK (c:=b) (by omega),wK (c:=c) (by omega),wK (c:=d) (by omega)]
theorem Yz (f:Frm):(kP f).length=if f.kind=1 then 12 else 6:=by
 unfold kP jQ pG eV
 split<;>simp
attribute [irreducible] crc dK
theorem Y0 {f:Frm}{b bs:List UInt8}{x y:UInt8}(hb:jQ f=b)(hbs:bs=b++[x,y]):nH f=some bs↔crc b=fH [x,y]/\dK f=true:=by
 unfold nH kP;rw[hb,hbs];by_cases hs:dK f=true
 ·rw[if_pos hs,aPl,List.append_right_inj,Y2 (yC _)]
  simp[hs]
 ·rw[if_neg hs]
  simp[hs]
theorem Y1 {f:Frm}{bs:List UInt8}(h:bs.length≠if f.kind=1 then 12 else 6):nH f≠some bs:=by
 intro hh;unfold nH at hh
 split at hh
 ·injection hh with hh
  rw[<-hh,Yz] at h;exact h rfl
 ·cases hh
theorem N5 (bs:List UInt8):oK bs=yD bs:=by
 have kf:(eW bs).kind=(bs.getD 0 0).toNat:=rfl;have kf':(jL bs).kind=(bs.getD 0 0).toNat:=rfl;unfold oK yD;by_cases h1:bs.length=6/\(bs.getD 0 0).toNat≠1
 ·have hC: ¬((bs.getD 0 0).toNat=1/\12<=bs.length):=λh=>h1.2 h.1
  rw[if_pos h1,if_neg (by omega)]
  simp only[if_neg hC];have e:nH (eW bs)=some bs↔crc (bs.take 4)=fH (bs.drop 4)/\dK (eW bs)=true:=by
   have h6:=h1.1
   match bs,h6 with
   |[a,b,c,d,e,f],_=>
    refine Y0 ?_ rfl;unfold jQ pG;rw[if_neg (by rw[kf];exact h1.2)]
    simp only[eW,List.getD_cons_zero,List.getD_cons_succ,Yw,N7,List.append_nil,List.take_succ_cons,List.take_zero]
  unfold wL;by_cases h:nH (eW bs)=some bs
  ·rw[if_pos h,if_pos (e.mp h)]
  ·rw[if_neg h,if_neg λhh=>h (e.mpr hh)]
 ·rw[if_neg h1]
  by_cases h2:bs.length=12/\(bs.getD 0 0).toNat=1
  ·have hC:(bs.getD 0 0).toNat=1/\12<=bs.length:=⟨h2.2,by omega⟩
   rw[if_pos h2,if_neg (by omega)]
   simp only[if_pos hC];have e:nH (jL bs)=some bs↔crc (bs.take 10)=fH (bs.drop 10)/\dK (jL bs)=true:=by
    have h12:=h2.1
    match bs,h12 with
    |[a,b,c,d,e,f,g,h,i,j,k,l],_=>
     refine Y0 ?_ rfl;unfold jQ pG;rw[if_pos (by rw[kf'];exact h2.2)]
     simp only[eW,jL,List.getD_cons_zero,List.getD_cons_succ,Yw,N7,aJ1,List.take_succ_cons,List.take_zero,List.cons_append,List.nil_append]
   unfold wL;by_cases h:nH (jL bs)=some bs
   ·rw[if_pos h,if_pos (e.mp h)]
   ·rw[if_neg h,if_neg λhh=>h (e.mpr hh)]
  ·rw[if_neg h2]
   by_cases h3:bs.length<6
   ·rw[if_pos h3]
   ·rw[if_neg h3]
    dsimp only
    rw[if_neg];by_cases h4:(bs.getD 0 0).toNat=1/\12<=bs.length
    ·rw[if_pos h4]
     refine Y1 ?_;rw[kf',if_pos h4.1];omega
    ·rw[if_neg h4]
     refine Y1 ?_;rw[kf];split
     ·omega
     ·omega
structure Cfg where
 nodes:Nat
 lanes:Nat
 room:Nat
 queue:Nat
 rounds:Nat
 every:Nat
 weights:List Int
 start:Nat
 me:Nat
 by':List Nat
 port:Nat->Nat
def Cfg.aH (c:Cfg):Nat:=c.by'.length+1
structure Cfg.ok (c:Cfg):Prop where
 nodes:2<=c.nodes/\c.nodes<=6
 lanes:1<=c.lanes/\c.lanes<=3
 room:1<=c.room/\c.room<=8
 queue:1<=c.queue/\c.queue<=8
 rounds:1<=c.rounds/\c.rounds<=4
 every:1<=c.every/\c.every<=8
 wlen:c.weights.length=c.lanes
 wts: ∀x∈c.weights,1<=x/\x<=5
 start:c.start<65536
 me:c.me<c.nodes
 by':c.by'.length<=5
 byN: ∀w∈c.by',w<c.nodes/\w≠c.me
 byD:c.by'.Nodup
 port: ∀d,d<c.nodes->c.port d<c.aH
structure Snd where
 s:Nat
 l:Nat
deriving DecidableEq
structure Rcv where
 n:Nat
 h:Nat
deriving DecidableEq
def Snd.nI (x:Snd):Nat:=x.l-x.s
def Snd.rB (x:Snd)(limit:Nat):Snd:=let n:=eA x.l limit;if n<=x.l∨x.s+8<n then x else⟨x.s,n⟩
def Snd.mW (x:Snd):Nat×Snd:=if x.l=x.s then(0,x) else(x.s,⟨x.s+1,x.l⟩)
def Rcv.mC (x:Rcv)(room:Nat):Nat:=x.n+(room-x.h)
def Rcv.k9 (x:Rcv)(room seq:Nat):Nat×Rcv:=let n:=eA x.n seq;if n<x.n then(60,x) else if x.mC room<=n then(61,x) else(0,⟨n+1,x.h+1⟩)
def Rcv.u5 (x:Rcv):Rcv:=⟨x.n,x.h-1⟩
def Rcv.pS (x:Rcv)(room sent:Nat):Rcv:=let n:=eA x.n sent;if n<=x.n∨x.mC room<n then x else⟨n,x.h⟩
structure NS where
 hL:List Pkt
 hG:List Pkt
 rL:List (iA×Pkt)
 snd:Nat->Nat->Snd
 rcv:Nat->Nat->Rcv
 g:List Nat
 a:List Nat
 whl:Nat->Whl
 ticks:Nat
def NS.jB (c:Cfg):NS:=⟨[],[],[],λ_ _=>⟨c.start,c.start+c.room⟩,λ_ _=>⟨c.start,0⟩,List.replicate c.aH 0,List.replicate c.aH 0,λ_=>⟨c.weights,0⟩,0⟩
def gP (L:List Pkt)(k:Int):List Pkt:=L.filter λx=>decide (x.lane=k)
def pT (L:List Pkt)(k:Int):List Pkt:=L.eraseP λx=>decide (x.lane=k)
def lU (L:List (iA×Pkt))(w:iA):List Pkt:=(L.filter λe=>decide (e.1=w)).map (·.2)
def oM (L:List (iA×Pkt))(w:iA):List (iA×Pkt):=L.eraseP λe=>decide (e.1=w)
def B7 (w:iA)(ports lanes:Nat):Bool:=decide (0<=w.1)&&decide (w.1<ports)&&decide (0<=w.2.1)&&decide (w.2.1<ports)&&decide (0<=w.2.2)&&decide (w.2.2<lanes)
def pU (c:Cfg)(L:List (iA×Pkt))(w:iA)(x:Pkt):List (iA×Pkt):=
 if B7 w c.aH c.lanes=true/\L.length<c.aH*c.lanes*c.room then L++[(w,x)] else L
def rE (c:Cfg)(x:Pkt)(s:NS):Nat×NS:=
 if¬(0<=x.lane/\x.lane<c.lanes) then(1,s)
 else if(gP s.hL x.lane).length=c.queue then(150,s)
 else(0,{s with hL:=s.hL++[x]})
def o6 (c:Cfg)(x:Pkt)(s:NS):Nat×NS:=
 if x.src≠c.me∨x.dst<0∨(c.nodes:Int)<=x.dst∨x.dst=c.me then(1,s) else rE c x s
def up2 {α:Type}(f:Nat->Nat->α)(i k:Nat)(x:α):Nat->Nat->α:=λj l=>if j=i/\l=k then x else f j l
def up1 {α:Type}(f:Nat->α)(i:Nat)(x:α):Nat->α:=λj=>if j=i then x else f j
def rC (c:Cfg)(i:Nat)(f:Frm)(s:NS):Nat×NS:=
 if c.nodes<=max f.src f.dst then(30,s)
 else match (s.rcv i f.lane).k9 c.room f.seq with
  |(0,r)=>(0,{s with rcv:=up2 s.rcv i f.lane r,rL:=pU c s.rL ((i:Int),(c.port f.dst:Int),(f.lane:Int)) ⟨f.src,f.dst,f.lane,f.body⟩})
  |(e,_)=>(e,s)
def oN (c:Cfg)(fr:Int)(bs:List UInt8)(s:NS):Nat×NS:=
 match c.by'.findIdx? λw:Nat=>decide ((w:Int)=fr) with
 |none=>(1,s)
 |some j=>
  match oK bs with
  |none=>(30,s)
  |some f=>
   if c.lanes<=f.lane then(30,s)
   else if f.kind=2 then(0,{s with snd:=up2 s.snd (j+1) f.lane ((s.snd (j+1) f.lane).rB f.seq)})
   else if f.kind=3 then(0,{s with rcv:=up2 s.rcv (j+1) f.lane ((s.rcv (j+1) f.lane).pS c.room f.seq)})
   else rC c (j+1) f s
def nJ (L:List (iA×Pkt))(i o k:Nat):Nat:=(lU L (i,o,k)).length
def wM (c:Cfg)(L:List (iA×Pkt))(k:Nat):Nat:=((List.range c.aH).map λo=>nJ L 0 o k).sum
def lA (c:Cfg)(s:NS)(k:Nat):NS:=
 if c.room<=wM c s.rL k then s
 else match gP s.hL k with
  |[]=>s
  |x::_=>{s with hL:=pT s.hL k,rL:=pU c s.rL (0,(c.port x.dst.toNat:Int),k) x}
def o5 (c:Cfg)(s:NS):NS:=(List.range c.lanes).foldl (lA c) s
def gM (c:Cfg)(s:NS)(i o k:Nat):Bool:=decide (k<c.lanes)&&decide (0<nJ s.rL i o k)&&(decide (o=0)||decide (0<(s.snd o k).nI))
def mD (c:Cfg)(s:NS)(i o:Nat):Bool:=decide (i<c.aH)&&decide (o<c.aH)&&(List.range c.lanes).any (gM c s i o)
def jV (f:Frm):List UInt8:=(nH f).getD []
abbrev k8:=List (Nat×List UInt8)
def rF (c:Cfg)(o:Nat)(f:Frm):Nat×List UInt8:=(c.by'.getD (o-1) 0,jV f)
def tE (s:NS)(i k:Nat):Nat->Nat->Rcv:=if i=0 then s.rcv else up2 s.rcv i k (s.rcv i k).u5
def o7 (c:Cfg)(s:NS)(i o:Nat):NS×k8:=
 match kN c.weights (s.whl o) (gM c s i o) with
 |(none,_)=>(s,[])
 |(some k,w)=>
  let x:=(lU s.rL (i,o,k)).headD pk0
  let s1:={s with whl:=up1 s.whl o w,rL:=oM s.rL (i,o,k),rcv:=tE s i k}
  if o=0 then({s1 with hG:=s1.hG++[x]},[])
  else({s1 with snd:=up2 s1.snd o k (s1.snd o k).mW.2},[rF c o ⟨1,k,(s1.snd o k).mW.1%65536,(x.src%256).toNat,(x.dst%256).toNat,x.body.toNat⟩])
def rD (c:Cfg)(m:List Int):List Nat->NS×k8->NS×k8
 |[],s=>s
 |i::l,s=>rD c m l (if 0<=m.getD i 0 then((o7 c s.1 i (m.getD i 0).toNat).1,s.2++(o7 c s.1 i (m.getD i 0).toNat).2) else s)
def oL (c:Cfg)(s:NS):k8:=
 (List.range c.by'.length).flatMap λi=>(List.range c.lanes).flatMap λk=>
  [rF c (i+1) ⟨3,k,(s.snd (i+1) k).s%65536,0,0,0⟩,rF c (i+1) ⟨2,k,(s.rcv (i+1) k).mC c.room%65536,0,0,0⟩]
def lB (c:Cfg)(s:NS):NS×k8:=
 let s1:=o5 c s
 let t:=oI (mD c s1) c.aH c.rounds s1.g s1.a
 let r:=rD c t.m (List.range c.aH) ({s1 with g:=t.g,a:=t.a},[])
 ({r.1 with ticks:=s.ticks+1},if(s.ticks+1)%c.every=0 then r.2++oL c r.1 else r.2)
end Go.Abs
namespace Go.Proofs.YtkeilicinggjmaaGreatDoor
open Go.Proofs.Tryz
open Go.Abs
structure Put1 (H:aC)(b:Nat)(y:Blk)(H':aC):Prop where
 le:H.length<=H'.length
 at_:H'[b]? =some y
 keep: ∀c,c<H.length->c≠b->H'[c]? =H[c]?
theorem Put1.wN {H:aC}{b:Nat}{y:Blk}(h:H[b]? =some y):Put1 H b y H:=⟨aOZ _,h,λ_ _ _=>rfl⟩
theorem Put1.B8 {H:aC}{b:Nat}{x y:Blk}(h:H[b]? =some x):Put1 H b y (H.set b y):=⟨by simp,iE h,λc _ hc=>aOV (Ne.symm hc)⟩
theorem Put1.ext {H H':aC}{b:Nat}{y:Blk}(h:H[b]? =some y)(he:Ext H H'):Put1 H b y H':=⟨he.1,by rw[he.2 b (dE h) id,h],λc hc _=>he.2 c hc id⟩
theorem Put1.aJ2 {H H1 H':aC}{b:Nat}{y:Blk}(he:Ext H H1)(h:Put1 H1 b y H'):Put1 H b y H':=⟨aPa he.1 h.le,h.at_,λc hc hcb=>by rw[h.keep c (aO9 hc he.1) hcb,he.2 c hc id]⟩
section
variable {H : aC} {m : Nat}
theorem qL:prog.underlying 55=some (.int .u64):=by kernel_rfl
theorem lV:prog.underlying 23=some (.int .u16):=by kernel_rfl
theorem iU:prog.underlying 3=some (.int .i64):=by kernel_rfl
theorem u8U:prog.underlying 5=some (.int .u8):=by kernel_rfl
theorem aJ6:prog.underlying 253=some (.int .u16):=by kernel_rfl
theorem aJ7 (hm:0<m)(n:Nat):lvl prog pkN m (.func 174) [.int .u64 n] H=some (.int .u16 ((n%65536:Nat):Int),H):=by
 refine dF (cL rfl) hm ?_;rw[aJm];simp only[gsR,fF _ _ qL lV,B5]
theorem N9 (near s:Nat):eA near s<18446744073709551616:=Nat.mod_lt _ (by omega)
theorem Y3 (hm:1<m)(near s:Nat)(hn:near<18446744073709551616)(hs:s<65536):lvl prog pkN m (.func 137) [.int .u64 near,.int .u16 s] H=some (.int .u64 (eA near s),H):=by
 refine dF (cL rfl) (by omega) ?_
 rw[aI7];have e1:IntKind.u64.wrap ((near:Int)-32768)=(((near+18446744073709518848)%18446744073709551616:Nat):Int):=by rw[sX];omega
 have e2:=aJ7 (H:=H) (m:=m-1) (by omega) ((near+18446744073709518848)%18446744073709551616)
 have e3:=aJY s ((near+18446744073709518848)%18446744073709551616%65536) hs (by omega)
 have e4:=zU ((s+65536-(near+18446744073709518848)%18446744073709551616%65536)%65536) (by omega)
 simp only[gsR,iM,e1,e2,e3,fF _ _ lV qL,e4,cC,aJX];rfl
def mJ (r:Nat):Blk:= .cells [.int .u16 r] 253 .fix
theorem aJ3 (hm:0<m){b r:Nat}(hb:H[b]? =some (mJ r))(hr:r<65536):lvl prog pkN m (.func 175) [.pointer (some ⟨b,0,none⟩)] H=some (aJ [],H.set b (mJ (rA r))):=by
 refine dF (cL rfl) hm ?_;rw[aJn];have e1:ld1 (.pointer (some ⟨b,0,none⟩)) H=some (.int .u16 r,H):=cZ hb rfl;have e2:bin prog .and 253 (.int .u16 (r:Int)) (.int .u16 32768)=some (.int .u16 ((r&&&32768:Nat):Int)):=xV .u16 rfl _ (a:=r) (b:=32768) hr (by decide)
 have e3:bin prog .shl 253 (.int .u16 (r:Int)) (.int .u64 1)=some (.int .u16 ((r*2%65536:Nat):Int)):=xW .u16 .u64 rfl _ r 1 (by decide)
 have e4:stN 1 (.pointer (some ⟨b,0,none⟩)) (.int .u16 ((r*2%65536:Nat):Int)) H=some (undef,H.set b (mJ (r*2%65536))):=kZ hb (by decide) Nat.zero_lt_one
 have e5:ld1 (.pointer (some ⟨b,0,none⟩)) (H.set b (mJ (r*2%65536)))=some (.int .u16 ((r*2%65536:Nat):Int),H.set b (mJ (r*2%65536))):=cZ (iE hb) rfl;have e6:bin prog .xor 253 (.int .u16 ((r*2%65536:Nat):Int)) (.int .u16 4129)=some (.int .u16 (((r*2%65536)^^^4129:Nat):Int)):=D5 .u16 rfl _ (a:=r*2%65536) (b:=4129) (by show _<65536;omega) (by decide)
 have e7:stN 1 (.pointer (some ⟨b,0,none⟩)) (.int .u16 (((r*2%65536)^^^4129:Nat):Int)) (H.set b (mJ (r*2%65536)))=some (undef,(H.set b (mJ (r*2%65536))).set b (mJ ((r*2%65536)^^^4129))):=kZ (iE hb) (by decide) Nat.zero_lt_one
 by_cases hc:r<32768
 ·have h0:(r&&&32768:Nat)=0:=(Yx hr).mpr hc
  have k1:((((r&&&32768:Nat):Int))!=0)=false:=by rw[h0];rfl
  simp only[gsR,e1,e2,e3,e4,k1];rw[rA,if_pos hc,aPs (by omega)]
 ·have h0: ¬(r&&&32768:Nat)=0:=λh=>hc ((Yx hr).mp h)
  have k1:((((r&&&32768:Nat):Int))!=0)=true:=by simp[h0]
  simp only[gsR,e1,e2,e3,e4,e5,e6,e7,k1,Nz];rw[rA,if_neg hc,show r*2%65536=r*2-65536 by omega]
theorem aJ5 {b:Nat}{H0:aC}: ∀(q i k r:Nat)(H:aC),8-i=q->i<=8->q<k->10<m->H=H0.set b (mJ r)->b<H0.length->r<65536->
  ∀x1 x2 x3 x4 x5 x6 x7 x8 x9 bK bN aO aP aM aS:Value,aI k (aK prog (lvl prog pkN (m-1)) (aI (m-1)) M2) (M3 (lvl prog pkN (m-1)) (aI (m-1))) [(.pointer (some ⟨b,0,none⟩)),x1,x2,x3,x4,x5,x6,x7,x8,x9,bK,bN,(.int .i64 i),aO,aP,aM,aS] H=some (aJ [],H0.set b (mJ (u4 (8-i) r))):=by
 intro q;induction q with
 |zero=>
  intro i k r H hq hi hk hm hH hb hr x1 x2 x3 x4 x5 x6 x7 x8 x9 bK bN aO aP aM aS;obtain⟨k,rfl⟩: ∃k',k=k'+1:=⟨k-1,by omega⟩
  have hi8:i=8:=by omega
  subst hi8;have c1:decide (((8:Nat):Int)<8)=false:=by decide
  rw[aI,Yc];simp only[gsR,c1];rw[aJc];rw[hH];rfl
 |succ q ih=>
  intro i k r H hq hi hk hm hH hb hr x1 x2 x3 x4 x5 x6 x7 x8 x9 bK bN aO aP aM aS;obtain⟨k,rfl⟩: ∃k',k=k'+1:=⟨k-1,by omega⟩
  have c1:decide ((i:Int)<8)=true:=by rw[decide_eq_true_eq];omega
  have hg:H[b]? =some (mJ r):=by rw[hH,aO0 hb]
  have e1:=aJ3 (m:=m-1) (by omega) hg hr
  have e2:=aA (i:=i) (by omega)
  rw[aI,Yc];simp only[gsR,c1,e1,cC,e2];rw[ih (i+1) k (rA r) _ (by omega) (by omega) (by omega) hm (by rw[hH,Nz]) hb (N0 hr)]
  rw[show 8-i=(8-(i+1))+1 by omega,u4]
theorem aJ4 (hm:10<m){b r:Nat}(hb:H[b]? =some (mJ r))(hr:r<65536)(c:UInt8):lvl prog pkN m (.func 140) [.pointer (some ⟨b,0,none⟩),iF c] H=some (aJ [],H.set b (mJ (pF r c))):=by
 refine dF (cL rfl) (by omega) ?_
 rw[aJd];have hc:=c.toNat_lt;have e1:ld1 (.pointer (some ⟨b,0,none⟩)) H=some (.int .u16 r,H):=cZ hb rfl;have e2:cI prog 5 253 (iF c) H=some (.int .u16 c.toNat,H):=by
  show cI prog 5 253 (.int .u8 c.toNat) H=_
  rw[fF _ _ u8U aJ6,wA (by omega) (by omega)]
 have e3:bin prog .shl 253 (.int .u16 (c.toNat:Int)) (.int .u64 8)=some (.int .u16 ((c.toNat*256:Nat):Int)):=by
  have:=xW (P:=prog) .u16 .u64 rfl 253 c.toNat 8 (by decide)
  rw[show c.toNat*2 ^ 8%2 ^ IntKind.u16.bits=c.toNat*256 from by show c.toNat*256%65536=_;omega] at this
  exact this
 have e4:bin prog .xor 253 (.int .u16 (r:Int)) (.int .u16 ((c.toNat*256:Nat):Int))=some (.int .u16 ((r^^^c.toNat*256:Nat):Int)):=D5 .u16 rfl _ (a:=r) (b:=c.toNat*256) hr (by show _<65536;omega)
 have e5:stN 1 (.pointer (some ⟨b,0,none⟩)) (.int .u16 ((r^^^c.toNat*256:Nat):Int)) H=some (undef,H.set b (mJ (r^^^c.toNat*256))):=kZ hb (by decide) Nat.zero_lt_one
 simp only[gsR,e1,e2,e3,e4,e5];refine(aJ5 (m:=m) 8 0 (m-1) (r^^^c.toNat*256) _ rfl (by omega) (by omega) (by omega) rfl (dE hb) (N3 hr c) _ _ _ _ _ _ _ _ _ _ _ _ _ _ _).trans ?_
 unfold pF;rfl
theorem aJ8 {u:Value}{bs:List UInt8}{H0:aC}(hu:Br H0 u bs): ∀(q i k:Nat)(H:aC),bs.length-i=q->i<=bs.length->q<k->20<m->bs.length<4611686018427387904->H=H0++[mJ ((bs.take i).foldl pF 65535)]->
  ∀x0 x1 x2 x4 x5 x9 bK bN bC aO aP aM:Value,aI k (aK prog (lvl prog pkN (m-1)) (aI (m-1)) Nv) (Nx (lvl prog pkN (m-1)) (aI (m-1))) [x0,x1,x2,(.pointer (some ⟨H0.length,0,none⟩)),x4,x5,u,(.int .i64 bs.length),(.int .i64 i),x9,bK,bN,bC,aO,aP,aM] H=some (.int .u16 (crc bs),H0++[mJ (crc bs)]):=by
 intro q;induction q with
 |zero=>
  intro i k H hq hi hk hm hl hH x0 x1 x2 x4 x5 x9 bK bN bC aO aP aM;obtain⟨k,rfl⟩: ∃k',k=k'+1:=⟨k-1,by omega⟩
  have hi8:i=bs.length:=by omega
  subst hi8;have c1:decide ((bs.length:Int)<(bs.length:Int))=false:=by simp
  have hf:(bs.take bs.length).foldl pF 65535=crc bs:=by rw[List.take_length];unfold crc;rfl
  rw[hf] at hH;have e1:ld1 (.pointer (some ⟨H0.length,0,none⟩)) H=some (.int .u16 (crc bs),H):=by rw[hH];exact cZ (dJ _ _) rfl
  rw[aI,Yt];simp only[gsR,c1];rw[aJT];simp only[gsR,e1];rw[hH]
 |succ q ih=>
  intro i k H hq hi hk hm hl hH x0 x1 x2 x4 x5 x9 bK bN bC aO aP aM;obtain⟨k,rfl⟩: ∃k',k=k'+1:=⟨k-1,by omega⟩
  have c1:decide ((i:Int)<(bs.length:Int))=true:=by rw[decide_eq_true_eq];omega
  have hx:bs[i]? =some bs[i]:=aOW (by omega)
  have hu':Br H u bs:=hu.ext (by rw[hH];exact Fr.app _ _ _)
  obtain⟨b,o,a1,a2⟩:=hu'.Tz hx .i64;have hg:H[H0.length]? =some (mJ ((bs.take i).foldl pF 65535)):=by rw[hH];exact dJ _ _
  have e1:=aJ4 (m:=m-1) (by omega) hg (N4 _ (by decide)) bs[i]
  have e2:=aA (i:=i) (by omega)
  rw[aI,Yt];simp only[gsR,c1,a1,a2,e1,cC,e2];refine ih (i+1) k _ (by omega) (by omega) (by omega) hm hl ?_ _ _ _ _ _ _ _ _ _ _ _ _
  rw[hH,nG,List.take_add_one,hx,List.foldl_append];rfl
theorem N8 {u:Value}{bs:List UInt8}(hu:Br H u bs)(hm:20<m)(hl:bs.length+1<m)(hl2:bs.length<4611686018427387904):lvl prog pkN m (.func 95) [u] H=some (.int .u16 (crc bs),H++[mJ (crc bs)]):=by
 refine dF (cL rfl) (by omega) ?_
 rw[aJU];have e1:stN 1 (.pointer (some ⟨H.length,0,none⟩)) (.int .u16 65535) (H++[.cells [.int .u16 0] 253 .fix])=some (undef,H++[mJ 65535]):=by
  rw[kZ (dJ _ _) (by decide) Nat.zero_lt_one,nG]
  rfl
 simp only[gsR,e1,hu.Jw];exact aJ8 hu bs.length 0 (m-1) _ (by omega) (by omega) (by omega) hm hl2 rfl _ _ _ _ _ _ _ _ _ _ _ _
end
def mK (x:Snd):Blk:= .cells [.int .u64 x.s,.int .u64 x.l] 143 .fix
def jZ (x:Rcv)(room:Nat):Blk:= .cells [.int .u64 x.n,.int .i64 x.h,.int .i64 room] 174 .fix
structure SndOk (x:Snd):Prop where
 le:x.s<=x.l
 wide:x.l<=x.s+8
 big:x.l<4611686018427387904
structure RcvOk (x:Rcv)(room:Nat):Prop where
 h:x.h<=room
 room:room<=8
 big:x.n<4611686018427387904
section
variable {H : aC} {m : Nat} {b : Nat}
theorem Y6 (hm:0<m){x:Snd}(hx:SndOk x):lvl prog pkN m (.func 153) [.agg #[.int .u64 x.s,.int .u64 x.l]] H=some (.int .i64 x.nI,H++[.cells [.int .u64 x.s,.int .u64 x.l] 141 .fix]):=by
 have:=hx.le;have:=hx.wide;have:=hx.big;refine dF (cL rfl) hm ?_;rw[aJl];have e0:(Value.cells (.agg #[.int .u64 x.s,.int .u64 x.l])).toList=[.int .u64 x.s,.int .u64 x.l]:=rfl;have e1:ld1 (.pointer (some ⟨H.length,1,none⟩)) (H++[.cells [.int .u64 x.s,.int .u64 x.l] 141 .fix])=some (.int .u64 x.l,H++[.cells [.int .u64 x.s,.int .u64 x.l] 141 .fix]):=cZ (dJ _ _) rfl;have e2:ld1 (.pointer (some ⟨H.length,0,none⟩)) (H++[.cells [.int .u64 x.s,.int .u64 x.l] 141 .fix])=some (.int .u64 x.s,H++[.cells [.int .u64 x.s,.int .u64 x.l] 141 .fix]):=cZ (dJ _ _) rfl;have e3:IntKind.u64.wrap ((x.l:Int)-x.s)=((x.nI:Nat):Int):=by rw[sX,Snd.nI];omega
 have e4:=zV x.nI (by unfold Snd.nI;omega)
 simp only[gsR,e0,e1,e2,iM,e3,fF _ _ qL iU,e4]
theorem Oa {x:Snd}(hb:H[b]? =some (mK x)):ldN 2 (.pointer (some ⟨b,0,none⟩)) H=some (.agg #[.int .u64 x.s,.int .u64 x.l],H):=B6 hb (aOZ 2)
theorem aKh (hm:1<m){x:Snd}(hb:H[b]? =some (mK x))(hx:SndOk x):lvl prog pkN m (.func 149) [.pointer (some ⟨b,0,none⟩)] H=some (.int .i64 x.nI,H++[.cells [.int .u64 x.s,.int .u64 x.l] 141 .fix]):=by
 refine dF (cL rfl) (by omega) ?_
 rw[aJi];simp only[gsR,Oa hb,Y6 (H:=H) (m:=m-1) (by omega) hx]
theorem Y7 (hm:0<m){x:Snd}(hb:H[b]? =some (mK x)):lvl prog pkN m (.func 20) [.pointer (some ⟨b,0,none⟩)] H=some (.int .u64 x.s,H):=by
 refine dF (cL rfl) (by omega) ?_
 rw[aJp];have e1:ld1 (.pointer (some ⟨b,0,none⟩)) H=some (.int .u64 x.s,H):=cZ hb rfl;simp only[gsR,e1]
theorem aKg (hm:1<m){x:Snd}(hb:H[b]? =some (mK x))(hx:SndOk x): ∃H',lvl prog pkN m (.func 109) [.pointer (some ⟨b,0,none⟩)] H=some (.tuple #[.int .u64 x.mW.1,.bool (decide (x.l≠x.s))],H')/\Put1 H b (mK x.mW.2) H':=by
 have:=hx.le;have:=hx.wide;have:=hx.big;refine lK (cL rfl) (by omega) ?_
 rw[aI0];have e0:=Y6 (H:=H) (m:=m-1) (by omega) hx
 have hx1:Ext H (H++[Blk.cells [.int .u64 x.s,.int .u64 x.l] 141 .fix]):=Fr.app _ _ _;have hb1:=nF hb (Blk.cells [.int .u64 x.s,.int .u64 x.l] 141 .fix);by_cases hc:x.l=x.s
 ·have c1:((x.nI:Int)==0)=true:=by simp[Snd.nI,hc]
  have d1:x.mW=(0,x):=by simp[Snd.mW,hc]
  have d2:decide (x.l≠x.s)=false:=by simp[hc]
  simp only[gsR,Oa hb,e0,c1,d1,d2]
  exact⟨_,rfl,Put1.ext hb hx1⟩
 ·have c1:((x.nI:Int)==0)=false:=by simp[Snd.nI];omega
  have d1:x.mW=(x.s,⟨x.s+1,x.l⟩):=by simp[Snd.mW,hc]
  have d2:decide (x.l≠x.s)=true:=by simp[hc]
  have e1:ld1 (.pointer (some ⟨b,0,none⟩)) (H++[Blk.cells [.int .u64 x.s,.int .u64 x.l] 141 .fix])=some (.int .u64 x.s,_):=cZ hb1 rfl;have e2:IntKind.u64.wrap ((x.s:Int)+1)=((x.s+1:Nat):Int):=by rw[sX];omega
  have e3:stN 1 (.pointer (some ⟨b,0,none⟩)) (.int .u64 ((x.s+1:Nat):Int)) (H++[Blk.cells [.int .u64 x.s,.int .u64 x.l] 141 .fix])=some (undef,(H++[Blk.cells [.int .u64 x.s,.int .u64 x.l] 141 .fix]).set b (mK ⟨x.s+1,x.l⟩)):=kZ hb1 (by decide) (by simp)
  simp only[gsR,Oa hb,e0,c1,e1,cC,e2,e3,d1,d2]
  exact⟨_,rfl,Put1.aJ2 hx1 (Put1.B8 hb1)⟩
theorem aKe (hm:2<m){x:Snd}(hb:H[b]? =some (mK x))(hx:SndOk x)(limit:Nat)(hl:limit<65536): ∃H' u,lvl prog pkN m (.func 88) [.pointer (some ⟨b,0,none⟩),.int .u16 limit] H=some (u,H')/\Put1 H b (mK (x.rB limit)) H':=by
 have:=hx.le;have:=hx.wide;have:=hx.big;refine jJ (cL rfl) (by omega) ?_
 rw[aJO];have e1:ld1 (.pointer (some ⟨b,1,none⟩)) H=some (.int .u64 x.l,H):=cZ hb rfl;have e2:ld1 (.pointer (some ⟨b,0,none⟩)) H=some (.int .u64 x.s,H):=cZ hb rfl;have e3:=Y3 (H:=H) (m:=m-1) (by omega) x.l limit (by omega) hl
 have e4:IntKind.u64.wrap ((x.s:Int)+8)=((x.s+8:Nat):Int):=by rw[sX];omega
 by_cases c:eA x.l limit<=x.l
 ·have c1:decide ((eA x.l limit:Int)<=(x.l:Int))=true:=by rw[decide_eq_true_eq];omega
  have d:x.rB limit=x:=by unfold Snd.rB;rw[if_pos (.inl c)]
  simp only[gsR,e1,e3,c1]
  exact⟨_,_,rfl,by rw[d];exact Put1.wN hb⟩
 ·have c1:decide ((eA x.l limit:Int)<=(x.l:Int))=false:=by rw[decide_eq_false_iff_not];omega
  by_cases c':x.s+8<eA x.l limit
  ·have c2:decide (((x.s+8:Nat):Int)<(eA x.l limit:Int))=true:=by rw[decide_eq_true_eq];omega
   have d:x.rB limit=x:=by unfold Snd.rB;rw[if_pos (.inr c')]
   simp only[gsR,e1,e2,e3,c1,cC,e4,c2]
   exact⟨_,_,rfl,by rw[d];exact Put1.wN hb⟩
  ·have c2:decide (((x.s+8:Nat):Int)<(eA x.l limit:Int))=false:=by rw[decide_eq_false_iff_not];omega
   have d:x.rB limit=⟨x.s,eA x.l limit⟩:=by unfold Snd.rB;rw[if_neg (by omega)]
   have e5:stN 1 (.pointer (some ⟨b,1,none⟩)) (.int .u64 (eA x.l limit)) H=some (undef,H.set b (mK ⟨x.s,eA x.l limit⟩)):=kZ hb (by decide) (by simp)
   simp only[gsR,e1,e2,e3,c1,cC,e4,c2,e5]
   exact⟨_,_,rfl,by rw[d];exact Put1.B8 hb⟩
theorem aKf (hm:0<m)(start room:Nat)(h1:start<65536)(h2:1<=room/\room<=8):lvl prog pkN m (.func 38) [.int .u64 start,.int .i64 room] H=some (.pointer (some ⟨H.length,0,none⟩),H++[mK ⟨start,start+room⟩]):=by
 refine dF (cL rfl) (by omega) ?_
 rw[aJr];have c1:decide (4611686018427387904<=(start:Int))=false:=by rw[decide_eq_false_iff_not];omega
 have c2:decide ((room:Int)<1)=false:=by rw[decide_eq_false_iff_not];omega
 have c3:decide (8<(room:Int))=false:=by rw[decide_eq_false_iff_not];omega
 have e1:IntKind.u64.wrap (room:Int)=room:=zU room (by omega)
 have e2:IntKind.u64.wrap ((start:Int)+room)=((start+room:Nat):Int):=by rw[sX];omega
 have e3:bld prog 141 [(0,.int .u64 start),(1,.int .u64 ((start+room:Nat):Int))]=some (.agg #[.int .u64 start,.int .u64 ((start+room:Nat):Int)]):=rfl;have e4:bld prog 143 [(0,.agg #[.int .u64 start,.int .u64 ((start+room:Nat):Int)])]=some (.agg #[.int .u64 start,.int .u64 ((start+room:Nat):Int)]):=rfl;simp only[gsR,c1,c2,c3,fF _ _ iU qL,e1,cC,e2,e3,e4];rfl
theorem aKd (hm:0<m)(start room:Nat)(h1:start<65536)(h2:1<=room/\room<=8):lvl prog pkN m (.func 39) [.int .u64 start,.int .i64 room] H=some (.pointer (some ⟨H.length,0,none⟩),H++[jZ ⟨start,0⟩ room]):=by
 refine dF (cL rfl) (by omega) ?_
 rw[aJs];have c1:decide (4611686018427387904<=(start:Int))=false:=by rw[decide_eq_false_iff_not];omega
 have c2:decide ((room:Int)<1)=false:=by rw[decide_eq_false_iff_not];omega
 have c3:decide (8<(room:Int))=false:=by rw[decide_eq_false_iff_not];omega
 have e3:bld prog 174 [(0,.int .u64 start),(2,.int .i64 room)]=some (.agg #[.int .u64 start,.int .i64 0,.int .i64 room]):=rfl;simp only[gsR,c1,c2,c3,e3];rfl
section
variable {x : Rcv} {room : Nat}
theorem wP (hb:H[b]? =some (jZ x room)):ld1 (.pointer (some ⟨b,0,none⟩)) H=some (.int .u64 x.n,H)/\ld1 (.pointer (some ⟨b,1,none⟩)) H=some (.int .i64 x.h,H)/\ld1 (.pointer (some ⟨b,2,none⟩)) H=some (.int .i64 room,H):=⟨cZ hb rfl,cZ hb rfl,cZ hb rfl⟩
theorem wQ (hx:RcvOk x room):IntKind.i64.wrap ((room:Int)-x.h)=((room-x.h:Nat):Int)/\IntKind.u64.wrap ((room-x.h:Nat):Int)=((room-x.h:Nat):Int):=by
 have:=hx.h;have:=hx.room
 exact⟨by rw[dG (by omega) (by omega)];omega,zU _ (by omega)⟩
theorem aKc (hm:0<m)(hb:H[b]? =some (jZ x room))(hx:RcvOk x room):lvl prog pkN m (.func 110) [.pointer (some ⟨b,0,none⟩)] H=some (.int .u64 (x.mC room),H):=by
 have:=hx.h;have:=hx.room;have:=hx.big;refine dF (cL rfl) (by omega) ?_
 rw[aI1];have e:IntKind.u64.wrap ((x.n:Int)+((room-x.h:Nat):Int))=((x.mC room:Nat):Int):=by rw[sX,Rcv.mC];omega
 simp only[gsR,(wP hb).1,(wP hb).2.1,(wP hb).2.2,iM,(wQ hx).1,(wQ hx).2,fF _ _ iU qL,cC,e]
def oD (n w:Nat):Nat:=(w+(18446744073709551616-n))%18446744073709551616
theorem Y5 (hm:2<m)(hb:H[b]? =some (jZ x room))(hx:RcvOk x room)(s:Nat)(hs:s<65536):lvl prog pkN m (.func 138) [.pointer (some ⟨b,0,none⟩),.int .u16 s] H=some (.tuple #[.int .u64 (eA x.n s),.int .u64 (oD x.n (eA x.n s)),.bool (decide (x.n<=eA x.n s))],H):=by
 have:=hx.big;refine dF (cL rfl) (by omega) ?_
 rw[aI8];have e1:=Y3 (H:=H) (m:=m-1) (by omega) x.n s (by omega) hs
 have e2:IntKind.u64.wrap ((eA x.n s:Int)-x.n)=((oD x.n (eA x.n s):Nat):Int):=aJZ _ _ (N9 _ _) (by omega)
 have e3:decide ((x.n:Int)<=(eA x.n s:Int))=decide (x.n<=eA x.n s):=by simp
 simp only[gsR,(wP hb).1,e1,iM,e2,e3];rfl
theorem Y4 {n w:Nat}(hn:n<18446744073709551616)(hw:w<18446744073709551616)(h:n<=w):oD n w=w-n:=by unfold oD;omega
theorem aJ9 (hm:3<m)(hb:H[b]? =some (jZ x room))(hx:RcvOk x room)(s:Nat)(hs:s<65536): ∃H',lvl prog pkN m (.func 139) [.pointer (some ⟨b,0,none⟩),.int .u16 s] H=some (.int .u16 (x.k9 room s).1,H')/\Put1 H b (jZ (x.k9 room s).2 room) H':=by
 have:=hx.h;have:=hx.room;have:=hx.big;have hwl:=N9 x.n s;refine lK (cL rfl) (by omega) ?_
 rw[aI9];have e1:=Y5 (m:=m-1) (by omega) hb hx s hs
 obtain⟨l0,l1,l2⟩:=wP hb;have x0: ∀y,ext 0 (.tuple #[.int .u64 (eA x.n s),.int .u64 (oD x.n (eA x.n s)),.bool y])=some (.int .u64 (eA x.n s)):=λ_=>rfl
 have x1: ∀y,ext 1 (.tuple #[.int .u64 (eA x.n s),.int .u64 (oD x.n (eA x.n s)),.bool y])=some (.int .u64 (oD x.n (eA x.n s))):=λ_=>rfl
 have x2: ∀y,ext 2 (.tuple #[.int .u64 (eA x.n s),.int .u64 (oD x.n (eA x.n s)),.bool y])=some (.bool y):=λ_=>rfl
 by_cases c:x.n<=eA x.n s
 ·have c1:decide (x.n<=eA x.n s)=true:=aPD c
  have hf:=Y4 (by omega) hwl c
  have ef:IntKind.u64.wrap (((room-x.h:Nat)):Int)=_:=(wQ hx).2;by_cases c':x.mC room<=eA x.n s
  ·have c2:decide (((room-x.h:Nat):Int)<=(oD x.n (eA x.n s):Int))=true:=by rw[decide_eq_true_eq,hf];unfold Rcv.mC at c';omega
   have d:x.k9 room s=(61,x):=by unfold Rcv.k9;rw[if_neg (by omega),if_pos c']
   simp only[gsR,e1,x0,x1,x2,c1,l0,l1,l2,iM,(wQ hx).1,fF _ _ iU qL,ef,c2,d]
   exact⟨_,rfl,Put1.wN hb⟩
  ·have c2:decide (((room-x.h:Nat):Int)<=(oD x.n (eA x.n s):Int))=false:=by rw[decide_eq_false_iff_not,hf];unfold Rcv.mC at c';omega
   have d:x.k9 room s=(0,⟨eA x.n s+1,x.h+1⟩):=by unfold Rcv.k9;rw[if_neg (by omega),if_neg c']
   have hlt:eA x.n s<4611686018427387912:=by unfold Rcv.mC at c';omega
   have e2:IntKind.u64.wrap ((eA x.n s:Int)+1)=((eA x.n s+1:Nat):Int):=by rw[sX];omega
   have e3:stN 1 (.pointer (some ⟨b,0,none⟩)) (.int .u64 ((eA x.n s+1:Nat):Int)) H=some (undef,H.set b (jZ ⟨eA x.n s+1,x.h⟩ room)):=kZ hb (by decide) (by simp)
   have hb1:(H.set b (jZ ⟨eA x.n s+1,x.h⟩ room))[b]? =some (jZ ⟨eA x.n s+1,x.h⟩ room):=iE hb;have e4:=(wP hb1).2.1;have e5:IntKind.i64.wrap ((x.h:Int)+1)=((x.h+1:Nat):Int):=by rw[dG (by omega) (by omega)];omega
   have e6:stN 1 (.pointer (some ⟨b,1,none⟩)) (.int .i64 ((x.h+1:Nat):Int)) (H.set b (jZ ⟨eA x.n s+1,x.h⟩ room))=some (undef,(H.set b (jZ ⟨eA x.n s+1,x.h⟩ room)).set b (jZ ⟨eA x.n s+1,x.h+1⟩ room)):=kZ hb1 (by decide) (by simp)
   simp only[gsR,e1,x0,x1,x2,c1,l0,l1,l2,iM,(wQ hx).1,fF _ _ iU qL,ef,c2,cC,e2,e3,e4,e5,e6,d,Nz]
   exact⟨_,rfl,Put1.B8 hb⟩
 ·have c1:decide (x.n<=eA x.n s)=false:=aPE c
  have d:x.k9 room s=(60,x):=by unfold Rcv.k9;rw[if_pos (by omega)]
  simp only[gsR,e1,x0,x1,x2,c1,d]
  exact⟨_,rfl,Put1.wN hb⟩
theorem aKa (hm:0<m)(hb:H[b]? =some (jZ x room))(hx:RcvOk x room): ∃H' u,lvl prog pkN m (.func 107) [.pointer (some ⟨b,0,none⟩)] H=some (u,H')/\Put1 H b (jZ x.u5 room) H':=by
 have:=hx.h;have:=hx.room;refine jJ (cL rfl) (by omega) ?_
 rw[aIY];obtain⟨l0,l1,l2⟩:=wP hb;by_cases c:x.h=0
 ·have c1:((x.h:Int)==0)=true:=by simp[c]
  simp only[gsR,l1,c1];refine⟨_,_,rfl,?_⟩;have d:x.u5=x:=by unfold Rcv.u5;rw[c];cases x;simp at c;subst c;rfl
  rw[d];exact Put1.wN hb
 ·have c1:((x.h:Int)==0)=false:=by simp[c]
  have e5:IntKind.i64.wrap ((x.h:Int)-1)=((x.h-1:Nat):Int):=by rw[dG (by omega) (by omega)];omega
  have e6:stN 1 (.pointer (some ⟨b,1,none⟩)) (.int .i64 ((x.h-1:Nat):Int)) H=some (undef,H.set b (jZ x.u5 room)):=kZ hb (by decide) (by simp)
  simp only[gsR,l1,c1,iM,e5,e6]
  exact⟨_,_,rfl,Put1.B8 hb⟩
theorem aKb (hm:3<m)(hb:H[b]? =some (jZ x room))(hx:RcvOk x room)(s:Nat)(hs:s<65536): ∃H' u,lvl prog pkN m (.func 89) [.pointer (some ⟨b,0,none⟩),.int .u16 s] H=some (u,H')/\Put1 H b (jZ (x.pS room s) room) H':=by
 have:=hx.h;have:=hx.room;have:=hx.big;have hwl:=N9 x.n s;refine jJ (cL rfl) (by omega) ?_
 rw[aJP];have e1:=Y5 (m:=m-1) (by omega) hb hx s hs
 obtain⟨l0,l1,l2⟩:=wP hb;have x0: ∀y,ext 0 (.tuple #[.int .u64 (eA x.n s),.int .u64 (oD x.n (eA x.n s)),.bool y])=some (.int .u64 (eA x.n s)):=λ_=>rfl
 have x1: ∀y,ext 1 (.tuple #[.int .u64 (eA x.n s),.int .u64 (oD x.n (eA x.n s)),.bool y])=some (.int .u64 (oD x.n (eA x.n s))):=λ_=>rfl
 have x2: ∀y,ext 2 (.tuple #[.int .u64 (eA x.n s),.int .u64 (oD x.n (eA x.n s)),.bool y])=some (.bool y):=λ_=>rfl
 by_cases c:x.n<=eA x.n s
 ·have c1:decide (x.n<=eA x.n s)=true:=aPD c
  have hf:=Y4 (by omega) hwl c
  have ef:IntKind.u64.wrap (((room-x.h:Nat)):Int)=_:=(wQ hx).2;by_cases c0:eA x.n s=x.n
  ·have c2:((oD x.n (eA x.n s):Int)==0)=true:=by rw[hf,c0];simp
   have d:x.pS room s=x:=by unfold Rcv.pS;rw[if_pos (by omega)]
   simp only[gsR,e1,x0,x1,x2,c1,c2]
   exact⟨_,_,rfl,by rw[d];exact Put1.wN hb⟩
  ·have c2:((oD x.n (eA x.n s):Int)==0)=false:=by rw[hf];simp;omega
   by_cases c':x.mC room<eA x.n s
   ·have c3:decide (((room-x.h:Nat):Int)<(oD x.n (eA x.n s):Int))=true:=by rw[decide_eq_true_eq,hf];unfold Rcv.mC at c';omega
    have d:x.pS room s=x:=by unfold Rcv.pS;rw[if_pos (by omega)]
    simp only[gsR,e1,x0,x1,x2,c1,c2,l0,l1,l2,iM,(wQ hx).1,fF _ _ iU qL,ef,c3]
    exact⟨_,_,rfl,by rw[d];exact Put1.wN hb⟩
   ·have c3:decide (((room-x.h:Nat):Int)<(oD x.n (eA x.n s):Int))=false:=by rw[decide_eq_false_iff_not,hf];unfold Rcv.mC at c';omega
    have d:x.pS room s=⟨eA x.n s,x.h⟩:=by unfold Rcv.pS;rw[if_neg (by omega)]
    have e3:stN 1 (.pointer (some ⟨b,0,none⟩)) (.int .u64 (eA x.n s)) H=some (undef,H.set b (jZ ⟨eA x.n s,x.h⟩ room)):=kZ hb (by decide) (by simp)
    simp only[gsR,e1,x0,x1,x2,c1,c2,l0,l1,l2,iM,(wQ hx).1,fF _ _ iU qL,ef,c3,e3]
    exact⟨_,_,rfl,by rw[d];exact Put1.B8 hb⟩
 ·have c1:decide (x.n<=eA x.n s)=false:=aPE c
  have d:x.pS room s=x:=by unfold Rcv.pS;rw[if_pos (by omega)]
  simp only[gsR,e1,x0,x1,x2,c1]
  exact⟨_,_,rfl,by rw[d];exact Put1.wN hb⟩
end
end
def frC (f:Frm):List Value:=[.int .u8 f.kind,.int .u8 f.lane,.int .u16 f.seq,.int .u8 f.src,.int .u8 f.dst,.int .u32 f.body]
def frV (f:Frm):Value:= .agg ⟨frC f⟩
def frB (f:Frm):Blk:= .cells (frC f) 39 .fix
def byC (b:UInt8):List Value:=[iF b]
theorem zY (b:UInt8):(byC b).length=1:=rfl
theorem Fz (b:UInt8):dZ (byC b)=true:=rfl
theorem rG: ∀bs:List UInt8,(bs.map byC).flatten=bs.map iF
 |[]=>rfl
 |b::bs=>by simp[byC,rG bs]
abbrev By (H:aC)(v:Value)(bs:List UInt8):Prop:=Rw byC 5 1 H v bs
theorem By.br {H:aC}{v:Value}{bs:List UInt8}(h:By H v bs):Br H v bs:=by
 rcases h.rs with⟨h1,h2⟩|⟨b,o,cap,h1,h2,h3⟩
 ·exact .inl ⟨h2,.inl h1⟩
 ·by_cases hb:bs=[]
  ·exact .inl ⟨hb,.inr ⟨b,o,cap,by rw[h1,hb];rfl⟩⟩
  ·obtain⟨e',k,pre,post,h4,_,h5⟩:=h3 hb
   refine .inr ⟨b,o,cap,_,e',k,h1,List.length_pos_iff.mpr hb,h5,?_,?_⟩
   ·rw[rG]
    simp;omega
   ·rw[rG,<-h4,aO1,List.drop_left]
    have:bs.length=(bs.map iF).length:=by simp
    rw[this,List.take_left]
section
variable {H : aC} {m : Nat}
theorem oE:prog.underlying 37=some (.int .u32):=by kernel_rfl
theorem kFr:sE prog 39=some [true,true,true,true,true,true]:=by kernel_rfl
def F5 (x y:Frm):Bool:=((x.kind:Int)==y.kind)&&(((x.lane:Int)==y.lane)&&(((x.seq:Int)==y.seq)&&(((x.src:Int)==y.src)&&(((x.dst:Int)==y.dst)&&(((x.body:Int)==y.body)&&true)))))
theorem eFr (x y:Frm):bin prog .eql 39 (frV x) (frV y)=some (.bool (F5 x y)):=by
 simp[bin,frV,eC,o9,kFr,eqT,frC,F5]
theorem yE (a b:Int):lN prog true [.int .u8 a,.int .u8 b]=some (.int .u8 (max a b)):=by
 simp[lN,eC,iZ,pur,Builtin.max_,Builtin.max2,pure,bind,Sem.bind]
 split<;>omega
theorem kQ {b:Nat}{f:Frm}(hb:H[b]? =some (frB f)):ld1 (.pointer (some ⟨b,0,none⟩)) H=some (.int .u8 f.kind,H)/\ld1 (.pointer (some ⟨b,1,none⟩)) H=some (.int .u8 f.lane,H)/\ld1 (.pointer (some ⟨b,2,none⟩)) H=some (.int .u16 f.seq,H)/\
  ld1 (.pointer (some ⟨b,3,none⟩)) H=some (.int .u8 f.src,H)/\ld1 (.pointer (some ⟨b,4,none⟩)) H=some (.int .u8 f.dst,H)/\ld1 (.pointer (some ⟨b,5,none⟩)) H=some (.int .u32 f.body,H)/\ldN 6 (.pointer (some ⟨b,0,none⟩)) H=some (frV f,H):=
 ⟨cZ hb rfl,cZ hb rfl,cZ hb rfl,cZ hb rfl,cZ hb rfl,cZ hb rfl,B6 hb (aOZ 6)⟩
theorem pV (a b:Nat):((a:Int)==(b:Int))=decide (a=b):=by
 by_cases h:a=b
 ·simp[h]
 ·simp[h];omega
theorem zZ (a b:Nat):((a:Int)!=(b:Int))=decide (a≠b):=by
 by_cases h:a=b
 ·simp[h]
 ·simp[h];omega
theorem Y8 (hm:0<m)(f:Frm):lvl prog pkN m (.func 92) [frV f] H=some (.bool (dK f),H++[frB f]):=by
 refine dF (cL rfl) hm ?_;rw[aJQ];have e0:(Blk.cells (Value.cells (frV f)).toList 39 .fix)=frB f:=rfl;obtain⟨l0,l1,l2,l3,l4,l5,l6⟩:=kQ (dJ H (frB f));have k1:((f.kind:Int)==1)=decide (f.kind=1):=pV f.kind 1;have k2:((f.kind:Int)==2)=decide (f.kind=2):=pV f.kind 2;have k3:((f.kind:Int)==3)=decide (f.kind=3):=pV f.kind 3;have k4:decide ((f.lane:Int)<3)=decide (f.lane<=2):=by congr 1;exact propext (by omega)
 have k5:decide (max (f.src:Int) (f.dst:Int)<6)=decide (f.src<=5/\f.dst<=5):=by congr 1;exact propext (by omega)
 have k6:((f.src:Int)!=(f.dst:Int))=decide (f.src≠f.dst):=zZ _ _;have b1:bld prog 39 [(0,.int .u8 f.kind),(1,.int .u8 f.lane),(2,.int .u16 f.seq)]=some (frV ⟨f.kind,f.lane,f.seq,0,0,0⟩):=rfl;have b2:F5 f ⟨f.kind,f.lane,f.seq,0,0,0⟩=decide (f.src=0/\f.dst=0/\f.body=0):=by
  simp only[F5,pV,decide_true,aPh,Bool.and_true];rw[<-Bool.decide_and,<-Bool.decide_and]
 by_cases p1:f.kind=1
 ·by_cases p2:f.lane<=2
  ·by_cases p3:f.src<=5/\f.dst<=5
   ·by_cases p4:f.src≠f.dst
    ·have hs:dK f=true:=by unfold dK;simp[p1,p2,p3.1,p3.2,p4]
     simp only[gsR,e0,l0,l1,l3,l4,yE,k1,k4,k5,k6,aPD p1,aPD p2,aPD p3,aPD p4,hs]
    ·have hs:dK f=false:=by unfold dK;simp[p1,p4]
     simp only[gsR,e0,l0,l1,l3,l4,yE,k1,k4,k5,k6,aPD p1,aPD p2,aPD p3,aPE p4,hs]
   ·have hs:dK f=false:=by unfold dK;simp[p1];omega
    simp only[gsR,e0,l0,l1,l3,l4,yE,k1,k4,k5,k6,aPD p1,aPD p2,aPE p3,hs]
  ·have hs:dK f=false:=by unfold dK;simp[p2]
   simp only[gsR,e0,l0,l1,l3,l4,yE,k1,k4,k5,k6,aPD p1,aPE p2,hs]
 ·by_cases p2:f.kind=2
  ·by_cases p3:f.lane<=2
   ·by_cases p4:f.src=0/\f.dst=0/\f.body=0
    ·have hs:dK f=true:=by unfold dK;simp[p2,p3,p4.1,p4.2.1,p4.2.2]
     simp only[gsR,e0,l0,l1,l2,l6,k1,k2,k4,b1,eFr,b2,aPE p1,aPD p2,aPD p3,aPD p4,hs]
    ·have hs:dK f=false:=by unfold dK;simp[p2];omega
     simp only[gsR,e0,l0,l1,l2,l6,k1,k2,k4,b1,eFr,b2,aPE p1,aPD p2,aPD p3,aPE p4,hs]
   ·have hs:dK f=false:=by unfold dK;simp[p3]
    simp only[gsR,e0,l0,l1,l2,l6,k1,k2,k4,b1,eFr,b2,aPE p1,aPD p2,aPE p3,hs]
  ·by_cases p2':f.kind=3
   ·by_cases p3:f.lane<=2
    ·by_cases p4:f.src=0/\f.dst=0/\f.body=0
     ·have hs:dK f=true:=by unfold dK;simp[p2',p3,p4.1,p4.2.1,p4.2.2]
      simp only[gsR,e0,l0,l1,l2,l6,k1,k2,k3,k4,b1,eFr,b2,aPE p1,aPE p2,aPD p2',aPD p3,aPD p4,hs]
     ·have hs:dK f=false:=by unfold dK;simp[p2'];omega
      simp only[gsR,e0,l0,l1,l2,l6,k1,k2,k3,k4,b1,eFr,b2,aPE p1,aPE p2,aPD p2',aPD p3,aPE p4,hs]
    ·have hs:dK f=false:=by unfold dK;simp[p3]
     simp only[gsR,e0,l0,l1,l2,l6,k1,k2,k3,k4,b1,eFr,b2,aPE p1,aPE p2,aPD p2',aPE p3,hs]
   ·have hs:dK f=false:=by unfold dK;simp[p1,p2,p2']
    simp only[gsR,e0,l0,l1,l2,l6,k1,k2,k3,k4,aPE p1,aPE p2,aPE p2',hs]
theorem zX (n:Nat):iF (by8 n)= .int .u8 ((n%256:Nat):Int):=by rw[iF,tD]
theorem B9 (hm:0<m){H0:aC}{v:Value}{bs:List UInt8}(n:Nat)(hn:n<65536)(h:By H v bs)(hv:New H0 v)(he:Ext H0 H)(hr:j7 (bs.length+2) 1=true):
  ∃H' v',lvl prog pkN m (.func 93) [v,.int .u16 n] H=some (v',H')/\By H' v' (bs++eV n)/\New H0 v'/\Ext H0 H':=by
 refine jJ (cL rfl) hm ?_;rw[aJR];have e1:bin prog .shr 23 (.int .u16 (n:Int)) (.int .u64 8)=some (.int .u16 ((n/256:Nat):Int)):=by
  have:=xX (P:=prog) .u16 .u64 23 n 8 (by decide)
  rw[Nat.shiftRight_eq_div_pow] at this;exact this
 have e2:dL 5 1 2 [.int .u8 0] [(0,.int .u8 ((n/256%256:Nat):Int)),(1,.int .u8 ((n%256:Nat):Int))] H=some (.slice (some ⟨H.length,0,none⟩) 2 2,H++[.cells ((eV n).map byC).flatten 5 .row]):=by
  rw[rG];simp only[eV,aPp,List.map_nil,zX];rfl
 have hw:Rs byC 5 (H++[.cells ((eV n).map byC).flatten 5 .row]) (.slice (some ⟨H.length,0,none⟩) 2 2) (eV n):=
  .inr ⟨H.length,0,2,rfl,aOZ 2,λ_=>⟨5,.row,[],[],rfl,λ_=>rfl,by simp⟩⟩
 obtain⟨v',H',g1,g2,g3,g4⟩:=(h.sU [.cells ((eV n).map byC).flatten 5 .row]).vY zY Fz (by decide) (by':=1) hw hv (he.tr (Fr.app _ _ _)) hr
 simp only[gsR,e1,fF _ _ lV u8U,Ny,e2,g1]
 exact⟨_,_,rfl,g2,g3,g4⟩
theorem aKi (hm:1<m){H0:aC}{v:Value}{bs:List UInt8}(n:Nat)(hn:n<4294967296)(h:By H v bs)(hv:New H0 v)(he:Ext H0 H)(hr:j7 (bs.length+4) 1=true):
  ∃H' v',lvl prog pkN m (.func 94) [v,.int .u32 n] H=some (v',H')/\By H' v' (bs++(eV (n/65536)++eV n))/\New H0 v'/\Ext H0 H':=by
 refine jJ (cL rfl) (by omega) ?_
 rw[aJS];have e1:bin prog .shr 37 (.int .u32 (n:Int)) (.int .u64 16)=some (.int .u32 ((n/65536:Nat):Int)):=by
  have:=xX (P:=prog) .u32 .u64 37 n 16 (by decide)
  rw[Nat.shiftRight_eq_div_pow] at this;exact this
 have e2:IntKind.u16.wrap ((n/65536:Nat):Int)=((n/65536:Nat):Int):=wA (by omega) (by omega)
 obtain⟨H1,v1,g1,g2,g3,g4⟩:=B9 (m:=m-1) (by omega) (n/65536) (by omega) h hv he (kM hr (by omega))
 obtain⟨H2,v2,g5,g6,g7,g8⟩:=B9 (m:=m-1) (by omega) (n%65536) (by omega) g2 g3 g4 (kM hr (by simp[eV]))
 have e3:eV (n%65536)=eV n:=by
  simp only[eV];rw[wK (n:=n%65536/256) (c:=by8 (n/256)) (by rw[tD];omega),wK (n:=n%65536) (c:=by8 n) (by rw[tD];omega)]
 rw[e3,aO1] at g6;simp only[gsR,e1,fF _ _ oE lV,e2,g1,B5,g5]
 exact⟨_,_,rfl,g6,g7,g8⟩
end
section
variable {H : aC} {m : Nat}
theorem By.Ca (H:aC)(bs:List UInt8):By (H++[.cells ((bs.map byC).flatten) 5 .row]) (.slice (some ⟨H.length,0,none⟩) bs.length bs.length) bs:=by
 refine⟨by rw[rG];simp,.inr ⟨H.length,bs.length,[],rfl,aOZ _,by simp,by simp⟩⟩
theorem By.ext {H':aC}{v:Value}{bs:List UInt8}(h:By H v bs)(he:Ext H H'):By H' v bs:=h.iD λb hb=>he.2 b (h.j8 hb) id
theorem Y9 (H0:aC){H:aC}(he:Ext H0 H)(n c:Nat):New H0 (.slice (some ⟨H.length,0,none⟩) n c):=λb ⟨_,_,_,h⟩=>by
 cases h;exact he.1
theorem Aa {n:Nat}(h:n<=100):j7 n 1=true:=kM (n:=100) (by decide) h
theorem aKj (hm:100<m)(f:Frm)(hf:f.ok): ∃H' v,lvl prog pkN m (.func 48) [frV f] H=some (.tuple #[v,.int .u16 (if dK f=true then 0 else 1)],H')/\Ext H H'/\By H' v (jV f)/\New H v:=by
 have main: ∃H' r,lvl prog pkN m (.func 48) [frV f] H=some (r,H')/\ ∃v,r= .tuple #[v,.int .u16 (if dK f=true then 0 else 1)]/\Ext H H'/\By H' v (jV f)/\New H v:=by
  refine jJ (cL rfl) (by omega) ?_
  rw[aJz];have e0:(Blk.cells (Value.cells (frV f)).toList 39 .fix)=frB f:=rfl;obtain⟨l0,l1,l2,l3,l4,l5,l6⟩:=kQ (dJ H (frB f));have s1:=Y8 (H:=H++[frB f]) (m:=m-1) (by omega) f
  have x0:Ext H (H++[frB f]):=Fr.app _ _ _;have x1:Ext H (H++[frB f]++[frB f]):=x0.tr (Fr.app _ _ _);by_cases hs:dK f=true
  ·rw[hs] at s1
   have hb2:=nF (dJ H (frB f)) (frB f);obtain⟨q0,q1,q2,q3,q4,q5,q6⟩:=kQ hb2;have e2: ∀G:aC,dL 5 1 2 [.int .u8 0] [(0,.int .u8 (f.kind:Int)),(1,.int .u8 (f.lane:Int))] G=some (.slice (some ⟨G.length,0,none⟩) 2 2,G++[.cells (([by8 f.kind,by8 f.lane].map byC).flatten) 5 .row]):=λG=>by
    rw[rG];simp only[aPp,List.map_nil,zX,aPs hf.kind,aPs hf.lane];rfl
   obtain⟨G2,hG2⟩: ∃G2,H++[frB f]++[frB f]=G2:=⟨_,rfl⟩;rw[hG2] at s1 x1 hb2 q0 q1 q2 q3 q4 q5 q6;obtain⟨G3,hG3⟩: ∃G3,G2++[Blk.cells (([by8 f.kind,by8 f.lane].map byC).flatten) 5 .row]=G3:=⟨_,rfl⟩;have b3:By G3 (.slice (some ⟨G2.length,0,none⟩) 2 2) [by8 f.kind,by8 f.lane]:=by rw[<-hG3];exact By.Ca G2 [by8 f.kind,by8 f.lane]
   have x3:Ext H G3:=by rw[<-hG3];exact x1.tr (Fr.app _ _ _)
   have hb3:G3[H.length]? =some (frB f):=by rw[<-hG3];exact nF hb2 _
   obtain⟨p0,p1,p2,p3,p4,p5,p6⟩:=kQ hb3;have x3':Ext G2 G3:=by rw[<-hG3];exact Fr.app _ _ _
   obtain⟨G4,v4,g1,b4,n4',x4'⟩:=B9 (m:=m-1) (by omega) (H0:=G2) f.seq hf.seq b3 (Y9 G2 (Fr.nC _ _) 2 2) x3' (Aa (by simp))
   have nk:((f.kind:Int)==1)=decide (f.kind=1):=pV f.kind 1;have hb4:G4[H.length]? =some (frB f):=by rw[x4'.2 _ (dE hb2) id,hb2]
   obtain⟨t0,t1,t2,t3,t4,t5,t6⟩:=kQ hb4;by_cases hk:f.kind=1
   ·have e5:dL 5 1 2 [.int .u8 0] [(0,.int .u8 (f.src:Int)),(1,.int .u8 (f.dst:Int))] G4=some (.slice (some ⟨G4.length,0,none⟩) 2 2,G4++[.cells (([by8 f.src,by8 f.dst].map byC).flatten) 5 .row]):=by
     rw[rG];simp only[aPp,List.map_nil,zX,aPs hf.src,aPs hf.dst];rfl
    have w5:Rs byC 5 (G4++[.cells (([by8 f.src,by8 f.dst].map byC).flatten) 5 .row]) (.slice (some ⟨G4.length,0,none⟩) 2 2) [by8 f.src,by8 f.dst]:=(By.Ca G4 [by8 f.src,by8 f.dst]).rs;obtain⟨v6,G6,g6,b6,n6,x6⟩:=(b4.sU [.cells (([by8 f.src,by8 f.dst].map byC).flatten) 5 .row]).vY zY Fz (by decide) (by':=1) w5 n4' (x4'.tr (Fr.app _ _ _)) (Aa (by simp[eV]))
    have hb6:G6[H.length]? =some (frB f):=by rw[x6.2 _ (dE hb2) id,hb2]
    obtain⟨r0,r1,r2,r3,r4,r5,r6⟩:=kQ hb6;have hb5:(G4++[Blk.cells (([by8 f.src,by8 f.dst].map byC).flatten) 5 .row])[H.length]? =some (frB f):=nF hb4 _;have r5':=(kQ hb5).2.2.2.2.2.1;have ck:chk (some (Value.int .u32 (f.body:Int),G4++[Blk.cells (([by8 f.src,by8 f.dst].map byC).flatten) 5 .row])) (.int .u32 (f.body:Int))=true:=by simp[chk,veq]
    obtain⟨G7,v7,g7,b7,n7,x7⟩:=aKi (m:=m-1) (by omega) f.body hf.body b6 n6 x6 (Aa (by simp[eV]))
    have hbody:jQ f=[by8 f.kind,by8 f.lane]++eV f.seq++[by8 f.src,by8 f.dst]++(eV (f.body/65536)++eV f.body):=by
     unfold jQ pG;rw[if_pos hk];simp[eV]
    rw[<-hbody] at b7;have hl7:(jQ f).length=10:=by rw[hbody];simp[eV]
    have s7:=N8 (H:=G7) (m:=m-1) b7.br (by omega) (by omega) (by omega)
    obtain⟨G8,v8,g8,b8,n8,x8⟩:=B9 (H:=G7++[mJ (crc (jQ f))]) (m:=m-1) (by omega) (crc (jQ f)) (yC _) (b7.ext (Fr.app _ _ _)) n7 (x7.tr (Fr.app _ _ _)) (by rw[hl7];decide)
    simp only[gsR,e0,l6,hG2,s1,q0,q1,e2,hG3,p2,g1,t0,nk,aPD hk,t3,t4,e5,g6,r5,r5',ck,g7,s7,g8];refine⟨_,_,rfl,_,by simp[hs],x1.tr x8,?_,λb hb=>aPa x1.1 (n8 b hb)⟩
    unfold jV nH kP;rw[if_pos hs];exact b8
   ·have hbody:jQ f=[by8 f.kind,by8 f.lane]++eV f.seq:=by
     unfold jQ pG;rw[if_neg hk];simp[eV]
    rw[<-hbody] at b4;have hl7:(jQ f).length=4:=by rw[hbody];simp[eV]
    have s7:=N8 (H:=G4) (m:=m-1) b4.br (by omega) (by omega) (by omega)
    obtain⟨G8,v8,g8,b8,n8,x8⟩:=B9 (H:=G4++[mJ (crc (jQ f))]) (m:=m-1) (by omega) (crc (jQ f)) (yC _) (b4.ext (Fr.app _ _ _)) n4' (x4'.tr (Fr.app _ _ _)) (by rw[hl7];decide)
    simp only[gsR,e0,l6,hG2,s1,q0,q1,e2,hG3,p2,g1,t0,nk,aPE hk,s7,g8];refine⟨_,_,rfl,_,by simp[hs],x1.tr x8,?_,λb hb=>aPa x1.1 (n8 b hb)⟩
    unfold jV nH kP;rw[if_pos hs];exact b8
  ·have hs':dK f=false:=by simpa using hs
   rw[hs'] at s1;simp only[gsR,e0,l6,s1];refine⟨_,_,rfl,_,by simp[hs],x1,?_,New.nP H⟩
   unfold jV nH;rw[if_neg hs];exact Rw.lQ
 obtain⟨H',r,h1,v,rfl,h2⟩:=main
 exact⟨H',v,h1,h2⟩
end
section
variable {H : aC} {m : Nat}
abbrev Bs (H:aC)(v:Value)(bs:List UInt8):Prop:=Rs byC 5 H v bs
theorem Za {v:Value}{bs:List UInt8}(h:Bs H v bs):Br H v bs:=by
 rcases h with⟨h1,h2⟩|⟨b,o,cap,h1,h2,h3⟩
 ·exact .inl ⟨h2,.inl h1⟩
 ·by_cases hb:bs=[]
  ·exact .inl ⟨hb,.inr ⟨b,o,cap,by rw[h1,hb];rfl⟩⟩
  ·obtain⟨e',k,pre,post,h4,_,h5⟩:=h3 hb
   refine .inr ⟨b,o,cap,_,e',k,h1,List.length_pos_iff.mpr hb,h5,?_,?_⟩
   ·rw[rG]
    simp;omega
   ·rw[rG,<-h4,aO1,List.drop_left]
    have:bs.length=(bs.map iF).length:=by simp
    rw[this,List.take_left]
theorem pH {v:Value}{bs:List UInt8}(h:Bs H v bs){i:Nat}{x:UInt8}(hx:bs[i]? =some x)(k:IntKind): ∃a,aR 1 v (.int k i)=some a/\ ∀H',Ext H H'->ld1 a H'=some (iF x,H'):=by
 obtain⟨b,o,h1,h2,h3⟩:=h.iG zY hx k;obtain⟨e',hr⟩:=h.rr (λh=>by subst h;simp at hx)
 exact⟨_,h1,λH' he=>(h3 H' (he.2 b (hr.aEK h2) id)).2.1 0 (iF x) rfl⟩
theorem Zc (bs:List UInt8)(c:UInt8):fH (bs++[c])=fH bs*256+c.toNat:=by simp[fH]
theorem F7: ∀(n:Nat)(bs:List UInt8),bs.length=n->fH bs<256 ^ n:=by
 intro n;induction n with
 |zero=>intro bs h;rw[aPc.mp h];decide
 |succ n ih=>
  intro bs h;have hne:bs≠[]:=λhh=>by rw[hh] at h;simp at h
  rw[<-List.dropLast_concat_getLast hne,Zc,Nat.pow_succ];have h1:=ih bs.dropLast (by simp[h])
  have h2:=(bs.getLast hne).toNat_lt;omega
theorem aKm (n c:Nat)(hc:c<256):n*256|||c=n*256+c:=by
 have:=Nat.shiftLeft_add_eq_or_of_lt (i:=8) (b:=c) hc n;rw[Nat.shiftLeft_eq] at this;exact this.symm
theorem aKn {u:Value}{bs:List UInt8}(hu:Bs H u bs)(h4:bs.length<=4): ∀(q i k:Nat),bs.length-i=q->i<=bs.length->q<k->
  ∀x0 x1 x2 x4 x5 x9 bK bN bC aO aP aM aS bI aN:Value,aI k (aK prog (lvl prog pkN m) (aI m) My) (Mz (lvl prog pkN m) (aI m)) [x0,x1,x2,(.int .u32 (fH (bs.take i))),x4,x5,u,(.int .i64 bs.length),(.int .i64 i),x9,bK,bN,bC,aO,aP,aM,aS,bI,aN] H=some (.int .u32 (fH bs),H):=by
 intro q;induction q with
 |zero=>
  intro i k hq hi hk x0 x1 x2 x4 x5 x9 bK bN bC aO aP aM aS bI aN;obtain⟨k,rfl⟩: ∃k',k=k'+1:=⟨k-1,by omega⟩
  have hi8:i=bs.length:=by omega
  subst hi8;have c1:decide ((bs.length:Int)<(bs.length:Int))=false:=by simp
  rw[aI,Ya];simp only[gsR,c1];rw[aI5];simp only[gsR,List.take_length]
 |succ q ih=>
  intro i k hq hi hk x0 x1 x2 x4 x5 x9 bK bN bC aO aP aM aS bI aN;obtain⟨k,rfl⟩: ∃k',k=k'+1:=⟨k-1,by omega⟩
  have c1:decide ((i:Int)<(bs.length:Int))=true:=by rw[decide_eq_true_eq];omega
  have hx:bs[i]? =some bs[i]:=aOW (by omega)
  obtain⟨a,a1,a2⟩:=pH hu hx .i64;have a2:=a2 H (Fr.nC _ _);have hb:=F7 i (bs.take i) (by simp;omega)
  have hb3:fH (bs.take i)<16777216:=aO9 hb (Nat.pow_le_pow_right (n:=256) (i:=i) (j:=3) (by omega) (by omega))
  have hc:=bs[i].toNat_lt;have e1:bin prog .shl 37 (.int .u32 (fH (bs.take i):Int)) (.int .u64 8)=some (.int .u32 ((fH (bs.take i)*256:Nat):Int)):=by
   have:=xW (P:=prog) .u32 .u64 rfl 37 (fH (bs.take i)) 8 (by decide)
   rw[show fH (bs.take i)*2 ^ 8%2 ^ IntKind.u32.bits=fH (bs.take i)*256 from by show fH (bs.take i)*256%4294967296=_;omega] at this
   exact this
  have e2:cI prog 5 37 (iF bs[i]) H=some (.int .u32 (bs[i].toNat:Int),H):=by
   show cI prog 5 37 (.int .u8 bs[i].toNat) H=_
   rw[fF _ _ u8U oE,Fx _ (by omega)]
  have e3:bin prog .or 37 (.int .u32 ((fH (bs.take i)*256:Nat):Int)) (.int .u32 (bs[i].toNat:Int))=some (.int .u32 (fH (bs.take (i+1)):Int)):=by
   rw[J1 .u32 rfl _ (a:=fH (bs.take i)*256) (b:=bs[i].toNat) (by show _<4294967296;omega) (by show _<4294967296;omega),aKm _ _ hc,List.take_add_one,hx]
   rw[show(some bs[i]).toList=[bs[i]] from rfl,Zc]
  have e4:=aA (i:=i) (by omega)
  rw[aI,Ya];simp only[gsR,c1,a1,a2,e1,e2,e3,cC,e4];exact ih (i+1) k (by omega) (by omega) (by omega) _ _ _ _ _ _ _ _ _ _ _ _ _ _ _
theorem Ob {u:Value}{bs:List UInt8}(hu:Bs H u bs)(h4:bs.length<=4)(hm:10<m):lvl prog pkN m (.func 136) [u] H=some (.int .u32 (fH bs),H):=by
 refine dF (cL rfl) (by omega) ?_
 rw[aI6];simp only[gsR,hu.gO];exact aKn hu h4 bs.length 0 (m-1) (by omega) (by omega) (by omega) _ _ _ _ _ _ _ _ _ _ _ _ _ _ _
def zfB:Blk:=frB Frm.iI
def nT (bs:List UInt8):Value:=match oK bs with
 |some f=> .tuple #[frV f,.int .u16 0]
 |none=> .tuple #[frV Frm.iI,.int .u16 30]
theorem aKk:prog.cellsOf 5=1:=by kernel_rfl
theorem yF {b:Nat}{f:Frm}(g:Frm)(hb:H[b]? =some (frB f)):stN 6 (.pointer (some ⟨b,0,none⟩)) (frV g) H=some (undef,H.set b (frB g)):=zW hb (by decide) rfl rfl (aOZ 6) rfl
theorem Ab (a b:Bool):bin prog .neq 4 (.bool a) (.bool b)=some (.bool (a !=b)):=by
 cases a<;>cases b<;>rfl
theorem rY {H G:aC}{b:Nat}(he:Ext H G)(hb:H.length<=b)(y:Blk):Ext H (G.set b y):=⟨by simp[he.1],λc hc _=>by rw[aOV (by omega),he.2 c hc id]⟩
theorem Zb {G:aC}(he:Ext H G)(h0:G[H.length]? =some zfB)(h1:G[H.length+1]? =some zfB):ldN 6 (.pointer (some ⟨H.length+1,0,none⟩)) G=some (frV Frm.iI,G)/\
  stN 6 (.pointer (some ⟨H.length,0,none⟩)) (frV Frm.iI) G=some (undef,G.set H.length zfB)/\ldN 6 (.pointer (some ⟨H.length,0,none⟩)) (G.set H.length zfB)=some (frV Frm.iI,G.set H.length zfB)/\Ext H (G.set H.length zfB):=
 ⟨(kQ h1).2.2.2.2.2.2,yF Frm.iI h0,(kQ (iE h0)).2.2.2.2.2.2,rY he (aOZ _) _⟩
theorem Zd (H:aC)(X:aC):(H++[zfB]++[zfB]++X)[H.length]? =some zfB/\(H++[zfB]++[zfB]++X)[H.length+1]? =some zfB:=by
 constructor
 ·simp
 ·rw[aO1,aO1,aPe (by omega)]
  simp
theorem aKl (hm:100<m){u:Value}{bs:List UInt8}(hu:Bs H u bs)(h6:bs.length≠6)(h12:bs.length≠12): ∃H',lvl prog pkN m (.func 87) [u] H=some (nT bs,H')/\Ext H H':=by
 refine lK (cL rfl) (by omega) ?_
 rw[Yr];have hd:nT bs= .tuple #[frV Frm.iI,.int .u16 30]:=by
  unfold nT oK;rw[if_neg (by omega),if_neg (by omega)]
 have e0:(Blk.cells [.int .u8 0,.int .u8 0,.int .u16 0,.int .u8 0,.int .u8 0,.int .u32 0] 39 .fix)=zfB:=rfl;have c1:((bs.length:Int)!=6)=true:=by simp;omega
 have c2:((bs.length:Int)!=12)=true:=by simp;omega
 have b2:=Zd H [];rw[List.append_nil] at b2;have x2:Ext H (H++[zfB]++[zfB]):=by rw[aO1];exact Fr.app _ _ _
 have hl2:(H++[zfB]).length=H.length+1:=by simp
 obtain⟨o1,o2,o3,o4⟩:=Zb x2 b2.1 b2.2;simp only[gsR,e0,hl2,hu.gO,c1,c2,o1,o2,o3,hd]
 exact⟨_,rfl,o4⟩
end
section
variable {H : aC} {m : Nat}
theorem aKo {bs:List UInt8}(h:bs.length=6∨bs.length=12):(bs.take 4).drop 2=[bs.getD 2 0,bs.getD 3 0]:=by
 rcases h with h|h
 ·match bs,h with
  |[a,b,c,d,e,f],_=>rfl
 ·match bs,h with
  |[a,b,c,d,e,f,g,h,i,j,k,l],_=>rfl
theorem aKp {bs:List UInt8}(h:bs.length=12):(bs.take 10).drop 6=[bs.getD 6 0,bs.getD 7 0,bs.getD 8 0,bs.getD 9 0]:=by
 match bs,h with
 |[a,b,c,d,e,f,g,h,i,j,k,l],_=>rfl
theorem pW {bs:List UInt8}{i:Nat}(h:i<bs.length):bs[i]? =some (bs.getD i 0):=by
 rw[aOY,aOW h];rfl
theorem aKq (a:Option Addr)(n c:Nat)(G:aC):chk (some (Value.slice a n c,G)) (.slice a n c)=true:=by simp[chk,veq]
theorem F8 (x:UInt8)(G:aC):chk (some (iF x,G)) (iF x)=true:=by simp[chk,veq,iF]
theorem Zg (x:UInt8)(n:Nat)(z:Int)(hz:z=n):bin prog .eql 5 (iF x) (.int .u8 z)=some (.bool (decide (x.toNat=n))):=by
 rw[iF,b_eql,hz,pV]
theorem Oc (a b:UInt8):fH [a,b]<65536:=by
 have:=a.toNat_lt;have:=b.toNat_lt;rw[Fy];omega
theorem bff:(false !=false)=false:=rfl
theorem btt:(true !=true)=false:=rfl
theorem Zf (hm:0<m){G:aC}{f:Frm}(he:Ext H G)(h0:G[H.length]? =some zfB)(h1:G[H.length+1]? =some (frB f)):
  ldN 6 (.pointer (some ⟨H.length+1,0,none⟩)) G=some (frV f,G)/\lvl prog pkN m (.func 92) [frV f] G=some (.bool (dK f),G++[frB f])/\
  ldN 6 (.pointer (some ⟨H.length+1,0,none⟩)) (G++[frB f])=some (frV f,G++[frB f])/\
  (∀g,stN 6 (.pointer (some ⟨H.length,0,none⟩)) (frV g) (G++[frB f])=some (undef,(G++[frB f]).set H.length (frB g))/\ldN 6 (.pointer (some ⟨H.length,0,none⟩)) ((G++[frB f]).set H.length (frB g))=some (frV g,(G++[frB f]).set H.length (frB g))/\Ext H ((G++[frB f]).set H.length (frB g))):=by
 have hx:Ext H (G++[frB f]):=he.tr (Fr.app _ _ _);have h0':(G++[frB f])[H.length]? =some (frB Frm.iI):=nF h0 _
 exact⟨(kQ h1).2.2.2.2.2.2,Y8 hm f,(kQ (nF h1 _)).2.2.2.2.2.2,λg=>⟨yF g h0',(kQ (iE h0')).2.2.2.2.2.2,rY hx (aOZ _) _⟩⟩
theorem Ze (hm:200<m){u:Value}{bs:List UInt8}(hu:Bs H u bs)(hl:bs.length=6∨bs.length=12): ∃H',lvl prog pkN m (.func 87) [u] H=some (nT bs,H')/\Ext H H':=by
  have hne:bs≠[]:=λhh=>by rw[hh] at hl;simp at hl
  obtain⟨sb,so,cap,rfl,hcap,hs⟩:=hu.aJW zY aKk hne;refine lK (cL rfl) (by omega) ?_
  rw[Yr];have e0:(Blk.cells [.int .u8 0,.int .u8 0,.int .u16 0,.int .u8 0,.int .u8 0,.int .u32 0] 39 .fix)=zfB:=rfl;have hl2:(H++[zfB]).length=H.length+1:=by simp
  have x2:Ext H (H++[zfB]++[zfB]):=by rw[aO1];exact Fr.app _ _ _
  have b2:=Zd H [];rw[List.append_nil] at b2;obtain⟨G2,hG2⟩: ∃G2,H++[zfB]++[zfB]=G2:=⟨_,rfl⟩;rw[hG2] at x2 b2;have w1:IntKind.i64.wrap ((bs.length:Int)-2)=((bs.length-2:Nat):Int):=by rw[dG (by omega) (by omega)];omega
  have f1: ∀G,Ext H G->slc prog 1 (.slice (some ⟨sb,so,none⟩) bs.length cap) none (some (.int .i64 ((bs.length-2:Nat):Int))) (some (.int .i64 ((bs.length-2:Nat):Int))) G=some (.slice (some ⟨sb,so+0*1,none⟩) (bs.length-2-0) (bs.length-2-0),G)/\Bs G (.slice (some ⟨sb,so+0*1,none⟩) (bs.length-2-0) (bs.length-2-0)) (bs.take (bs.length-2)):=λG he=>by
    have:=hs G (hu.ext he) 0 (bs.length-2) none _ _ (bs.length-2) rfl (oA _ .i64 _) (oA _ .i64 _) (by omega) (by omega) (by omega) (by omega)
    rw[List.drop_zero] at this;exact this
  have f2: ∀G,Ext H G->slc prog 1 (.slice (some ⟨sb,so,none⟩) bs.length cap) (some (.int .i64 ((bs.length-2:Nat):Int))) none none G=some (.slice (some ⟨sb,so+(bs.length-2)*1,none⟩) (bs.length-(bs.length-2)) (cap-(bs.length-2)),G)/\Bs G (.slice (some ⟨sb,so+(bs.length-2)*1,none⟩) (bs.length-(bs.length-2)) (cap-(bs.length-2))) (bs.drop (bs.length-2)):=λG he=>by
    have:=hs G (hu.ext he) (bs.length-2) bs.length _ none none cap (oA _ .i64 _) rfl rfl (by omega) (by omega) (by omega) (by omega)
    rw[List.take_length] at this;exact this
  have f3: ∀G,Ext H G->slc prog 1 (.slice (some ⟨sb,so,none⟩) bs.length cap) (some (.int .i64 2)) (some (.int .i64 4)) none G=some (.slice (some ⟨sb,so+2*1,none⟩) (4-2) (cap-2),G)/\Bs G (.slice (some ⟨sb,so+2*1,none⟩) (4-2) (cap-2)) [bs.getD 2 0,bs.getD 3 0]:=λG he=>by
    have:=hs G (hu.ext he) 2 4 (some (.int .i64 2)) (some (.int .i64 4)) none cap (oA _ .i64 2) (oA _ .i64 4) rfl (by omega) (by omega) (by omega) (by omega)
    rw[aKo hl] at this;exact this
  have q1:=(f1 G2 x2).1;have s1:=N8 (H:=G2) (m:=m-1) (Za (f1 G2 x2).2) (by omega) (by simp;omega) (by simp;omega)
  obtain⟨G3,hG3⟩: ∃G3,G2++[mJ (crc (bs.take (bs.length-2)))]=G3:=⟨_,rfl⟩;rw[hG3] at s1;have x3:Ext H G3:=by rw[<-hG3];exact x2.tr (Fr.app _ _ _)
  have b30:G3[H.length]? =some zfB:=by rw[<-hG3];exact nF b2.1 _
  have b31:G3[H.length+1]? =some zfB:=by rw[<-hG3];exact nF b2.2 _
  have q2:=(f2 G3 x3).1;have q2':=(f2 G2 x2).1;have s2:=Ob (H:=G3) (m:=m-1) (f2 G3 x3).2 (by simp;omega) (by omega)
  have cv1:IntKind.u32.wrap (crc (bs.take (bs.length-2)):Int)=(crc (bs.take (bs.length-2)):Int):=Fx _ (by have:=yC (bs.take (bs.length-2));omega)
  obtain⟨o1,o2,o3,o4⟩:=Zb x3 b30 b31;have ck2:chk (some (Value.slice (some ⟨sb,so+(bs.length-2)*1,none⟩) (bs.length-(bs.length-2)) (cap-(bs.length-2)),G2)) (.slice (some ⟨sb,so+(bs.length-2)*1,none⟩) (bs.length-(bs.length-2)) (cap-(bs.length-2)))=true:=aKq _ _ _ _;have c1: ∀z:Bool,((bs.length:Int)!=6)=z->z=decide (bs.length≠6):=λz hz=>by rw[<-hz];exact zZ bs.length 6
  have nn6:((bs.length:Int)!=6)=decide (bs.length≠6):=zZ bs.length 6;have nn12:((bs.length:Int)!=12)=decide (bs.length≠12):=zZ bs.length 12;have ne12:((bs.length:Int)==12)=decide (bs.length=12):=pV bs.length 12;have hlen:bM (Value.slice (some ⟨sb,so,none⟩) bs.length cap)=some (.int .i64 bs.length):=rfl;have ncr:((crc (bs.take (bs.length-2)):Int)!=(fH (bs.drop (bs.length-2)):Int))=decide (crc (bs.take (bs.length-2))≠fH (bs.drop (bs.length-2))):=zZ _ _;obtain⟨a0,i0,l0⟩:=pH hu (pW (bs:=bs) (i:=0) (by omega)) .i64
  obtain⟨a1,i1,l1⟩:=pH hu (pW (bs:=bs) (i:=1) (by omega)) .i64
  have i0':aR 1 (.slice (some ⟨sb,so,none⟩) bs.length cap) (.int .i64 0)=some a0:=i0;have i1':aR 1 (.slice (some ⟨sb,so,none⟩) bs.length cap) (.int .i64 1)=some a1:=i1;have k0:=Zg (bs.getD 0 0) 1 1 rfl;have hdn:crc (bs.take (bs.length-2))≠fH (bs.drop (bs.length-2))∨decide ((bs.getD 0 0).toNat=1)≠decide (bs.length=12)->nT bs= .tuple #[frV Frm.iI,.int .u16 30]:=λhh=>by
    have:oK bs=none:=by
      unfold oK wL;rcases hl with h6|h12
      · by_cases hk:(bs.getD 0 0).toNat=1
        · rw[if_neg (by omega),if_neg (by omega)]
        · rw[if_pos ⟨h6,hk⟩,if_neg]
          rintro ⟨h1,_⟩
          rcases hh with hh|hh
          · rw[h6] at hh
            exact hh h1
          · rw[aPE hk,aPE (show¬bs.length=12 by omega)] at hh
            exact hh rfl
      · by_cases hk:(bs.getD 0 0).toNat=1
        · rw[if_neg (by omega),if_pos ⟨h12,hk⟩,if_neg]
          rintro ⟨h1,_⟩
          rcases hh with hh|hh
          · rw[h12] at hh
            exact hh h1
          · rw[aPD hk,aPD h12] at hh
            exact hh rfl
        · rw[if_neg (by omega),if_neg (by omega)]
    unfold nT;rw[this]
  -- up to the second test
  by_cases hc:crc (bs.take (bs.length-2))=fH (bs.drop (bs.length-2))
  rotate_left
  · have hd:=hdn (.inl hc)
    rcases hl with h6|h12
    · have d6:decide (bs.length≠6)=false:=by simp[h6]
      simp only[gsR,e0,hl2,hG2,hlen,nn6,d6,iM,w1,q1,s1,fF _ _ lV oE,cv1,q2,q2',ck2,s2,ncr,aPD hc,o1,o2,o3,hd]
      exact⟨_,rfl,o4⟩
    · have d6:decide (bs.length≠6)=true:=by simp[h12]
      have d12:decide (bs.length≠12)=false:=by simp[h12]
      simp only[gsR,e0,hl2,hG2,hlen,nn6,nn12,d6,d12,iM,w1,q1,s1,fF _ _ lV oE,cv1,q2,q2',ck2,s2,ncr,aPD hc,o1,o2,o3,hd]
      exact⟨_,rfl,o4⟩
  have nz:decide (crc (bs.take (bs.length-2))≠fH (bs.drop (bs.length-2)))=false:=by simp[hc]
  have l0':=l0 G3 x3;have l1':=l1 G3 x3;by_cases hk:decide ((bs.getD 0 0).toNat=1)=decide (bs.length=12)
  rotate_left
  · have hd:=hdn (.inr hk)
    have hkb:(decide ((bs.getD 0 0).toNat=1)!=decide (bs.length=12))=true:=by simpa using hk
    rcases hl with h6|h12
    · have d6:decide (bs.length≠6)=false:=by simp[h6]
      simp only[gsR,e0,hl2,hG2,hlen,nn6,d6,iM,w1,q1,s1,fF _ _ lV oE,cv1,q2,q2',ck2,s2,ncr,nz,i0',l0',k0,ne12,Ab,hkb,o1,o2,o3,hd]
      exact⟨_,rfl,o4⟩
    · have d6:decide (bs.length≠6)=true:=by simp[h12]
      have d12:decide (bs.length≠12)=false:=by simp[h12]
      simp only[gsR,e0,hl2,hG2,hlen,nn6,nn12,d6,d12,iM,w1,q1,s1,fF _ _ lV oE,cv1,q2,q2',ck2,s2,ncr,nz,i0',l0',k0,ne12,Ab,hkb,o1,o2,o3,hd]
      exact⟨_,rfl,o4⟩
  have hkb:(decide ((bs.getD 0 0).toNat=1)!=decide (bs.length=12))=false:=by simpa using hk
  have q3:=(f3 G3 x3).1;have s3:=Ob (H:=G3) (m:=m-1) (f3 G3 x3).2 (by simp) (by omega)
  have w3:IntKind.u16.wrap (fH [bs.getD 2 0,bs.getD 3 0]:Int)=(fH [bs.getD 2 0,bs.getD 3 0]:Int):=wA (by omega) (by have:=Oc (bs.getD 2 0) (bs.getD 3 0);omega)
  have bF:bld prog 39 [(0,iF (bs.getD 0 0)),(1,iF (bs.getD 1 0)),(2,.int .u16 (fH [bs.getD 2 0,bs.getD 3 0]))]=some (frV (eW bs)):=rfl;have bZ:bld prog 39 []=some (frV Frm.iI):=rfl;have st1:=yF (eW bs) b31;obtain⟨G4,hG4⟩: ∃G4,G3.set (H.length+1) (frB (eW bs))=G4:=⟨_,rfl⟩;rw[hG4] at st1;have x4:Ext H G4:=by rw[<-hG4];exact rY x3 (by omega) _
  have b40:G4[H.length]? =some zfB:=by rw[<-hG4,aOV (by omega)];exact b30
  have b41:G4[H.length+1]? =some (frB (eW bs)):=by rw[<-hG4];exact iE b31
  rcases hl with h6|h12
  · have d6:decide (bs.length≠6)=false:=by simp[h6]
    have d12:decide (bs.length=12)=false:=by simp[h6]
    have hk1: ¬(bs.getD 0 0).toNat=1:=by rw[d12] at hk;simpa using hk
    have hdec:oK bs=if dK (eW bs)=true then some (eW bs) else none:=by
      unfold oK wL;rw[if_pos ⟨h6,hk1⟩];rw[h6] at hc;by_cases hs:dK (eW bs)=true
      · rw[if_pos ⟨hc,hs⟩,if_pos hs]
      · rw[if_neg λh=>hs h.2,if_neg hs]
    obtain⟨t1,t2,t3,t4⟩:=Zf (m:=m-1) (by omega) x4 b40 b41
    by_cases hs:dK (eW bs)=true
    · obtain⟨u1,u2,u3⟩:=t4 (eW bs)
      have hd:nT bs= .tuple #[frV (eW bs),.int .u16 0]:=by unfold nT;rw[hdec,if_pos hs]
      rw[hs] at t2;simp only[gsR,e0,hl2,hG2,hlen,nn6,d6,iM,w1,q1,s1,fF _ _ lV oE,fF _ _ oE lV,cv1,q2,q2',ck2,s2,ncr,nz,i0',l0',i1',l1',k0,ne12,Ab,aPE hk1,bff,q3,s3,F8,w3,bF,st1,d12,t1,t2,t3,u1,u2,hd]
      exact⟨_,rfl,u3⟩
    · obtain⟨u1,u2,u3⟩:=t4 Frm.iI
      have hs':dK (eW bs)=false:=by simpa using hs
      have hd:nT bs= .tuple #[frV Frm.iI,.int .u16 30]:=by unfold nT;rw[hdec,if_neg hs]
      rw[hs'] at t2;simp only[gsR,e0,hl2,hG2,hlen,nn6,d6,iM,w1,q1,s1,fF _ _ lV oE,fF _ _ oE lV,cv1,q2,q2',ck2,s2,ncr,nz,i0',l0',i1',l1',k0,ne12,Ab,aPE hk1,bff,q3,s3,F8,w3,bF,st1,d12,t1,t2,bZ,u1,u2,hd]
      exact⟨_,rfl,u3⟩
  · have d6:decide (bs.length≠6)=true:=by simp[h12]
    have d12':decide (bs.length≠12)=false:=by simp[h12]
    have d12:decide (bs.length=12)=true:=by simp[h12]
    have hk1:(bs.getD 0 0).toNat=1:=by rw[d12] at hk;simpa using hk
    have hdec:oK bs=if dK (jL bs)=true then some (jL bs) else none:=by
      unfold oK wL;rw[if_neg (by omega),if_pos ⟨h12,hk1⟩]
      rw[h12] at hc;by_cases hs:dK (jL bs)=true
      · rw[if_pos ⟨hc,hs⟩,if_pos hs]
      · rw[if_neg λh=>hs h.2,if_neg hs]
    obtain⟨a4,i4,l4⟩:=pH hu (pW (bs:=bs) (i:=4) (by omega)) .i64
    obtain⟨a5,i5,l5⟩:=pH hu (pW (bs:=bs) (i:=5) (by omega)) .i64
    have i4':aR 1 (.slice (some ⟨sb,so,none⟩) bs.length cap) (.int .i64 4)=some a4:=i4;have i5':aR 1 (.slice (some ⟨sb,so,none⟩) bs.length cap) (.int .i64 5)=some a5:=i5;have f4:slc prog 1 (.slice (some ⟨sb,so,none⟩) bs.length cap) (some (.int .i64 6)) (some (.int .i64 10)) none G4=some (.slice (some ⟨sb,so+6*1,none⟩) (10-6) (cap-6),G4)/\Bs G4 (.slice (some ⟨sb,so+6*1,none⟩) (10-6) (cap-6)) [bs.getD 6 0,bs.getD 7 0,bs.getD 8 0,bs.getD 9 0]:=by
      have:=hs G4 (hu.ext x4) 6 10 (some (.int .i64 6)) (some (.int .i64 10)) none cap (oA _ .i64 6) (oA _ .i64 10) rfl (by omega) (by omega) (by omega) (by omega)
      rw[aKp h12] at this;exact this
    have q4:=f4.1;have s4:=Ob (H:=G4) (m:=m-1) f4.2 (by simp) (by omega)
    have st3:stN 1 (.pointer (some ⟨H.length+1,3,none⟩)) (iF (bs.getD 4 0)) G4=some (undef,G4.set (H.length+1) (frB {eW bs with src:=(bs.getD 4 0).toNat})):=kZ b41 (by decide) (by simp[frC])
    obtain⟨G5,hG5⟩: ∃G5,G4.set (H.length+1) (frB {eW bs with src:=(bs.getD 4 0).toNat})=G5:=⟨_,rfl⟩;rw[hG5] at st3;have x5:Ext H G5:=by rw[<-hG5];exact rY x4 (by omega) _
    have b50:G5[H.length]? =some zfB:=by rw[<-hG5,aOV (by omega)];exact b40
    have b51:G5[H.length+1]? =some (frB {eW bs with src:=(bs.getD 4 0).toNat}):=by rw[<-hG5];exact iE b41
    have st4:stN 1 (.pointer (some ⟨H.length+1,4,none⟩)) (iF (bs.getD 5 0)) G5=some (undef,G5.set (H.length+1) (frB {eW bs with src:=(bs.getD 4 0).toNat,dst:=(bs.getD 5 0).toNat})):=kZ b51 (by decide) (by simp[frC])
    obtain⟨G6,hG6⟩: ∃G6,G5.set (H.length+1) (frB {eW bs with src:=(bs.getD 4 0).toNat,dst:=(bs.getD 5 0).toNat})=G6:=⟨_,rfl⟩;rw[hG6] at st4;have x6:Ext H G6:=by rw[<-hG6];exact rY x5 (by omega) _
    have b60:G6[H.length]? =some zfB:=by rw[<-hG6,aOV (by omega)];exact b50
    have b61:G6[H.length+1]? =some (frB {eW bs with src:=(bs.getD 4 0).toNat,dst:=(bs.getD 5 0).toNat}):=by rw[<-hG6];exact iE b51
    have st5:stN 1 (.pointer (some ⟨H.length+1,5,none⟩)) (.int .u32 (fH [bs.getD 6 0,bs.getD 7 0,bs.getD 8 0,bs.getD 9 0]:Int)) G6=some (undef,G6.set (H.length+1) (frB (jL bs))):=kZ b61 (by decide) (by simp[frC])
    obtain⟨G7,hG7⟩: ∃G7,G6.set (H.length+1) (frB (jL bs))=G7:=⟨_,rfl⟩;rw[hG7] at st5;have x7:Ext H G7:=by rw[<-hG7];exact rY x6 (by omega) _
    have b70:G7[H.length]? =some zfB:=by rw[<-hG7,aOV (by omega)];exact b60
    have b71:G7[H.length+1]? =some (frB (jL bs)):=by rw[<-hG7];exact iE b61
    have l44:=l4 G4 x4;have l54:=l5 G4 x4;have l55:=l5 G5 x5;obtain⟨t1,t2,t3,t4⟩:=Zf (m:=m-1) (by omega) x7 b70 b71
    by_cases hs:dK (jL bs)=true
    · obtain⟨u1,u2,u3⟩:=t4 (jL bs)
      have hd:nT bs= .tuple #[frV (jL bs),.int .u16 0]:=by unfold nT;rw[hdec,if_pos hs]
      rw[hs] at t2;simp only[gsR,e0,hl2,hG2,hlen,nn6,nn12,d6,d12',iM,w1,q1,s1,fF _ _ lV oE,fF _ _ oE lV,cv1,q2,q2',ck2,s2,ncr,nz,i0',l0',i1',l1',k0,ne12,Ab,aPD hk1,btt,q3,s3,F8,w3,bF,st1,d12,i4',i5',l44,l54,l55,q4,s4,st3,st4,st5,t1,t2,t3,u1,u2,hd]
      exact⟨_,rfl,u3⟩
    · obtain⟨u1,u2,u3⟩:=t4 Frm.iI
      have hs':dK (jL bs)=false:=by simpa using hs
      have hd:nT bs= .tuple #[frV Frm.iI,.int .u16 30]:=by unfold nT;rw[hdec,if_neg hs]
      rw[hs'] at t2;simp only[gsR,e0,hl2,hG2,hlen,nn6,nn12,d6,d12',iM,w1,q1,s1,fF _ _ lV oE,fF _ _ oE lV,cv1,q2,q2',ck2,s2,ncr,nz,i0',l0',i1',l1',k0,ne12,Ab,aPD hk1,btt,q3,s3,F8,w3,bF,st1,d12,i4',i5',l44,l54,l55,q4,s4,st3,st4,st5,t1,t2,bZ,u1,u2,hd]
      exact⟨_,rfl,u3⟩
theorem aKr (hm:200<m){u:Value}{bs:List UInt8}(hu:Bs H u bs): ∃H',lvl prog pkN m (.func 87) [u] H=some (nT bs,H')/\Ext H H':=by
 by_cases h6:bs.length=6
 ·exact Ze hm hu (.inl h6)
 ·by_cases h12:bs.length=12
  ·exact Ze hm hu (.inr h12)
  ·exact aKl (by omega) hu h6 h12
end
end Go.Proofs.YtkeilicinggjmaaGreatDoor
namespace Go.Abs
def Rq {α:Type}(el:α->List Value)(e:TypeId)(sz:Nat)(H:aC)(v:Value)(xs:List α):Prop:=
 (v= .slice none 0 0/\xs=[])∨ ∃c pre rest cap,v= .slice (some ⟨c,pre.length,none⟩) xs.length cap/\xs.length<=cap/\rest.length=(cap-xs.length)*sz/\H[c]? =some (.cells (pre++(xs.map el).flatten++rest) e .row)
section
variable {α : Type} {el : α → List Value} {e : TypeId} {sz : Nat} {H H' : aC} {v w : Value} {xs ys : List α}
theorem Rq.Zh:Rq el e sz H (.slice none 0 0) ([]:List α):= .inl ⟨rfl,rfl⟩
theorem Rq.Od (h:Rq el e sz H v xs):bM v=some (.int .i64 xs.length):=by
 rcases h with⟨rfl,rfl⟩|⟨c,pre,rest,cap,rfl,_⟩<;>rfl
theorem Rq.blk (h:Rq el e sz H v xs){b:Nat}(hb:cR v b): ∃cs,H[b]? =some (.cells cs e .row):=by
 rcases h with⟨rfl,rfl⟩|⟨c,pre,rest,cap,rfl,_,_,h3⟩
 ·obtain⟨_,_,_,hh⟩:=hb
  cases hh
 ·obtain⟨_,_,_,hh⟩:=hb
  cases hh
  exact⟨_,h3⟩
theorem Rq.wR (h:Rq el e sz H v xs){b:Nat}(hb:cR v b):b<H.length:=by
 obtain⟨cs,hc⟩:=h.blk hb;exact dE hc
theorem Rq.yG (h:Rq el e sz H v xs)(hk: ∀b,cR v b->H'[b]? =H[b]?):Rq el e sz H' v xs:=by
 rcases h with h|⟨c,pre,rest,cap,rfl,h1,h2,h3⟩
 ·exact .inl h
 ·exact .inr ⟨c,pre,rest,cap,rfl,h1,h2,by rw[hk c ⟨_,_,_,rfl⟩,h3]⟩
theorem Rq.ext (h:Rq el e sz H v xs)(he:Ext H H'):Rq el e sz H' v xs:=h.yG λb hb=>he.2 b (h.wR hb) id
theorem Rq.rs (h:Rq el e sz H v xs):Rs el e H v xs:=by
 rcases h with h|⟨c,pre,rest,cap,rfl,h1,h2,h3⟩
 ·exact .inl h
 ·exact .inr ⟨c,_,cap,rfl,h1,λ_=>⟨e,.row,pre,rest,rfl,λ_=>rfl,h3⟩⟩
theorem Rq.Ac (h:Rq el e sz H v xs):v.cells.toList=[v]/\dZ [v]=true:=by
 rcases h with⟨rfl,rfl⟩|⟨c,pre,rest,cap,rfl,_⟩<;>exact⟨rfl,rfl⟩
theorem Rq.aKs {P:Program}{x:α}(hsz: ∀x,(el x).length=sz)(he:P.cellsOf e=sz)(h:Rq el e sz H v (x::xs)): ∃v',(∀H',Rq el e sz H' v (x::xs)->slc P sz v (some (.int .i64 1)) none none H'=some (v',H'))/\Rq el e sz H v' xs/\ ∀b,cR v' b->cR v b:=by
 rcases h with⟨_,h⟩|⟨c,pre,rest,cap,rfl,h1,h2,h3⟩
 ·cases h
 ·simp only[aPg] at h1 h2
  refine⟨.slice (some ⟨c,pre.length+1*sz,none⟩) ((x::xs).length-1) (cap-1),λH' h'=> ?_,.inr ⟨c,pre++el x,rest,cap-1,by simp[hsz],by omega,by rw[h2];congr 1;omega,by rw[h3];simp⟩,?_⟩
  ·rcases h' with⟨_,h⟩|⟨c',pre',rest',cap',heq,_,_,h3'⟩
   ·cases h
   ·injection heq with a1 a2 a3
    injection a1 with a1;injection a1 with b1 b2;subst b1 a3;rw[b2];exact uR (P:=P) (H:=H') (sz:=sz) (o:=pre'.length) h3' (λ_=>he) (len:=(x::xs).length) (cap:=cap) (hi:=none) (mx:=none) (oA 0 .i64 1) rfl rfl (by simp) (by simpa using h1) (aOZ _)
  ·rintro b ⟨o,n,k,hh⟩
   cases hh
   exact⟨_,_,_,rfl⟩
theorem Rq.Zi (hsz: ∀x,(el x).length=sz)(hall: ∀x,dZ (el x)=true)(h0:0<sz){by':Nat}(h:Rq el e sz H v xs)(x:α)(hr:j7 (xs.length+1) by'=true):
  ∃v' H',Go.Abs.app e sz by' v (.slice (some ⟨H.length,0,none⟩) 1 1) (H++[.cells (el x) e .row])=some (v',H')/\Rq el e sz H' v' (xs++[x])/\Fr (cR v) H H'/\ ∀b,cR v' b->cR v b∨(H.length<=b/\b<H'.length):=by
 have hw:Rr el e (H++[.cells (el x) e .row]) (.slice (some ⟨H.length,0,none⟩) 1 1) [x]:=xR (el:=el) x H;have hs:jE sz (.slice (some ⟨H.length,0,none⟩) 1 1) 1 (H++[.cells (el x) e .row])=some (el x):=by
  have:=hw.T9 hsz;simpa using this
 have hl:mP (.slice (some ⟨H.length,0,none⟩) 1 1)=some 1:=rfl;have hne:el x≠[]:=λhh=>by have:=hsz x;rw[hh] at this;simp at this;omega
 have hle:(H++[Blk.cells (el x) e .row]).length=H.length+1:=by simp
 unfold Go.Abs.app;rw[hl];simp only;rw[hs];simp only;rcases h with⟨rfl,rfl⟩|⟨c,pre,rest,cap,rfl,h1,h2,h3⟩
 ·simp only
  rw[if_neg (by decide),if_pos (show j7 1 by'=true from hr)]
  refine⟨_,_,rfl,.inr ⟨_,[],[],1,rfl,by simp,by simp,by rw[dJ];simp⟩,⟨by simp,λb hb _=>by rw[aO1,aOX hb]⟩,?_⟩
  rintro b ⟨o,n,k,hh⟩
  cases hh;exact .inr ⟨by simp,by simp⟩
 ·have hc:=dE h3
  have hg:(H++[Blk.cells (el x) e .row])[c]? =some (.cells (pre++(xs.map el).flatten++rest) e .row):=nF h3 _;have hf:=sP (xs.map el) (uP hsz);rw[aO8] at hf;simp only;rw[hg];simp only;by_cases hroom:xs.length+1<=cap
  ·rw[if_pos hroom,if_neg hne]
   have hrl:sz<=rest.length:=by
    rw[h2]
    calc sz=1*sz:=(Nat.one_mul sz).symm
     _<=(cap-xs.length)*sz:=Nat.mul_le_mul_right sz (by omega)
   rw[if_pos ⟨by decide,by simp only[aO6,hf];omega,hall x⟩]
   have hset:eT (pre++(xs.map el).flatten++rest) (pre.length+xs.length*sz) (el x)=pre++((xs++[x]).map el).flatten++rest.drop sz:=by
    have:=vX (el x) (rest.take sz) (pre++(xs.map el).flatten) (rest.drop sz) (by rw[List.length_take,hsz];omega)
    rw[aO1 _ (rest.take sz),List.take_append_drop,aO6,hf] at this;rw[this];simp
   rw[hset];refine⟨_,_,rfl,.inr ⟨c,pre,rest.drop sz,cap,by simp,by simpa using hroom,?_,iE hg⟩,⟨by simp,λb hb hh=> ?_⟩,?_⟩
   ·rw[List.length_drop,h2,aO6,List.length_singleton,show cap-xs.length=(cap-(xs.length+1))+1 by omega,Nat.succ_mul]
    omega
   ·rw[aOV (λhx=>hh (by subst hx;exact⟨_,_,_,rfl⟩)),aOX hb]
   ·rintro b ⟨o,n,k,hh⟩
    cases hh;exact .inl ⟨_,_,_,rfl⟩
  ·rw[if_neg hroom,if_pos ⟨trivial,trivial,by simp only[aO6,hf];omega,hr,hall x⟩]
   have hcut:((pre++(xs.map el).flatten++rest).drop pre.length).take (xs.length*sz)=(xs.map el).flatten:=by
    rw[aO1,List.drop_left,<-hf,List.take_left]
   rw[hcut];have hlen:((H++[Blk.cells (el x) e .row]).set c .dead).length=H.length+1:=by simp
   refine⟨_,_,rfl,.inr ⟨H.length+1,[],[],xs.length+1,by simp,by simp,by simp,by rw[<-hlen,dJ];simp⟩,⟨by simp;omega,λb hb hh=> ?_⟩,?_⟩
   ·rw[aOX (by rw[hlen];omega),aOV (λhx=>hh (by subst hx;exact⟨_,_,_,rfl⟩)),aOX hb]
   ·rintro b ⟨o,n,k,hh⟩
    cases hh;exact .inr ⟨by simp,by simp⟩
end
end Go.Abs
namespace Go.Proofs.YtkeilicinggjmaaGreatDoor
open Go.Proofs.Tryz
open Go.Abs
theorem Ga (n sz b o:Nat)(k:IntKind)(i:Nat)(h1:i<n):qO n sz (.pointer (some ⟨b,o,none⟩)) (.int k (i:Int))=some (.pointer (some ⟨b,o+i*sz,none⟩)):=by
 simp[qO,adr,h1]
abbrev Pq (H:aC)(v:Value)(xs:List Pkt):Prop:=Rq Pkt.oZ 54 4 H v xs
theorem Ad (x:Pkt):x.oZ.length=4:=rfl
theorem Oe (x:Pkt):dZ x.oZ=true:=rfl
def Cb (w0 w1 w2 cv:Value)(lanes queue:Nat):Blk:= .cells [w0,w1,w2,cv,.int .i64 lanes,.int .i64 queue] 167 .fix
def w3 (w0 w1 w2:Value)(k:Nat):Value:=if k=0 then w0 else if k=1 then w1 else w2
structure HostI (D:aC)(a:Nat)(L G:List Pkt)(lanes queue:Nat)(w0 w1 w2 cv:Value):Prop where
 blk:D[a]? =some (Cb w0 w1 w2 cv lanes queue)
 lanes:1<=lanes/\lanes<=3
 queue:1<=queue/\queue<=8
 q: ∀k,k<3->Pq D (w3 w0 w1 w2 k) (gP L k)
 came:Pq D cv G
 apart: ∀k j,k<3->j<3->k≠j-> ∀b,cR (w3 w0 w1 w2 k) b-> ¬cR (w3 w0 w1 w2 j) b
 apartC: ∀k,k<3-> ∀b,cR (w3 w0 w1 w2 k) b-> ¬cR cv b
def HostAt (D:aC)(a:Nat)(L G:List Pkt)(lanes queue:Nat):Prop:= ∃w0 w1 w2 cv,HostI D a L G lanes queue w0 w1 w2 cv
section
variable {D : aC} {m a lanes queue : Nat} {L G : List Pkt} {w0 w1 w2 cv : Value}
theorem HostAt.ext {D':aC}(h:HostAt D a L G lanes queue)(he:Ext D D'):HostAt D' a L G lanes queue:=by
 obtain⟨w0,w1,w2,cv,h⟩:=h
 exact⟨w0,w1,w2,cv,by rw[he.2 a (dE h.blk) id,h.blk],h.lanes,h.queue,λk hk=>(h.q k hk).ext he,h.came.ext he,h.apart,h.apartC⟩
theorem F9 (h:HostI D a L G lanes queue w0 w1 w2 cv)(hm:0<m)(k:Int):lvl prog pkN m (.func 118) [.pointer (some ⟨a,0,none⟩),.int .i64 k] D=some (.bool (decide (0<=k/\k<lanes)),D):=by
 refine dF (cL rfl) hm ?_;rw[aI2];have l4:ld1 (.pointer (some ⟨a,4,none⟩)) D=some (.int .i64 lanes,D):=cZ h.blk rfl;by_cases h0:0<=k
 ·by_cases h1:k<lanes
  ·simp only[gsR,aPD h0,l4,aPD h1,aPD (show 0<=k/\k<lanes from⟨h0,h1⟩)]
  ·simp only[gsR,aPD h0,l4,aPE h1,aPE (show¬(0<=k/\k<lanes) from λh=>h1 h.2)]
 ·simp only[gsR,aPE h0,aPE (show¬(0<=k/\k<lanes) from λh=>h0 h.1)]
theorem Cc (h:HostI D a L G lanes queue w0 w1 w2 cv){k:Nat}(hk:k<3):ld1 (.pointer (some ⟨a,k,none⟩)) D=some (w3 w0 w1 w2 k,D):=by
 match k,hk with
 |0,_=>exact cZ h.blk rfl
 |1,_=>exact cZ h.blk rfl
 |2,_=>exact cZ h.blk rfl
theorem Zj (h:HostI D a L G lanes queue w0 w1 w2 cv)(hm:1<m)(k:Nat)(hk:k<lanes):lvl prog pkN m (.func 141) [.pointer (some ⟨a,0,none⟩),.int .i64 k] D=some (.int .i64 (gP L k).length,D):=by
 have h3:k<3:=aO9 hk h.lanes.2;refine dF (cL rfl) (by omega) ?_
 rw[aJe];have e1:=F9 h (m:=m-1) (by omega) (k:Int)
 have c:decide (0<=(k:Int)/\(k:Int)<lanes)=true:=by rw[decide_eq_true_eq];omega
 have e2:=Ga 3 1 a 0 .i64 k h3;rw[Nat.mul_one,aPf] at e2;simp only[gsR,e1,c,e2,Cc h h3,(h.q k h3).Od]
theorem aKt (hm:0<m)(lanes queue:Nat)(h1:1<=lanes/\lanes<=3)(h2:1<=queue/\queue<=8): ∃a H',lvl prog pkN m (.func 35) [.int .i64 lanes,.int .i64 queue] D=some (.pointer (some ⟨a,0,none⟩),H')/\HostAt H' a [] [] lanes queue/\Ext D H'/\D.length<=a:=by
 have main:lvl prog pkN m (.func 35) [.int .i64 lanes,.int .i64 queue] D=some (.pointer (some ⟨D.length,0,none⟩),D++[Cb (.slice none 0 0) (.slice none 0 0) (.slice none 0 0) (.slice none 0 0) lanes queue]):=by
  refine dF (cL rfl) hm ?_;rw[aJq];have c1:decide ((lanes:Int)<1)=false:=by rw[decide_eq_false_iff_not];omega
  have c2:decide (3<(lanes:Int))=false:=by rw[decide_eq_false_iff_not];omega
  have c3:decide ((queue:Int)<1)=false:=by rw[decide_eq_false_iff_not];omega
  have c4:decide (8<(queue:Int))=false:=by rw[decide_eq_false_iff_not];omega
  have e3:bld prog 167 [(2,.int .i64 lanes),(3,.int .i64 queue)]=some (.agg #[.slice none 0 0,.slice none 0 0,.slice none 0 0,.slice none 0 0,.int .i64 lanes,.int .i64 queue]):=rfl;simp only[gsR,c1,c2,c3,c4,e3];rfl
 have hn: ∀k b,¬cR (w3 (.slice none 0 0) (.slice none 0 0) (.slice none 0 0) k) b:=λk b hh=>by
  have:w3 (.slice none 0 0) (.slice none 0 0) (.slice none 0 0) k= .slice none 0 0:=by unfold w3;split<;>(try split)<;>rfl
  rw[this] at hh;obtain⟨_,_,_,hh⟩:=hh;cases hh
 refine⟨_,_,main,⟨_,_,_,_,dJ _ _,h1,h2,λk hk=> ?_,Rq.Zh,λk j _ _ _ b hb=>absurd hb (hn k b),λk _ b hb=>absurd hb (hn k b)⟩,Fr.app _ _ _,aOZ _⟩
 have:w3 (.slice none 0 0) (.slice none 0 0) (.slice none 0 0) k= .slice none 0 0:=by unfold w3;split<;>(try split)<;>rfl
 rw[this];exact Rq.Zh
end
def eF (x:Pkt):Blk:= .cells x.oZ 54 .fix
theorem aKx (w0 w1 w2:Value){k:Nat}(hk:k<3)(v:Value): ∃u0 u1 u2,(∀a b c:Value,([w0,w1,w2,a,b,c]:List Value).set k v=[u0,u1,u2,a,b,c])/\ ∀j,j<3->w3 u0 u1 u2 j=if j=k then v else w3 w0 w1 w2 j:=by
 match k,hk with
 |0,_=>exact⟨v,w1,w2,λ_ _ _=>rfl,λj hj=>by match j,hj with|0,_=>rfl|1,_=>rfl|2,_=>rfl⟩
 |1,_=>exact⟨w0,v,w2,λ_ _ _=>rfl,λj hj=>by match j,hj with|0,_=>rfl|1,_=>rfl|2,_=>rfl⟩
 |2,_=>exact⟨w0,w1,v,λ_ _ _=>rfl,λj hj=>by match j,hj with|0,_=>rfl|1,_=>rfl|2,_=>rfl⟩
theorem Zl (L:List Pkt)(x:Pkt)(k:Int):gP (L++[x]) k=if x.lane=k then gP L k++[x] else gP L k:=by
 unfold gP;rw[List.filter_append];by_cases h:x.lane=k<;>simp[h]
section
variable {D : aC} {m a lanes queue : Nat} {L G : List Pkt} {w0 w1 w2 cv : Value}
theorem HostI.Zk {D':aC}(h:HostI D a L G lanes queue w0 w1 w2 cv){k:Nat}(hk:k<3){v:Value}{L':List Pkt}(hf:Fr (cR (w3 w0 w1 w2 k)) D D')(hv:Pq D' v (gP L' k))(hn: ∀b,cR v b->cR (w3 w0 w1 w2 k) b∨(D.length<=b/\b<D'.length))
  (hL: ∀j:Nat,j<3->j≠k->gP L' j=gP L j):HostAt (D'.set a (.cells (([w0,w1,w2,cv,.int .i64 lanes,.int .i64 queue]:List Value).set k v) 167 .fix)) a L' G lanes queue:=by
 obtain⟨u0,u1,u2,e1,e2⟩:=aKx w0 w1 w2 hk v;have hna: ∀w,(∃xs:List Pkt,Pq D w xs)-> ¬cR w a:=λw ⟨xs,hw⟩ hh=>by
  obtain⟨cs,hc⟩:=hw.blk hh;rw[h.blk] at hc;cases hc
 have ha:D'[a]? =D[a]? :=hf.2 a (dE h.blk) (hna _ ⟨_,h.q k hk⟩);have hva: ¬cR v a:=λhh=>by
  obtain⟨cs,hc⟩:=hv.blk hh;rw[ha,h.blk] at hc;cases hc
 have hlt:a<D'.length:=aO9 (dE h.blk) hf.1;rw[e1];have out: ∀w (xs:List Pkt),Pq D w xs->(∀b,cR w b-> ¬cR (w3 w0 w1 w2 k) b)->Pq (D'.set a (.cells [u0,u1,u2,cv,.int .i64 lanes,.int .i64 queue] 167 .fix)) w xs:=λw xs hw hd=>hw.yG λb hb=>by
  rw[aOV (λhx=>by subst hx;exact hna w ⟨xs,hw⟩ hb),hf.2 b (hw.wR hb) (hd b hb)]
 refine⟨u0,u1,u2,cv,aO0 hlt,h.lanes,h.queue,λj hj=> ?_,out cv G h.came λb hb hh=>h.apartC k hk b hh hb,λi j hi hj hij b hb hb'=> ?_,λi hi b hb hb'=> ?_⟩
 ·rw[e2 j hj]
  by_cases hjk:j=k
  ·subst hjk
   rw[if_pos rfl];exact hv.yG λb hb=>aOV (λhx=>hva (by subst hx;exact hb))
  ·rw[if_neg hjk,hL j hj hjk]
   exact out _ _ (h.q j hj) (h.apart j k hj hk hjk)
 ·rw[e2 i hi] at hb
  rw[e2 j hj] at hb';by_cases hik:i=k
  ·rw[if_pos hik] at hb
   rw[if_neg (λhh=>hij (hik.trans hh.symm))] at hb'
   rcases hn b hb with h1|h1
   ·exact h.apart k j hk hj (λhh=>hij (hik.trans hh)) b h1 hb'
   ·have:=(h.q j hj).wR hb'
    omega
  ·rw[if_neg hik] at hb
   by_cases hjk:j=k
   ·rw[if_pos hjk] at hb'
    rcases hn b hb' with h1|h1
    ·exact h.apart i k hi hk hik b hb h1
    ·have:=(h.q i hi).wR hb
     omega
   ·rw[if_neg hjk] at hb'
    exact h.apart i j hi hj hij b hb hb'
 ·rw[e2 i hi] at hb
  by_cases hik:i=k
  ·rw[if_pos hik] at hb
   rcases hn b hb with h1|h1
   ·exact h.apartC k hk b h1 hb'
   ·have:=h.came.wR hb'
    omega
  ·rw[if_neg hik] at hb
   exact h.apartC i hi b hb hb'
theorem pX {H:aC}{b:Nat}{x:Pkt}(hb:H[b]? =some (eF x)):ld1 (.pointer (some ⟨b,2,none⟩)) H=some (.int .i64 x.lane,H)/\ldN 4 (.pointer (some ⟨b,0,none⟩)) H=some (x.dM,H):=⟨cZ hb rfl,B6 hb (aOZ 4)⟩
theorem aKv (h:HostI D a L G lanes queue w0 w1 w2 cv)(hm:2<m)(x:Pkt)(hx: ¬(0<=x.lane/\x.lane<lanes)):lvl prog pkN m (.func 63) [.pointer (some ⟨a,0,none⟩),x.dM] D=some (.int .u16 1,D++[eF x]):=by
 refine dF (cL rfl) (by omega) ?_
 rw[Ns];have e0:(Blk.cells (Value.cells x.dM).toList 54 .fix)=eF x:=rfl;obtain⟨l2,l4⟩:=pX (dJ D (eF x));obtain⟨u0,u1,u2,cu,h'⟩:HostAt (D++[eF x]) a L G lanes queue:=HostAt.ext ⟨w0,w1,w2,cv,h⟩ (Fr.app _ _ _);have e1:=F9 h' (m:=m-1) (by omega) x.lane
 simp only[gsR,e0,l2,e1,aPE hx]
theorem aKu (h:HostI D a L G lanes queue w0 w1 w2 cv)(hm:2<m)(x:Pkt)(hx:0<=x.lane/\x.lane<lanes)(hq:(gP L x.lane).length=queue):lvl prog pkN m (.func 63) [.pointer (some ⟨a,0,none⟩),x.dM] D=some (.int .u16 150,D++[eF x]):=by
 refine dF (cL rfl) (by omega) ?_
 rw[Ns];have e0:(Blk.cells (Value.cells x.dM).toList 54 .fix)=eF x:=rfl;obtain⟨l2,l4⟩:=pX (dJ D (eF x));obtain⟨u0,u1,u2,cu,h'⟩:HostAt (D++[eF x]) a L G lanes queue:=HostAt.ext ⟨w0,w1,w2,cv,h⟩ (Fr.app _ _ _);have e1:=F9 h' (m:=m-1) (by omega) x.lane
 obtain⟨k,hk⟩: ∃k:Nat,x.lane=k:=⟨x.lane.toNat,by omega⟩
 have h3:k<3:=by have:=h.lanes.2;omega
 have e2:=Ga 3 1 a 0 .i64 k h3;rw[Nat.mul_one,aPf,<-hk] at e2;have e3:=(h'.q k h3).Od;rw[<-hk,hq] at e3;have l5:ld1 (.pointer (some ⟨a,5,none⟩)) (D++[eF x])=some (.int .i64 queue,D++[eF x]):=cZ h'.blk rfl;have c:((queue:Int)==(queue:Int))=true:=by simp
 simp only[gsR,e0,l2,e1,aPD hx,e2,Cc h' h3,e3,l5,c]
theorem aKw (h:HostI D a L G lanes queue w0 w1 w2 cv)(hm:2<m)(x:Pkt)(hx:0<=x.lane/\x.lane<lanes)(hq:(gP L x.lane).length≠queue)(hr:j7 ((gP L x.lane).length+1) 32=true): ∃H',lvl prog pkN m (.func 63) [.pointer (some ⟨a,0,none⟩),x.dM] D=some (.int .u16 0,H')/\HostAt H' a (L++[x]) G lanes queue:=by
 refine lK (cL rfl) (by omega) ?_
 rw[Ns];have e0:(Blk.cells (Value.cells x.dM).toList 54 .fix)=eF x:=rfl;obtain⟨l2,l4⟩:=pX (dJ D (eF x));have hb1:=dJ D (eF x);obtain⟨u0,u1,u2,cu,h'⟩:HostAt (D++[eF x]) a L G lanes queue:=HostAt.ext ⟨w0,w1,w2,cv,h⟩ (Fr.app _ _ _);have e1:=F9 h' (m:=m-1) (by omega) x.lane
 obtain⟨k,hk⟩: ∃k:Nat,x.lane=k:=⟨x.lane.toNat,by omega⟩
 have h3:k<3:=by have:=h.lanes.2;omega
 have e2:=Ga 3 1 a 0 .i64 k h3;rw[Nat.mul_one,aPf,<-hk] at e2;have e3:=(h'.q k h3).Od;have l5:ld1 (.pointer (some ⟨a,5,none⟩)) (D++[eF x])=some (.int .i64 queue,D++[eF x]):=cZ h'.blk rfl;have c:(((gP L (k:Int)).length:Int)==(queue:Int))=false:=by rw[<-hk];simp;omega
 obtain⟨D1,hD1⟩: ∃D1,D++[eF x]=D1:=⟨_,rfl⟩;rw[hD1] at l2 l4 h' e1 l5 hb1;have eb:dL 54 4 1 [.int .i64 0,.int .i64 0,.int .i64 0,.int .u32 0] [(0,x.dM)] D1=some (.slice (some ⟨D1.length,0,none⟩) 1 1,D1++[.cells x.oZ 54 .row]):=rfl;obtain⟨v',H',g1,g2,g3,g4⟩:=(h'.q k h3).Zi Ad Oe (by decide) (by':=32) x (by rw[<-hk];exact hr)
 have hnp: ¬cR (w3 u0 u1 u2 k) D.length:=λhh=>by
  obtain⟨cs,hc⟩:=(h'.q k h3).blk hh;rw[hb1] at hc;cases hc
 have hb2:H'[D.length]? =some (eF x):=by rw[g3.2 _ (dE hb1) hnp,hb1]
 have l2':=(pX hb2).1;have hna: ¬cR (w3 u0 u1 u2 k) a:=λhh=>by
  obtain⟨cs,hc⟩:=(h'.q k h3).blk hh;rw[h'.blk] at hc;cases hc
 have ha':H'[a]? =some (Cb u0 u1 u2 cu lanes queue):=by rw[g3.2 _ (dE h'.blk) hna,h'.blk]
 have st:stN 1 (.pointer (some ⟨a,k,none⟩)) v' H'=some (undef,H'.set a (.cells (([u0,u1,u2,cu,.int .i64 lanes,.int .i64 queue]:List Value).set k v') 167 .fix)):=tC ha' (by decide) (by simp;omega) g2.Ac.1 g2.Ac.2
 have ck:chk (some (Value.int .i64 x.lane,H')) (.int .i64 x.lane)=true:=by simp[chk,veq]
 simp only[gsR,e0,hD1,l2,e1,aPD hx,e2,Cc h' h3,e3,l5,c,l4,eb,g1,l2',ck,st];refine⟨_,rfl,h'.Zk h3 g3 ?_ g4 λj hj hjk=> ?_⟩
 ·rw[Zl,if_pos hk]
  exact g2
 ·rw[Zl,if_neg (by omega)]
end
section
variable {D : aC} {m a lanes queue : Nat} {L G : List Pkt} {w0 w1 w2 cv : Value}
theorem aKy (h:HostI D a L G lanes queue w0 w1 w2 cv)(hm:0<m)(x:Pkt)(hr:j7 (G.length+1) 32=true): ∃H',lvl prog pkN m (.func 108) [.pointer (some ⟨a,0,none⟩),x.dM] D=some (aJ [],H')/\HostAt H' a L (G++[x]) lanes queue:=by
 refine lK (cL rfl) (by omega) ?_
 rw[aIZ];have e0:(Blk.cells (Value.cells x.dM).toList 54 .fix)=eF x:=rfl;obtain⟨l2,l4⟩:=pX (dJ D (eF x));obtain⟨u0,u1,u2,cu,h'⟩:HostAt (D++[eF x]) a L G lanes queue:=HostAt.ext ⟨w0,w1,w2,cv,h⟩ (Fr.app _ _ _);obtain⟨D1,hD1⟩: ∃D1,D++[eF x]=D1:=⟨_,rfl⟩;rw[hD1] at l2 l4 h';have l3:ld1 (.pointer (some ⟨a,3,none⟩)) D1=some (cu,D1):=cZ h'.blk rfl;have eb:dL 54 4 1 [.int .i64 0,.int .i64 0,.int .i64 0,.int .u32 0] [(0,x.dM)] D1=some (.slice (some ⟨D1.length,0,none⟩) 1 1,D1++[.cells x.oZ 54 .row]):=rfl;obtain⟨v',H',g1,g2,g3,g4⟩:=h'.came.Zi Ad Oe (by decide) (by':=32) x hr
 have hna: ¬cR cu a:=λhh=>by
  obtain⟨cs,hc⟩:=h'.came.blk hh;rw[h'.blk] at hc;cases hc
 have ha':H'[a]? =some (Cb u0 u1 u2 cu lanes queue):=by rw[g3.2 _ (dE h'.blk) hna,h'.blk]
 have st:stN 1 (.pointer (some ⟨a,3,none⟩)) v' H'=some (undef,H'.set a (Cb u0 u1 u2 v' lanes queue)):=tC ha' (by decide) (by simp) g2.Ac.1 g2.Ac.2
 have hva: ¬cR v' a:=λhh=>by
  obtain⟨cs,hc⟩:=g2.blk hh;rw[ha'] at hc;cases hc
 simp only[gsR,e0,hD1,l3,l4,eb,g1,st];refine⟨_,rfl,u0,u1,u2,v',iE ha',h'.lanes,h'.queue,λj hj=>(h'.q j hj).yG λb hb=> ?_,g2.yG λb hb=>aOV (λhx=>hva (by subst hx;exact hb)),h'.apart,λi hi b hb hb'=> ?_⟩
 ·have hab:a≠b:=λhx=>by
   subst hx;obtain⟨cs,hc⟩:=(h'.q j hj).blk hb;rw[h'.blk] at hc;cases hc
  rw[aOV hab,g3.2 b ((h'.q j hj).wR hb) (h'.apartC j hj b hb)]
 ·rcases g4 b hb' with h1|h1
  ·exact h'.apartC i hi b hb h1
  ·have:=(h'.q i hi).wR hb
   omega
end
end Go.Proofs.YtkeilicinggjmaaGreatDoor
namespace Go.Abs
structure PkN (c:Cfg)(x:Pkt):Prop where
 src:0<=x.src/\x.src<c.nodes
 dst:0<=x.dst/\x.dst<c.nodes
 lane:0<=x.lane/\x.lane<c.lanes
 body:0<=x.body/\x.body<4294967296
structure SndI (t:Nat)(x:Snd):Prop where
 le:x.s<=x.l
 wide:x.l<=x.s+8
 big:x.s<=65536+t
structure RcvI (room t:Nat)(x:Rcv):Prop where
 h:x.h<=room
 big:x.n<=65536+9*t
structure WhlI (lanes:Nat)(x:Whl):Prop where
 len:x.l.length=lanes
 wt: ∀y∈x.l,0<=y/\y<=5
 fr:x.fr<lanes
structure NInv (c:Cfg)(t:Nat)(s:NS):Prop where
 snd: ∀i k,SndI t (s.snd i k)
 rcv: ∀i k,RcvI c.room t (s.rcv i k)
 hG:s.hG.length<=t
 ticks:s.ticks<=t
 hL: ∀x∈s.hL,PkN c x
 hQ: ∀k:Int,(gP s.hL k).length<=c.queue
 rL: ∀e∈s.rL,PkN c e.2
 rN:s.rL.length<=c.aH*c.lanes*c.room
 gl:s.g.length=c.aH
 al:s.a.length=c.aH
 g: ∀x∈s.g,x<c.aH
 a: ∀x∈s.a,x<c.aH
 whl: ∀i,WhlI c.lanes (s.whl i)
theorem SndI.Oh {t t':Nat}{x:Snd}(h:SndI t x)(ht:t<=t'):SndI t' x:=⟨h.le,h.wide,aPa h.big (by omega)⟩
theorem RcvI.Og {room t t':Nat}{x:Rcv}(h:RcvI room t x)(ht:t<=t'):RcvI room t' x:=⟨h.h,aPa h.big (by omega)⟩
theorem NInv.rZ {c:Cfg}{t t':Nat}{s:NS}(h:NInv c t s)(ht:t<=t'):NInv c t' s:=
 {h with snd:=λi k=>(h.snd i k).Oh ht,rcv:=λi k=>(h.rcv i k).Og ht,hG:=aPa h.hG ht,ticks:=aPa h.ticks ht}
theorem SndI.aKH {t:Nat}{x:Snd}(h:SndI t x)(limit:Nat):SndI t (x.rB limit):=by
 unfold Snd.rB;simp only;split
 ·exact h
 ·have:=h.le
  have:=h.big
  exact⟨by simp only;omega,by simp only;omega,h.big⟩
theorem SndI.aKI {t:Nat}{x:Snd}(h:SndI t x):SndI (t+1) x.mW.2:=by
 unfold Snd.mW;split
 ·exact h.Oh (by omega)
 ·have:=h.le
  have:=h.wide;have:=h.big
  exact⟨by simp only;omega,by simp only;omega,by simp only;omega⟩
theorem RcvI.aKG {room t:Nat}{x:Rcv}(h:RcvI room t x)(hr:room<=8)(s:Nat):RcvI room (t+1) (x.pS room s):=by
 have h1:=h.h;have h2:=h.big;unfold Rcv.pS;simp only;split
 ·exact h.Og (by omega)
 ·rename_i hc
  unfold Rcv.mC at hc
  exact⟨h.h,by simp only;omega⟩
theorem aKL (room:Nat)(x:Rcv)(s:Nat):(x.k9 room s).2=x∨ ∃w,x.n<=w/\w<x.mC room/\(x.k9 room s).2=⟨w+1,x.h+1⟩:=by
 unfold Rcv.k9
 generalize eA x.n s=w
 by_cases c1:w<x.n
 ·left
  simp only[if_pos c1]
 ·by_cases c2:x.mC room<=w
  ·left
   simp only[if_neg c1,if_pos c2]
  ·right
   refine⟨w,Nat.le_of_not_lt c1,Nat.lt_of_not_le c2,?_⟩;simp only[if_neg c1,if_neg c2]
theorem aKK {n h room t w:Nat}(h1:h<=room)(h2:n<=65536+9*t)(hr:room<=8)(h3:n<=w)(h4:w<n+(room-h)):h+1<=room/\w+1<=65536+9*(t+1):=by
 generalize 65536=z at*
 omega
theorem RcvI.Zo {room t:Nat}{x:Rcv}(h:RcvI room t x)(hr:room<=8)(s:Nat):RcvI room (t+1) (x.k9 room s).2:=by
 rcases aKL room x s with h0|⟨w,h3,h4,h0⟩
 ·rw[h0]
  exact h.Og (Nat.le_succ t)
 ·rw[h0]
  obtain⟨e1,e2⟩:=aKK h.h h.big hr h3 h4
  exact⟨e1,e2⟩
theorem RcvI.aKF {room t:Nat}{x:Rcv}(h:RcvI room t x):RcvI room t x.u5:=⟨by have:=h.h;unfold Rcv.u5;simp only;omega,h.big⟩
theorem Ae {α:Type}{P:α->Prop}{f:Nat->Nat->α}{i k:Nat}{x:α}(h: ∀i k,P (f i k))(hx:P x)(j l:Nat):P (up2 f i k x j l):=by
 unfold up2;split
 ·exact hx
 ·exact h j l
theorem aKP {α:Type}{P:α->Prop}{f:Nat->α}{i:Nat}{x:α}(h: ∀i,P (f i))(hx:P x)(j:Nat):P (up1 f i x j):=by
 unfold up1;split
 ·exact hx
 ·exact h j
theorem aKS (L:List Pkt)(x:Pkt)(k:Int):gP (L++[x]) k=if x.lane=k then gP L k++[x] else gP L k:=by
 unfold gP;rw[List.filter_append];by_cases h:x.lane=k<;>simp[h]
theorem Zp {L:List Pkt}{k:Int}{x:Pkt}(h:x∈pT L k):x∈L:=List.mem_of_mem_eraseP h
theorem Gb (L:List Pkt)(k j:Int):gP (pT L k) j=if j=k then(gP L k).tail else gP L j:=by
 induction L with
 |nil=>simp[gP,pT]
 |cons x L ih=>
  unfold gP pT at*;by_cases hx:x.lane=k
  ·subst hx
   rw[List.eraseP_cons_of_pos (by simp)]
   by_cases hj:j=x.lane
   ·rw[if_pos hj,hj]
    simp
   ·rw[if_neg hj,List.filter_cons_of_neg (by simp;omega)]
  ·rw[List.eraseP_cons_of_neg (by simp[hx])]
   by_cases hj:j=k
   ·subst hj
    rw[if_pos rfl,List.filter_cons_of_neg (by simp[hx]),List.filter_cons_of_neg (by simp[hx]),ih,if_pos rfl]
   ·rw[if_neg hj] at ih⊢
    rw[List.filter_cons,List.filter_cons,ih]
theorem aKN {L:List (iA×Pkt)}{w:iA}{e:iA×Pkt}(h:e∈oM L w):e∈L:=List.mem_of_mem_eraseP h
theorem aKM (L:List (iA×Pkt))(w:iA):(oM L w).length<=L.length:=(List.eraseP_sublist).length_le
theorem Zr {c:Cfg}{L:List (iA×Pkt)}{w:iA}{x:Pkt}{e:iA×Pkt}(h:e∈pU c L w x):e∈L∨e.2=x:=by
 unfold pU at h
 split at h
 ·rcases List.mem_append.mp h with h|h
  ·exact .inl h
  ·simp at h
   exact .inr (by rw[h])
 ·exact .inl h
theorem Zq {c:Cfg}{L:List (iA×Pkt)}{w:iA}{x:Pkt}(h:L.length<=c.aH*c.lanes*c.room):(pU c L w x).length<=c.aH*c.lanes*c.room:=by
 unfold pU;split
 ·rename_i hc
  simp;omega
 ·exact h
theorem aKO {L:List (iA×Pkt)}{w:iA}{x:Pkt}(h:x∈lU L w): ∃e∈L,e.2=x/\e.1=w:=by
 unfold lU at h;obtain⟨e,h1,h2⟩:=aPx.mp h;obtain⟨h3,h4⟩:=List.mem_filter.mp h1
 exact⟨e,h3,h2,by simpa using h4⟩
section
variable {c : Cfg} {t : Nat} {s : NS}
theorem NInv.aKD (hc:c.ok):NInv c 0 (NS.jB c) where
 snd:=λi k=>⟨by simp[NS.jB],by have:=hc.room;simp[NS.jB];omega,by have:=hc.start;simp[NS.jB];omega⟩
 rcv:=λi k=>⟨by simp[NS.jB],by have:=hc.start;simp[NS.jB];omega⟩
 hG:=aOZ _
 ticks:=aOZ _
 hL:=λx hx=>by simp[NS.jB] at hx
 hQ:=λk=>by simp[NS.jB,gP]
 rL:=λx hx=>by simp[NS.jB] at hx
 rN:=by simp[NS.jB]
 gl:=by simp[NS.jB]
 al:=by simp[NS.jB]
 g:=λx hx=>by
  simp[NS.jB] at hx;unfold Cfg.aH;omega
 a:=λx hx=>by
  simp[NS.jB] at hx;unfold Cfg.aH;omega
 whl:=λi=>⟨hc.wlen,λy hy=>by have:=hc.wts y hy;omega,by have:=hc.lanes;simp[NS.jB];omega⟩
theorem NInv.aKE (h:NInv c t s){x:Pkt}(hx:0<=x.lane/\x.lane<c.lanes->PkN c x):NInv c t (rE c x s).2:=by
 unfold Go.Abs.rE;split
 ·exact h
 ·rename_i hl
  split
  ·exact h
  ·rename_i hq
   have hl':0<=x.lane/\x.lane<c.lanes:=by omega
   refine {h with hL:=λy hy=> ?_,hQ:=λk=> ?_}
   ·rcases List.mem_append.mp hy with hy|hy
    ·exact h.hL y hy
    ·simp at hy
     rw[hy];exact hx hl'
   ·rw[aKS]
    split
    ·rename_i he
     subst he;have:=h.hQ x.lane;simp;omega
    ·exact h.hQ k
theorem NInv.aKC (hc:c.ok)(h:NInv c t s){x:Pkt}(hb:0<=x.body/\x.body<4294967296):NInv c t (o6 c x s).2:=by
 unfold Go.Abs.o6;split
 ·exact h
 ·rename_i hn
  refine h.aKE λhl=>⟨?_,?_,hl,hb⟩
  ·have:=hc.me
   omega
  ·omega
theorem NInv.aKA (hc:c.ok)(h:NInv c t s)(i:Nat)(f:Frm)(hl:f.lane<c.lanes)(hb:f.body<4294967296):NInv c (t+1) (rC c i f s).2:=by
 unfold rC;split
 ·exact h.rZ (by omega)
 ·rename_i hm
  have hm2:=h.rZ (t':=t+1) (by omega)
  have hr:=(h.rcv i f.lane).Zo hc.room.2 f.seq;split
  ·rename_i r he
   rw[he] at hr;refine {hm2 with rcv:=Ae hm2.rcv hr,rL:=λe he=> ?_,rN:=Zq h.rN}
   rcases Zr he with he|he
   ·exact h.rL e he
   ·rw[he]
    exact⟨⟨by simp only;omega,by simp only;omega⟩,⟨by simp only;omega,by simp only;omega⟩,⟨by simp only;omega,by simp only;omega⟩,⟨by simp only;omega,by simp only;omega⟩⟩
  ·exact hm2
theorem NInv.aKB (hc:c.ok)(h:NInv c t s)(k:Nat):NInv c t (lA c s k):=by
 unfold Go.Abs.lA;split
 ·exact h
 ·split
  ·exact h
  ·rename_i x xs hx
   have hxm:x∈s.hL:=by
    have:x∈gP s.hL k:=by rw[hx];exact aO3 ..
    exact(List.mem_filter.mp this).1
   refine {h with hL:=λy hy=>h.hL y (Zp hy),hQ:=λj=> ?_,rL:=λe he=> ?_,rN:=Zq h.rN}
   ·rw[Gb]
    split
    ·have:=h.hQ k
     simp;omega
    ·exact h.hQ j
   ·rcases Zr he with he|he
    ·exact h.rL e he
    ·rw[he]
     exact h.hL x hxm
theorem aKR (hc:c.ok){w:Whl}(hw:WhlI c.lanes w)(may:Nat->Bool):WhlI c.lanes (kN c.weights w may).2:=by
 unfold kN;split
 ·rename_i ha
  split
  ·rename_i i hi
   have hfull:(mB c.weights w may).length=c.lanes/\ ∀y∈mB c.weights w may,0<=y/\y<=5:=by
    unfold mB;split
    ·exact⟨hw.len,hw.wt⟩
    ·exact⟨hc.wlen,λy hy=>by have:=hc.wts y hy;omega⟩
   have hp:=wB hi;unfold nD at hp;rw[aO2,decide_eq_true_eq] at hp;refine⟨by simp[hfull.1],λy hy=> ?_,?_⟩
   ·rcases List.mem_or_eq_of_mem_set hy with hy|hy
    ·exact hfull.2 y hy
    ·have hi2:i<(mB c.weights w may).length:=by rw[hfull.1,<-hc.wlen];exact hp.1
     have:=hfull.2 _ (List.getElem_mem hi2);have e:(mB c.weights w may).getD i 0=(mB c.weights w may)[i]:=by rw[aOY,aOW hi2,aPn]
     rw[e] at hp hy;omega
   ·simp only
    rw[hc.wlen];exact Nat.mod_lt _ (by have:=hc.lanes;omega)
  ·exact hw
 ·exact hw
theorem aKQ {c:Cfg}{w:Whl}{may:Nat->Bool}{k:Nat}{w':Whl}(h:kN c.weights w may=(some k,w')):k<c.weights.length/\may k=true:=by
 unfold kN at h
 split at h
 ·split at h
  ·rename_i i hi
   cases h;have:=wB hi;unfold nD at this;rw[aO2] at this
   exact⟨this.1,this.2.1⟩
  ·cases h
 ·cases h
theorem aKJ {gr:Nat->Option Nat}{n:Nat}{first:Bool}{s:Mat}(i:Nat)(hn:0<n)(hm: ∀x∈s.m,x= -1∨0<=x/\x<(n:Int))(hg: ∀x∈s.g,x<n)(ha: ∀x∈s.a,x<n):
  (∀x∈(acc gr n first s i).m,x= -1∨0<=x/\x<(n:Int))/\(∀x∈(acc gr n first s i).g,x<n)/\(∀x∈(acc gr n first s i).a,x<n):=by
 unfold acc;split
 ·split
  ·exact⟨hm,hg,ha⟩
  ·rename_i k hk
   have:=(wB hk).1;refine⟨λx hx=> ?_,λx hx=> ?_,λx hx=> ?_⟩
   ·rcases List.mem_or_eq_of_mem_set hx with hx|hx
    ·exact hm x hx
    ·right
     omega
   ·dsimp only at hx
    split at hx
    ·rcases List.mem_or_eq_of_mem_set hx with hx|hx
     ·exact hg x hx
     ·rw[hx]
      exact Nat.mod_lt _ hn
    ·exact hg x hx
   ·dsimp only at hx
    split at hx
    ·rcases List.mem_or_eq_of_mem_set hx with hx|hx
     ·exact ha x hx
     ·rw[hx]
      exact Nat.mod_lt _ hn
    ·exact ha x hx
 ·exact⟨hm,hg,ha⟩
structure MatI (n:Nat)(s:Mat):Prop where
 ml:s.m.length=n
 gl:s.g.length=n
 al:s.a.length=n
 m: ∀x∈s.m,x= -1∨0<=x/\x<(n:Int)
 g: ∀x∈s.g,x<n
 a: ∀x∈s.a,x<n
theorem MatI.acc {gr:Nat->Option Nat}{n:Nat}{first:Bool}{s:Mat}(h:MatI n s)(hn:0<n)(i:Nat):MatI n (acc gr n first s i):=by
 obtain⟨h1,h2,h3⟩:=aEZ gr n first s i
 obtain⟨h4,h5,h6⟩:=aKJ (gr:=gr) (first:=first) i hn h.m h.g h.a
 exact⟨h1.trans h.ml,h2.trans h.gl,h3.trans h.al,h4,h5,h6⟩
theorem MatI.Of {gr:Nat->Option Nat}{n:Nat}{first:Bool}(hn:0<n): ∀(l:List Nat){s:Mat},MatI n s->MatI n (l.foldl (Go.Abs.acc gr n first) s)
 |[],_,h=>h
 |i::l,_,h=>by
  rw[List.foldl_cons];exact MatI.Of hn l (h.acc hn i)
theorem MatI.rnd {req:Nat->Nat->Bool}{n:Nat}{first:Bool}{s:Mat}(h:MatI n s)(hn:0<n):MatI n (rnd req n first s):=MatI.Of hn _ h
theorem MatI.Zm {req:Nat->Nat->Bool}{n:Nat}(hn:0<n): ∀(k:Nat){s:Mat},MatI n s->MatI n (uT req n k s)
 |0,_,h=>h
 |k+1,_,h=>MatI.Zm hn k (h.rnd hn)
theorem MatI.Zn {n:Nat}{g a:List Nat}(hg:g.length=n)(ha:a.length=n)(h1: ∀x∈g,x<n)(h2: ∀x∈a,x<n):MatI n ⟨List.replicate n (-1),g,a⟩:=
 ⟨by simp,hg,ha,λx hx=>by simp at hx;exact .inl hx.2,h1,h2⟩
theorem MatI.aKz {req:Nat->Nat->Bool}{n rounds:Nat}{g a:List Nat}(hn:0<n)(hg:g.length=n)(ha:a.length=n)(h1: ∀x∈g,x<n)(h2: ∀x∈a,x<n):MatI n (oI req n rounds g a):=
 MatI.Zm hn _ ((MatI.Zn hg ha h1 h2).rnd hn)
end
end Go.Abs
