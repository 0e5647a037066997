/-
  PARTS OF THIS CLAIM'S PROOF, laid together by a program of mine.
-/
import Derived.Test.YtmimdleeihjdoaaGreatDoorAbsM4
import Derived.Test.YtmimdleeihjdoaaGreatDoorAbsM3
import Derived.Test.YtmimdleeihjdoaaGreatDoorAbsM2
import Derived.Test.YtmimdleeihjdoaaGreatDoorAbsM1
import Derived.Calls
import Derived.LoopN
import Derived.Orders
import Derived.Laws.Sem
import Derived.Laws.Tables
import Derived.Laws.Cells
import Derived.Laws.StructEq
import Derived.Laws.Append
import Derived.Laws.MakeOwn
import Derived.Laws.Slices
import Derived.Lib.UnsafeStr
import Derived.Laws.BytesString
import Derived.Laws.BytesArg
import Derived.Laws.Pointers
import Derived.Lib.SliceRun
import Derived.Laws.Cover3
import Derived.MapKept
import Derived.WideKeyRuns
import Derived.Scope
import Derived.Test.YtmimdleeihjdoaaGreatDoorProg
import Derived.KernelRfl
import Derived.ProofKit
import Derived.RowKit
import Derived.RowKit3
import Derived.ChangeSame
import Derived.Sort.Grow
import Derived.Ground.NamesProg
import Derived.Shelf.Sort.Plain
import Derived.Shelf.Slices.In.SortNone
import Derived.OpenShut
import Derived.Deep.Slices
import Derived.SizedLaws
set_option linter.unusedVariables false
set_option linter.unusedSimpArgs false
set_option maxRecDepth 100000
namespace Go.Proofs.YtmimdleeihjdoaaGreatDoor
open Go.Proofs.Tryz
open Go.Abs
def ofL (c:List Nat)(n:Nat):List Int:=(List.range n).map λj=>((c.getD j 0%(j+1):Nat):Int)
def ofT (c:List Nat):List Int:=if min c.length 5=0 then [0] else ofL c (min c.length 5)
def iL (t:List Int):Bool:=(List.range t.length).all (λi=>decide (0<=t.getD i 0)&&decide (t.getD i 0<=i))&&decide ((t.length:Int)<=5)
def upL (t:List Int):Nat->Int->List Int
 |0,v=>[v]
 |q+1,v=>if 0<v then v::upL t q (t.getD (v-1).toNat 0) else [v]
def upT (t:List Int)(v:Int):List Int:=upL t v.toNat v
def Ab:Nat->List Int->List Int->List Int×List Int
 |0,a,b=>(a,b)
 |q+1,a,b=>if 1<a.length/\1<b.length/\a.getD (a.length-2) 0=b.getD (b.length-2) 0 then Ab q (a.take (a.length-1)) (b.take (b.length-1)) else(a,b)
def Dj (s:List Int×List Int):List Int:=s.1++(s.2.take (s.2.length-1)).reverse
def oD (t:List Int)(v w:Int):List Int:=if iL t=true/\0<=v/\v<=t.length/\0<=w/\w<=t.length then Dj (Ab (upT t v).length (upT t v) (upT t w)) else []
def xS (t:List Int):List Ed:=(List.range t.length).map λi=>(t.getD i 0,((i+1:Nat):Int))
def mQ (t:List Int):List (List Int):=tab (t.length+1) λv w=>if v=w then(v:Int) else(oD t v w).getD 1 0
def qG (p:PlanD)(t:List Int):PlanD:={p with nodes:=((t.length+1:Nat):Int),edges:=xS t,next:=mQ t}
theorem Uq {t:List Int}(h:iL t=true){i:Nat}{x:Int}(hx:t[i]? =some x):0<=x/\x<=i/\t.length<=5:=by
 unfold iL at h;rw[aMH,aNe] at h;have:=h.1 i (aNd.mpr (aMz.mp hx).1);rw[aMD,hx] at this;simp at this;have h2:=of_decide_eq_true h.2;omega
theorem Kr (t:List Int): ∀(q:Nat)(v:Int),0<(upL t q v).length/\(upL t q v).length<=q+1
 |0,v=>by simp[upL]
 |q+1,v=>by
  unfold upL;split
  ·have:=Kr t q (t.getD (v-1).toNat 0)
   simp only[aMV];omega
  ·simp
section
variable {H : aA} {m : Nat} {p : PlanD} {ev wv nv : Value}
theorem uI {l:List Int}{i:Nat}{x:Int}(h:l[i]? =some x):l.getD i 0=x:=by rw[aMD,h];rfl
theorem aGJ {H0:aA}{cv:Value}{c:List Nat}(hc:Us H0 cv c)(hu8: ∀x∈c,x<256)(hl:c.length<=72057594037927936): ∀(q i k:Nat)(H1:aA)(acc:Value),min c.length 5-i=q->i<=min c.length 5->q<k->Ext H0 H1->Iw H1 acc (ofL c i)->New H0 acc-> ∀(x1 x2 x5 x6 x7 x8 x9 bI cA aP aN aL aM aR aS aO bC bH bV bG bE aT aU aV aW aX aY aZ bA bB:Value),
  ∃H' u,aH k (aI prog (lvl prog bY m) (aH m) J9) (Kb (lvl prog bY m) (aH m)) [cv,x1,x2,acc,(.int .i64 (i:Nat)),x5,x6,x7,x8,x9,bI,cA,aP,aN,aL,aM,aR,aS,aO,bC,bH,bV,bG,bE,aT,aU,aV,aW,aX,aY,aZ,bA,bB] H1=some (u,H')/\Ext H0 H'/\Iw H' u (ofT c)/\New H0 u:=by
 intro q;induction q with
 |zero=>
  intro i k H1 acc hq hi hk he ha hnew;intros;obtain⟨k,rfl⟩: ∃n,k=n+1:=⟨k-1,by omega⟩
  have hlen:=(hc.ext he).jQ;have hal:=ha.xJ;have hal2:(ofL c i).length=i:=by simp[ofL]
  rw[hal2] at hal;have tail: ∀(x1 x2 x5 x6 x7 x8 x9 bI cA aP aN aL aM aR aS aO bC bH bV bG bE aT aU aV aW aX aY aZ bA bB:Value),∃H' u,Ka (lvl prog bY m) (aH m) cv x1 x2 acc (.int .i64 (i:Nat)) x5 x6 x7 x8 x9 bI cA aP aN aL aM aR aS aO bC bH bV bG bE aT aU aV aW aX aY aZ bA bB H1=some (u,H')/\Ext H0 H'/\Iw H' u (ofT c)/\New H0 u:=by
   intros;unfold Ka;by_cases h0:i=0
   ·have e0:((i:Int)==0)=true:=by simp[h0]
    subst h0;have ha':Iw H1 acc []:=ha;obtain⟨acc2,H2,t1,t2,t3,t4⟩:=ha'.q8 (by':=8) gQ oO (by decide) 0 hnew he (by decide)
    simp -implicitDefEqProofs only[gsR,hal,e0,oB,t1];have:ofT c=[0]:=by unfold ofT;rw[if_pos (by omega)]
    rw[this]
    exact⟨_,_,rfl,t4,t2,t3⟩
   ·have e0:((i:Int)==0)=false:=by simp;omega
    simp -implicitDefEqProofs only[gsR,hal,e0];have:ofT c=ofL c i:=by unfold ofT;rw[if_neg (by omega)];congr 1;omega
    rw[this]
    exact⟨_,_,rfl,he,ha,hnew⟩
  rw[dS,Tt];by_cases hcl:i<c.length
  ·have e1:decide ((i:Int)<(c.length:Int))=true:=decide_eq_true (by omega)
   have e2:decide ((i:Int)<5)=false:=decide_eq_false (by omega)
   simp -implicitDefEqProofs only[gsR,hlen,e1,e2];rw[Tu];exact tail ..
  ·have e1:decide ((i:Int)<(c.length:Int))=false:=decide_eq_false (by omega)
   simp -implicitDefEqProofs only[gsR,hlen,e1];rw[Tu];exact tail ..
 |succ q ih=>
  intro i k H1 acc hq hi hk he ha hnew;intros;obtain⟨k,rfl⟩: ∃n,k=n+1:=⟨k-1,by omega⟩
  have hlen:=(hc.ext he).jQ;have e1:decide ((i:Int)<(c.length:Int))=true:=decide_eq_true (by omega)
  have e2:decide ((i:Int)<5)=true:=decide_eq_true (by omega)
  have e3:IntKind.i64.wrap ((i:Int)+1)=((i+1:Nat):Int):=by rw[dJ (by omega) (by omega)];omega
  obtain⟨x,hx⟩: ∃x,c[i]? =some x:=⟨_,aMB (by omega)⟩
  have hx8:=hu8 x (aMJ hx);obtain⟨b,o,g1,_,g3⟩:=(hc.ext he).iQ Jj hx .i64;have g4:ld1 (.pointer (some ⟨b,o,none⟩)) H1=some (.int .u8 x,H1):=(g3 H1 rfl).2.1 0 _ rfl;have c1:=λH=>cvU H x hx8
  have c2:=uF x (i+1) (i+1:Nat) rfl (by omega)
  have hal2:(ofL c i).length=i:=by simp[ofL]
  obtain⟨acc2,H2,t1,t2,t3,t4⟩:=ha.q8 (by':=8) gQ oO (by decide) ((x%(i+1):Nat):Int) hnew he (jI (n:=1000) (by decide) (by omega))
  have hn:ofL c (i+1)=ofL c i++[((x%(i+1):Nat):Int)]:=by
   unfold ofL;rw[aM8,List.map_append];simp only[aM4,List.map_nil];rw[aMD,hx];rfl
  rw[dS,Tt];simp -implicitDefEqProofs only[gsR,hlen,e1,e2,g1,g4,c1,cH,e3,c2,oB,t1];exact ih (i+1) k H2 acc2 (by omega) (by omega) (by omega) t4 (by rw[hn];exact t2) t3 ..
theorem aGI {cv:Value}{c:List Nat}(hc:Us H cv c)(hu8: ∀x∈c,x<256)(hl:c.length<=72057594037927936)(hm:100<m): ∃H' u,lvl prog bY m (.func 84) [cv] H=some (u,H')/\Ext H H'/\Iw H' u (ofT c)/\New H u:=by
 refine iK (fR rfl rfl) (by omega) ?_
 rw[aFU];exact aGJ hc hu8 hl (min c.length 5) 0 (m-1) H (.slice none 0 0) (by omega) (by omega) (by omega) (Fr.mZ _ _) Rw.lD (New.nB _) ..
theorem aGK {tv:Value}{t:List Int}(ht:Is H tv t)(hl:t.length<=72057594037927936): ∀(q i k:Nat),t.length-i=q->i<=t.length->q<k->(∀j,j<i->(decide (0<=t.getD j 0)&&decide (t.getD j 0<=j))=true)-> ∀(x1 x2 x4 x5 x6 x7 x8 x9 bI cA aP aN aL aM aR aS aO bC bH bV bG bE aT aU:Value),
  aH k (aI prog (lvl prog bY m) (aH m) Jp) (C2 (lvl prog bY m) (aH m)) [tv,x1,x2,(.int .i64 (i:Nat)),x4,x5,x6,x7,x8,x9,bI,cA,aP,aN,aL,aM,aR,aS,aO,bC,bH,bV,bG,bE,aT,aU] H=some (.bool (iL t),H):=by
 intro q;have hlen:=ht.jQ;induction q with
 |zero=>
  intro i k hq hi hk hpre;intros;obtain⟨k,rfl⟩: ∃n,k=n+1:=⟨k-1,by omega⟩
  have e:decide ((i:Int)<(t.length:Int))=false:=decide_eq_false (by omega)
  have hr:iL t=decide ((t.length:Int)<=5):=by
   unfold iL;rw[aNe.mpr (λj hj=>hpre j (by have:=aNd.mp hj;omega)),aMW]
  rw[hr,dS,Tg];simp -implicitDefEqProofs only[gsR,hlen,e];rw[aFA];simp -implicitDefEqProofs only[gsR,hlen]
 |succ q ih=>
  intro i k hq hi hk hpre;intros;obtain⟨k,rfl⟩: ∃n,k=n+1:=⟨k-1,by omega⟩
  have e:decide ((i:Int)<(t.length:Int))=true:=decide_eq_true (by omega)
  have e3:IntKind.i64.wrap ((i:Int)+1)=((i+1:Nat):Int):=by rw[dJ (by omega) (by omega)];omega
  obtain⟨x,hx⟩: ∃x,t[i]? =some x:=⟨_,aMB (by omega)⟩
  obtain⟨b,o,g1,_,g3⟩:=ht.iQ gQ hx .i64;have g4:ld1 (.pointer (some ⟨b,o,none⟩)) H=some (.int .i64 x,H):=(g3 H rfl).2.1 0 _ rfl;have hd:=uI hx;have bad:(decide (0<=x)&&decide (x<=i))=false->iL t=false:=λh=>by
   rw[<-Bool.not_eq_true];unfold iL;rw[aMH,aNe];rintro ⟨hh,_⟩
   have:=hh i (aNd.mpr (by omega))
   rw[hd,h] at this;cases this
  rw[dS,Tg];by_cases c1:x<0
  ·have d1:decide (x<0)=true:=decide_eq_true c1
   rw[bad (by rw[decide_eq_false (by omega)];rfl)]
   simp -implicitDefEqProofs only[gsR,hlen,e,g1,g4,d1];rw[Th];rfl
  ·have d1:decide (x<0)=false:=decide_eq_false c1
   by_cases c2:(i:Int)<x
   ·have d2:decide ((i:Int)<x)=true:=decide_eq_true c2
    rw[bad (by rw[decide_eq_false (show¬x<=i by omega),Bool.and_false])]
    simp -implicitDefEqProofs only[gsR,hlen,e,g1,g4,d1,d2];rw[Th];rfl
   ·have d2:decide ((i:Int)<x)=false:=decide_eq_false c2
    simp -implicitDefEqProofs only[gsR,hlen,e,g1,g4,d1,d2,cH,e3];refine ih (i+1) k (by omega) (by omega) (by omega) (λj hj=> ?_) ..
    by_cases hji:j=i
    ·rw[hji,hd,decide_eq_true (by omega),decide_eq_true (by omega)];rfl
    ·exact hpre j (by omega)
theorem Ur {tv:Value}{t:List Int}(ht:Is H tv t)(hm:t.length+10<m)(hm2:m<=72057594037927936):lvl prog bY m (.func 160) [tv] H=some (.bool (iL t),H):=by
 refine cX (fR rfl rfl) (by omega) ?_
 rw[aFB];exact aGK ht (by omega) t.length 0 (m-1) (by omega) (by omega) (by omega) (λj hj=>absurd hj (by omega)) ..
theorem aGO {H0:aA}{tv:Value}{t:List Int}(ht:Is H0 tv t)(hr:iL t=true): ∀(q k:Nat)(v:Int)(H1:aA)(acc:Value)(pre:List Int),v.toNat<=q->0<=v/\v<=t.length->q<k->pre.length+q<=20->Ext H0 H1->Iw H1 acc (pre++[v])->New H0 acc-> ∀(x2 x3 x4 x6 x7 x8 x9 bI cA aP aN aL aM aR aS aO bC:Value),
  ∃H' u,aH k (aI prog (lvl prog bY m) (aH m) J0) (J1 (lvl prog bY m) (aH m)) [tv,(.int .i64 v),x2,x3,x4,acc,x6,x7,x8,x9,bI,cA,aP,aN,aL,aM,aR,aS,aO,bC] H1=some (u,H')/\Ext H0 H'/\Iw H' u (pre++upL t q v)/\New H0 u:=by
 intro q;induction q with
 |zero=>
  intro k v H1 acc pre hv hvr hk hpl he ha hnew;intros;obtain⟨k,rfl⟩: ∃n,k=n+1:=⟨k-1,by omega⟩
  have e:decide (0<v)=false:=decide_eq_false (by omega)
  rw[dS,Tn];simp -implicitDefEqProofs only[gsR,e];rw[To]
  exact⟨H1,acc,rfl,he,ha,hnew⟩
 |succ q ih=>
  intro k v H1 acc pre hv hvr hk hpl he ha hnew;intros;obtain⟨k,rfl⟩: ∃n,k=n+1:=⟨k-1,by omega⟩
  rw[dS,Tn];unfold upL;by_cases h0:0<v
  ·have e:decide (0<v)=true:=decide_eq_true h0
   rw[if_pos h0];have hev:v-1=(((v-1).toNat:Nat):Int):=by omega
   obtain⟨x,hx⟩: ∃x,t[(v-1).toNat]? =some x:=⟨_,aMB (by omega)⟩
   have hxr:=Uq hr hx;obtain⟨b,o,g1,_,g3⟩:=(ht.ext he).iQ gQ hx .i64;rw[<-hev] at g1;have g4:ld1 (.pointer (some ⟨b,o,none⟩)) H1=some (.int .i64 x,H1):=(g3 H1 rfl).2.1 0 _ rfl;have e4:IntKind.i64.wrap (v-1)=v-1:=dJ (by omega) (by omega)
   obtain⟨acc2,H2,t1,t2,t3,t4⟩:=ha.q8 (by':=8) gQ oO (by decide) x hnew he (jI (n:=1000) (by decide) (by simp;omega))
   simp -implicitDefEqProofs only[gsR,e,gJ,e4,g1,g4,oB,t1];have:=ih k x H2 acc2 (pre++[v]) (by omega) (by omega) (by omega) (by simp;omega) t4 t2 t3
   rw[uI hx];simp only[aMG,List.singleton_append] at this;exact this ..
  ·have e:decide (0<v)=false:=decide_eq_false h0
   rw[if_neg h0];simp -implicitDefEqProofs only[gsR,e];rw[To]
   exact⟨H1,acc,rfl,he,ha,hnew⟩
theorem Ut {tv:Value}{t:List Int}(ht:Is H tv t)(hr:iL t=true){v:Int}(hv:0<=v/\v<=t.length)(hm:100<m): ∃H' u,lvl prog bY m (.func 223) [tv,.int .i64 v] H=some (u,H')/\Ext H H'/\Iw H' u (upT t v)/\New H u:=by
 have h5:t.length<=5:=by
  unfold iL at hr;rw[aMH] at hr;have:=of_decide_eq_true hr.2;omega
 have one:Iw (H++[.cells (inC v) 3 .row]) (.slice (some ⟨H.length,0,none⟩) 1 1) ([]++[v]):=⟨rfl,.inr ⟨_,1,[],rfl,by simp,rfl,by simp⟩⟩
 have hnew:New H (.slice (some ⟨H.length,0,none⟩) 1 1):=λb ⟨_,_,_,hh⟩=>by cases hh;exact aME _
 refine iK (fR rfl rfl) (by omega) ?_
 rw[aFM];simp -implicitDefEqProofs only[gsR,oB];exact aGO ht hr v.toNat (m-1) v _ _ [] (aME _) hv (by omega) (by simp;omega) (Fr.app _ _ _) one hnew ..
theorem aGN {H0:aA}{bv:Value}{b:List Int}(hb:Is H0 bv b)(hbl:b.length<=10): ∀(q k:Nat)(H1:aA)(acc:Value)(pre:List Int),q<=b.length->q<k->pre.length+q<=40->Ext H0 H1->Iw H1 acc pre->New H0 acc-> ∀(x0 x1 x2 x3 x4 x5 x6 x7 cA aP aN aL aM aR aS aO bC bH bV bG bE aT aU aV aW aX aY aZ bA bB bK bL bM bN bO bP bQ bR bS bT cC cD cE cI cP cR cS cM cN cO cQ cV cT cU cY dD dG dE dH dQ dR dU dV dW dX dY dZ eA eH eI eJ eK eL eM eN eO eP eQ eS eT fD fE fF fG fH fI fJ fK:Value),
  ∃H' u,aH k (aI prog (lvl prog bY m) (aH m) Jr) (Jv (lvl prog bY m) (aH m)) [x0,x1,x2,x3,x4,x5,x6,x7,bv,acc,(.int .i64 ((q:Int)-1)),cA,aP,aN,aL,aM,aR,aS,aO,bC,bH,bV,bG,bE,aT,aU,aV,aW,aX,aY,aZ,bA,bB,bK,bL,bM,bN,bO,bP,bQ,bR,bS,bT,cC,cD,cE,cI,cP,cR,cS,cM,cN,cO,cQ,cV,cT,cU,cY,dD,dG,dE,dH,dQ,dR,dU,dV,dW,dX,dY,dZ,eA,eH,eI,eJ,eK,eL,eM,eN,eO,eP,eQ,eS,eT,fD,fE,fF,fG,fH,fI,fJ,fK] H1=some (u,H')/\Ext H0 H'/\Iw H' u (pre++(b.take q).reverse)/\New H0 u:=by
 intro q;induction q with
 |zero=>
  intro k H1 acc pre hq hk hpl he ha hnew;intros;obtain⟨k,rfl⟩: ∃n,k=n+1:=⟨k-1,by omega⟩
  have e:decide (0<=((0:Nat):Int)-1)=false:=by decide
  rw[dS,Ti];simp -implicitDefEqProofs only[gsR,e];rw[aFD]
  exact⟨H1,acc,rfl,he,by simpa using ha,hnew⟩
 |succ q ih=>
  intro k H1 acc pre hq hk hpl he ha hnew;intros;obtain⟨k,rfl⟩: ∃n,k=n+1:=⟨k-1,by omega⟩
  have e:decide (0<=((q+1:Nat):Int)-1)=true:=decide_eq_true (by omega)
  have eq:(((q+1:Nat):Int)-1)=((q:Nat):Int):=by omega
  have e3:IntKind.i64.wrap (((q:Nat):Int)-1)=((q:Nat):Int)-1:=dJ (by omega) (by omega)
  obtain⟨x,hx⟩: ∃x,b[q]? =some x:=⟨_,aMB (by omega)⟩
  obtain⟨c,o,g1,_,g3⟩:=(hb.ext he).iQ gQ hx .i64;have g4:ld1 (.pointer (some ⟨c,o,none⟩)) H1=some (.int .i64 x,H1):=(g3 H1 rfl).2.1 0 _ rfl;obtain⟨acc2,H2,t1,t2,t3,t4⟩:=ha.q8 (by':=8) gQ oO (by decide) x hnew he (jI (n:=1000) (by decide) (by omega))
  rw[dS,Ti];simp -implicitDefEqProofs only[gsR,e,eq,g1,g4,oB,t1,gJ,e3];have:=ih k H2 acc2 (pre++[x]) (by omega) (by omega) (by simp;omega) t4 t2 t3
  have hr:(b.take (q+1)).reverse=x::(b.take q).reverse:=by rw[List.take_add_one,hx];simp
  rw[hr];simp only[aMG,List.singleton_append] at this;exact this ..
theorem aGM {H0:aA}(hm:100<m): ∀(q k:Nat)(a b:List Int)(av bv:Value),a.length<=q->q<k->0<a.length->0<b.length->a.length<=10->b.length<=10->Is H0 av a->Is H0 bv b-> ∀(x0 x1 x2 x3 x4 x5 x6 x9 bI cA aP aN aL aM aR aS aO bC bH bV bG bE aT aU aV aW aX aY aZ bA bB bK bL bM bN bO bP bQ bR bS bT cC cD cE cI cP cR cS cM cN cO cQ cV cT cU cY dD dG dE dH dQ dR dU dV dW dX dY dZ eA eH eI eJ eK eL eM eN eO eP eQ eS eT fD fE fF fG fH fI fJ fK:Value),
  ∃H' u,aH k (aI prog (lvl prog bY m) (aH m) Jq) (Ju (lvl prog bY m) (aH m)) [x0,x1,x2,x3,x4,x5,x6,av,bv,x9,bI,cA,aP,aN,aL,aM,aR,aS,aO,bC,bH,bV,bG,bE,aT,aU,aV,aW,aX,aY,aZ,bA,bB,bK,bL,bM,bN,bO,bP,bQ,bR,bS,bT,cC,cD,cE,cI,cP,cR,cS,cM,cN,cO,cQ,cV,cT,cU,cY,dD,dG,dE,dH,dQ,dR,dU,dV,dW,dX,dY,dZ,eA,eH,eI,eJ,eK,eL,eM,eN,eO,eP,eQ,eS,eT,fD,fE,fF,fG,fH,fI,fJ,fK] H0=some (u,H')/\Ext H0 H'/\Iw H' u (Dj (Ab q a b))/\New H0 u:=by
 intro q;have fin: ∀(a b:List Int)(av bv:Value),0<b.length->a.length<=10->b.length<=10->Is H0 av a->Is H0 bv b-> ∀(x0 x1 x2 x3 x4 x5 x6 x9 bI cA aP aN aL aM aR aS aO bC bH bV bG bE aT aU aV aW aX aY aZ bA bB bK bL bM bN bO bP bQ bR bS bT cC cD cE cI cP cR cS cM cN cO cQ cV cT cU cY dD dG dE dH dQ dR dU dV dW dX dY dZ eA eH eI eJ eK eL eM eN eO eP eQ eS eT fD fE fF fG fH fI fJ fK:Value),∃H' u,Js (lvl prog bY m) (aH m) x0 x1 x2 x3 x4 x5 x6 av bv x9 bI cA aP aN aL aM aR aS aO bC bH bV bG bE aT aU aV aW aX aY aZ bA bB bK bL bM bN bO bP bQ bR bS bT cC cD cE cI cP cR cS cM cN cO cQ cV cT cU cY dD dG dE dH dQ dR dU dV dW dX dY dZ eA eH eI eJ eK eL eM eN eO eP eQ eS eT fD fE fF fG fH fI fJ fK H0=some (u,H')/\Ext H0 H'/\Iw H' u (Dj (a,b))/\New H0 u:=by
  intro a b av bv hb0 ha hb hav hbv;intros;obtain⟨v',H',t1,t2,t3,t4⟩:=(Rw.lD (el:=inC) (e:=3) (sz:=1) (H:=H0)).xK gQ oO (by decide) (by':=8) hav (New.nB H0) (Fr.mZ _ H0) (jI (n:=1000) (by decide) (by simp;omega))
  rw[List.nil_append] at t2;have hlen:=(hbv.ext t4).jQ;have e3:IntKind.i64.wrap ((b.length:Int)-2)=((b.length-1:Nat):Int)-1:=by rw[dJ (by omega) (by omega)];omega
  unfold Js;simp -implicitDefEqProofs only[gsR,t1,hlen,gJ,e3];exact Exists.imp (λH2 h=>Exists.imp (λu h=>⟨h.1,h.2.1,h.2.2⟩) h) (aGN (m:=m) hbv hb (b.length-1) m H' v' a (by omega) (by omega) (by omega) t4 t2 t3 ..)
 induction q with
 |zero=>intro k a b av bv h1 _ h2;omega
 |succ q ih=>
  intro k a b av bv haq hk ha0 hb0 ha10 hb10 hav hbv;intros;obtain⟨k,rfl⟩: ∃n,k=n+1:=⟨k-1,by omega⟩
  have la:=hav.jQ;have lb:=hbv.jQ;rw[dS,aFC];unfold Ab;by_cases c1:1<a.length
  ·have d1:decide ((1:Int)<(a.length:Int))=true:=decide_eq_true (by omega)
   by_cases c2:1<b.length
   ·have d2:decide ((1:Int)<(b.length:Int))=true:=decide_eq_true (by omega)
    obtain⟨x,hx⟩: ∃x,a[a.length-2]? =some x:=⟨_,aMB (by omega)⟩
    obtain⟨y,hy⟩: ∃y,b[b.length-2]? =some y:=⟨_,aMB (by omega)⟩
    have ea:IntKind.i64.wrap ((a.length:Int)-2)=((a.length-2:Nat):Int):=by rw[dJ (by omega) (by omega)];omega
    have eb:IntKind.i64.wrap ((b.length:Int)-2)=((b.length-2:Nat):Int):=by rw[dJ (by omega) (by omega)];omega
    have ea1:IntKind.i64.wrap ((a.length:Int)-1)=((a.length-1:Nat):Int):=by rw[dJ (by omega) (by omega)];omega
    have eb1:IntKind.i64.wrap ((b.length:Int)-1)=((b.length-1:Nat):Int):=by rw[dJ (by omega) (by omega)];omega
    obtain⟨c,o,g1,_,g3⟩:=hav.iQ gQ hx .i64;have g4:ld1 (.pointer (some ⟨c,o,none⟩)) H0=some (.int .i64 x,H0):=(g3 H0 rfl).2.1 0 _ rfl;obtain⟨c',o',k1,_,k3⟩:=hbv.iQ gQ hy .i64;have k4:ld1 (.pointer (some ⟨c',o',none⟩)) H0=some (.int .i64 y,H0):=(k3 H0 rfl).2.1 0 _ rfl;by_cases c3:x=y
    ·have d3:(x==y)=true:=by simp[c3]
     rw[if_pos ⟨c1,c2,by rw[uI hx,uI hy,c3]⟩]
     have na:a≠[]:=λh=>by rw[h] at ha0;simp at ha0
     have nb:b≠[]:=λh=>by rw[h] at hb0;simp at hb0
     obtain⟨a',s1,s2,_⟩:=hav.B8 (P:=prog) gQ szI na (lo:=none) rfl (nA a.length .i64 (a.length-1)) (Nat.zero_le _) (by omega)
     obtain⟨b',s3,s4,_⟩:=hbv.B8 (P:=prog) gQ szI nb (lo:=none) rfl (nA b.length .i64 (b.length-1)) (Nat.zero_le _) (by omega)
     rw[List.drop_zero] at s2 s4;simp -implicitDefEqProofs only[gsR,la,d1,lb,d2,gJ,ea,eb,g1,g4,k1,k4,d3,ea1,eb1,s1,s3];exact ih k _ _ a' b' (by simp;omega) (by omega) (by simp;omega) (by simp;omega) (by simp;omega) (by simp;omega) s2 s4 ..
    ·have d3:(x==y)=false:=by simp[c3]
     rw[if_neg (by rw[uI hx,uI hy];rintro ⟨_,_,h⟩;exact c3 h)]
     simp -implicitDefEqProofs only[gsR,la,d1,lb,d2,gJ,ea,eb,g1,g4,k1,k4,d3];rw[Jt];exact fin a b av bv hb0 ha10 hb10 hav hbv ..
   ·have d2:decide ((1:Int)<(b.length:Int))=false:=decide_eq_false (by omega)
    rw[if_neg (by omega)]
    simp -implicitDefEqProofs only[gsR,la,d1,lb,d2];rw[Jt];exact fin a b av bv hb0 ha10 hb10 hav hbv ..
  ·have d1:decide ((1:Int)<(a.length:Int))=false:=decide_eq_false (by omega)
   rw[if_neg (by omega)]
   simp -implicitDefEqProofs only[gsR,la,d1];rw[Jt];exact fin a b av bv hb0 ha10 hb10 hav hbv ..
theorem aGL {tv:Value}{t:List Int}(ht:Is H tv t)(hr:iL t=true){v w:Int}(hv:0<=v/\v<=t.length)(hw:0<=w/\w<=t.length)(hm:200<m)(hm2:m<=72057594037927936):
  ∃H' u,lvl prog bY m (.func 161) [tv,.int .i64 v,.int .i64 w] H=some (u,H')/\Ext H H'/\Iw H' u (oD t v w)/\New H u:=by
 have h5:t.length<=5:=by
  unfold iL at hr;rw[aMH] at hr;have:=of_decide_eq_true hr.2;omega
 have g1:=Ur ht (m:=m-1) (by omega) (by omega)
 rw[hr] at g1;have hlen:=ht.jQ;have d1:decide (v<0)=false:=decide_eq_false (by omega)
 have d2:decide ((t.length:Int)<v)=false:=decide_eq_false (by omega)
 have d3:decide (w<0)=false:=decide_eq_false (by omega)
 have d4:decide ((t.length:Int)<w)=false:=decide_eq_false (by omega)
 obtain⟨H1,a,g2,x1,qa,_⟩:=Ut ht hr hv (m:=m-1) (by omega)
 obtain⟨H2,b,g3,x2,qb,_⟩:=Ut (ht.ext x1) hr hw (m:=m-1) (by omega)
 have la:=Kr t v.toNat v;have lb:=Kr t w.toNat w;have e:oD t v w=Dj (Ab (upT t v).length (upT t v) (upT t w)):=by unfold oD;rw[if_pos ⟨hr,hv.1,hv.2,hw.1,hw.2⟩]
 refine iK (fR rfl rfl) (by omega) ?_
 rw[aFE];simp -implicitDefEqProofs only[gsR,g1,hlen,d1,d2,d3,d4,g2,g3];rw[e];have hla:(upT t v).length=(upL t v.toNat v).length:=rfl;have hlb:(upT t w).length=(upL t w.toNat w).length:=rfl;exact Exists.imp (λH' h=>Exists.imp (λu h=>⟨h.1,(x1.tr x2).tr h.2.1,h.2.2.1,λc hc=>aMP (x1.tr x2).1 (h.2.2.2 c hc)⟩) h) (aGM (m:=m-1) (by omega) (upT t v).length (m-1) _ _ a b (aME _) (by omega) (by omega) (by omega) (by omega) (by omega) (qa.rs.ext x2) qb.rs ..)
end
def s6:Nat->List (List Int)
 |0=>[[]]
 |k+1=>(s6 k).flatMap λt=>(List.range (k+1)).map λx:Nat=>t++[(x:Int)]
theorem aGU {t:List Int}{x:Int}(h:iL (t++[x])=true):iL t=true/\0<=x/\x<=t.length:=by
 have hx:=Uq h (i:=t.length) (x:=x) (by simp)
 refine⟨?_,hx.1,hx.2.1⟩;unfold iL at h⊢;rw[aMH,aNe] at h⊢;refine⟨λj hj=> ?_,?_⟩
 ·have hjl:=aNd.mp hj
  have:=h.1 j (aNd.mpr (by simp;omega))
  rw[aMD,aMC hjl] at this;rw[aMD];exact this
 ·have h2:=of_decide_eq_true h.2
  simp at h2;exact decide_eq_true (by omega)
theorem Uu: ∀(k:Nat)(t:List Int),t.length=k->iL t=true->t∈s6 k
 |0,t,hl,_=>by
  rw[aMR.mp hl];simp[s6]
 |k+1,t,hl,h=>by
  obtain⟨s,x,rfl⟩: ∃s x,t=s++[x]:=by
   refine⟨t.dropLast,t.getLast (λhh=>by rw[hh] at hl;simp at hl),?_⟩
   exact(List.dropLast_concat_getLast _).symm
  obtain⟨h1,h2,h3⟩:=aGU h;have hsl:s.length=k:=by simpa using hl
  unfold s6;rw[List.mem_flatMap];refine⟨s,Uu k s hsl h1,aNc.mpr ⟨x.toNat,aNd.mpr (by omega),?_⟩⟩
  rw[show((x.toNat:Nat):Int)=x by omega]
def xT (t:List Int):PlanD:=cpP (t.length+1) (xS t) (mQ t)
def vW (t:List Int):Bool:=lF (xT t)&&(decide (lX (xT t)=0)&&(List.range (t.length+1)).all λv=>(List.range (t.length+1)).all λw=>decide (uG (xT t) v w=oD t v w)&&(decide (v=w)||decide (2<=(oD t v w).length)))
theorem aGP:(s6 1).all vW=true:=by decide+kernel
theorem aGQ:(s6 2).all vW=true:=by decide+kernel
theorem aGR:(s6 3).all vW=true:=by decide+kernel
theorem aGS:(s6 4).all vW=true:=by decide+kernel
theorem aGT:(s6 5).all vW=true:=by decide+kernel
theorem aG3 {t:List Int}(hr:iL t=true)(h1:1<=t.length):vW t=true:=by
 have h5:t.length<=5:=by
  unfold iL at hr;rw[aMH] at hr;have:=of_decide_eq_true hr.2;omega
 have hm:=Uu t.length t rfl hr;have hc:t.length=1∨t.length=2∨t.length=3∨t.length=4∨t.length=5:=by omega
 rcases hc with h|h|h|h|h<;>rw[h] at hm
 ·exact aNe.mp aGP t hm
 ·exact aNe.mp aGQ t hm
 ·exact aNe.mp aGR t hm
 ·exact aNe.mp aGS t hm
 ·exact aNe.mp aGT t hm
def Dl (t:List Int)(v:Nat):List Int:=(List.range (t.length+1)).map λw:Nat=>if v=w then(v:Int) else(oD t v w).getD 1 0
structure TG (t:List Int):Prop where
 ok:lF (xT t)=true
 er:lX (xT t)=0
 pa: ∀v w:Nat,v<=t.length->w<=t.length->uG (xT t) v w=oD t v w
 l2: ∀v w:Nat,v<=t.length->w<=t.length->v≠w->2<=(oD t v w).length
theorem Uv {t:List Int}(hr:iL t=true)(h1:1<=t.length):TG t:=by
 have h:=aG3 hr h1;unfold vW at h;simp only[aMH,decide_eq_true_eq,aNe,aNd,Bool.or_eq_true] at h;obtain⟨h1,h2,h3⟩:=h
 exact⟨h1,h2,λv w hv hw=>(h3 v (by omega) w (by omega)).1,λv w hv hw hne=>((h3 v (by omega) w (by omega)).2).resolve_left hne⟩
theorem aG2 {p:PlanD}{t:List Int}(hp:lF p=true)(hg:TG t):lF (qG p t)=true:=by
 have h:=hg.ok;unfold lF uB vT uD at*;simp only[aMH] at*
 exact⟨⟨h.1.1,hp.1.2⟩,h.2.1,hp.2.2.1,hp.2.2.2.1,h.2.2.2.2⟩
theorem aGY {p:PlanD}{t:List Int}(hp:lF p=true)(hg:TG t):lX (qG p t)=0/\ ∀v w:Nat,v<=t.length->w<=t.length->uG (qG p t) v w=oD t v w:=by
 obtain⟨_,c2,_,c4⟩:=aGH (aG2 hp hg) hg.ok rfl rfl rfl
 exact⟨by rw[c4];exact hg.er,λv w hv hw=>by rw[c2];exact hg.pa v w hv hw⟩
section
variable {H : aA} {m : Nat} {p : PlanD} {ev wv nv : Value}
theorem aGW {α:Type}{el:α->List Value}{e e':TypeId}{sz by':Nat}(hsz: ∀x,(el x).length=sz)(hall: ∀x,dK (el x)=true)(h0:0<sz){H0:aA}{v w:Value}{xs ys:List α}{b j:Nat}{cs:List Value}
  (hb:H[b]? =some (.cells cs 40 .fix))(hj:j<cs.length)(hv:Rw el e sz H v xs)(hw:Rs el e' H w ys)(hn:New H0 v)(hbn:H0.length<=b)(he:Ext H0 H)(hr:iZ (xs.length+ys.length) by'=true):
  ∃v' H1 H',app e sz by' v w H=some (v',H1)/\stN 1 (.pointer (some ⟨b,j,none⟩)) v' H1=some (undef,H')/\
   Rw el e sz H' v' (xs++ys)/\New H0 v'/\Ext H0 H'/\H'[b]? =some (.cells (cs.set j v') 40 .fix)/\Cw b e H H':=by
 obtain⟨v',H1,g1,g2,g3,g4,g5⟩:=hv.vO hsz hall h0 (by':=by') hw hr;have hbl:=(aMz.mp hb).1;have hl:=he.1;have hnh: ¬cG v b:=λhh=>by
  obtain⟨c',hc'⟩:=hv.blk hh;rw[hb] at hc';simp at hc'
 have hb1:H1[b]? =some (.cells cs 40 .fix):=by rw[g4 b hbl hnh,hb]
 obtain⟨s1,s2⟩:=g2.xL;have hb1l:=(aMz.mp hb1).1;refine⟨v',H1,H1.set b (.cells (cs.set j v') 40 .fix),g1,?_,g2.fP λc hc=> ?_,λc hc=> ?_,⟨by rw[List.length_set];omega,λc hc _=> ?_⟩,aMF hb1l,λc y hcb hA hy=> ?_⟩
 ·rw[mE 1 _ _ _ (by rw[s1];rfl),hb1,s1,nK _ _ _ _ _ _ (by decide) (by simp;omega) s2]
  rfl
 ·refine aMA λhh=> ?_
  subst hh;obtain⟨c',hc'⟩:=g2.blk hc;rw[hb1] at hc';simp at hc'
 ·rcases g5 c hc with h|⟨h,_⟩
  ·exact hn c h
  ·omega
 ·rw[aMA (by omega),g4 c (by omega) (λh=>by have:=hn c h;omega),he.2 c hc id]
 ·have hch: ¬cG v c:=λhh=>by
   obtain⟨c',hc'⟩:=hv.blk hh;rw[hy] at hc';cases hc';exact hA _ rfl
  rw[aMA (Ne.symm hcb),g4 c (aMz.mp hy).1 hch,hy]
structure LA (H0 H1:aA)(pb rb:Nat)(q:PlanD)(ev wv nv:Value):Prop where
 ext:Ext H0 H1
 blk:H1[pb]? =some (plB q ev wv nv)
 res:H1[rb]? =some plZ
 ne:rb≠pb
 lp:H0.length<=pb
 lr:H0.length<=rb
theorem LA.aGV {H0 H1 H2:aA}{pb rb:Nat}{q:PlanD}(h:LA H0 H1 pb rb q ev wv nv)(he:Ext H1 H2):LA H0 H2 pb rb q ev wv nv:=⟨h.ext.tr he,fC h.blk he,fC h.res he,h.ne,h.lp,h.lr⟩
theorem Ks {H0 H1:aA}{b rb:Nat}{e:TypeId}(hk:Cw b e H0 H1)(hr:H0[rb]? =some plZ)(hne:rb≠b):H1[rb]? =some plZ:=hk rb _ hne (λcs hh=>by simp[plZ] at hh) hr
def Dk (H0:aA)(q:PlanD)(H':aA)(r:Value):Prop:= ∃ev wv nv,r= .tuple #[plV q ev wv nv,.int .i64 0]/\Ext H0 H'/\PV H' q ev wv nv
variable {t : List Int} {tv : Value} {H0 : aA} {pb rb : Nat}
theorem aG1 {Hb:aA}{v:Nat}(hr:iL t=true)(hg:TG t)(ht:Is Hb tv t)(hv:v<t.length+1)(hm:400<m)(hm2:m<=72057594037927936){K:Ex->K (Value×aA)}{Q:aA->Value->Prop}
  (hK: ∀(H':aA)(u:Value),Ext Hb H'->Iw H' u ((List.range (t.length+1)).map λw=>if v=w then(v:Int) else(oD t v w).getD 1 0)->New Hb u-> ∀(x0 x3 x5 x7 x8 cA aP aN aL aM aR aS aO bC bH bV bG bE aT aU aV aW aX aY aZ bA bB bK bL bM bN bO bP bQ bR bS bT cC cD cE cI cP cR cS cM cN cO cQ cV cT cU cY dD dG dE dH dQ dR dU dV dW dX dY dZ eA eH eI eJ eK eL eM eN eO eP eQ eS eT:Value),∃H2 r,J5 (lvl prog bY m) (aH m) K x0 tv (.pointer (some ⟨pb,0,none⟩)) x3 (.pointer (some ⟨rb,0,none⟩)) x5 (.int .i64 (t.length+1:Nat)) x7 x8 (.int .i64 (v:Nat)) u cA aP aN aL aM aR aS aO bC bH bV bG bE aT aU aV aW aX aY aZ bA bB bK bL bM bN bO bP bQ bR bS bT cC cD cE cI cP cR cS cM cN cO cQ cV cT cU cY dD dG dE dH dQ dR dU dV dW dX dY dZ eA eH eI eJ eK eL eM eN eO eP eQ eS eT H'=some (r,H2)/\Q H2 r):
  ∀(k0 w k:Nat)(H1:aA)(acc:Value),t.length+1-w=k0->w<=t.length+1->k0<k->Ext Hb H1->Iw H1 acc ((List.range w).map λw=>if v=w then(v:Int) else(oD t v w).getD 1 0)->New Hb acc-> ∀(x0 x3 x5 x7 x8 aP aN aL aM aR aS aO bC bH bV bG bE aT aU aV aW aX aY aZ bA bB bK bL bM bN bO bP bQ bR bS bT cC cD cE cI cP cR cS cM cN cO cQ cV cT cU cY dD dG dE dH dQ dR dU dV dW dX dY dZ eA eH eI eJ eK eL eM eN eO eP eQ eS eT:Value),
  ∃H' r,aH k (aI prog (lvl prog bY m) (aH m) J4) (J8 (lvl prog bY m) (aH m) K) [x0,tv,(.pointer (some ⟨pb,0,none⟩)),x3,(.pointer (some ⟨rb,0,none⟩)),x5,(.int .i64 (t.length+1:Nat)),x7,x8,(.int .i64 (v:Nat)),acc,(.int .i64 (w:Nat)),aP,aN,aL,aM,aR,aS,aO,bC,bH,bV,bG,bE,aT,aU,aV,aW,aX,aY,aZ,bA,bB,bK,bL,bM,bN,bO,bP,bQ,bR,bS,bT,cC,cD,cE,cI,cP,cR,cS,cM,cN,cO,cQ,cV,cT,cU,cY,dD,dG,dE,dH,dQ,dR,dU,dV,dW,dX,dY,dZ,eA,eH,eI,eJ,eK,eL,eM,eN,eO,eP,eQ,eS,eT] H1=some (r,H')/\Q H' r:=by
 intro k0;have h5:t.length<=5:=by
  unfold iL at hr;rw[aMH] at hr;have:=of_decide_eq_true hr.2;omega
 induction k0 with
 |zero=>
  intro w k H1 acc hq hi hk he ha hnew;intros;obtain⟨k,rfl⟩: ∃n,k=n+1:=⟨k-1,by omega⟩
  obtain rfl:w=t.length+1:=by omega
  have e:decide (((t.length+1:Nat):Int)<((t.length+1:Nat):Int))=false:=by simp
  rw[dS,Ts];simp -implicitDefEqProofs only[gsR,e];rw[aFS];exact hK H1 acc he ha hnew ..
 |succ k0 ih=>
  intro w k H1 acc hq hi hk he ha hnew;intros;obtain⟨k,rfl⟩: ∃n,k=n+1:=⟨k-1,by omega⟩
  have e:decide ((w:Int)<((t.length+1:Nat):Int))=true:=decide_eq_true (by omega)
  have e3:IntKind.i64.wrap ((w:Int)+1)=((w+1:Nat):Int):=by rw[dJ (by omega) (by omega)];omega
  have hrow: ∀x:Int,(if v=w then(v:Int) else(oD t v w).getD 1 0)=x->((List.range (w+1)).map λw=>if v=w then(v:Int) else(oD t v w).getD 1 0)=((List.range w).map λw=>if v=w then(v:Int) else(oD t v w).getD 1 0)++[x]:=λx hx=>by
   rw[aM8,List.map_append];simp only[aM4,List.map_nil];rw[hx]
  rw[dS,Ts];by_cases hvw:v=w
  ·have d:((v:Int)!=(w:Int))=false:=by simp[hvw]
   obtain⟨acc2,H2,t1,t2,t3,t4⟩:=ha.q8 (by':=8) gQ oO (by decide) (v:Int) hnew he (jI (n:=1000) (by decide) (by simp;omega))
   simp -implicitDefEqProofs only[gsR,e,d,oB,t1,cH,e3];exact ih (w+1) k H2 acc2 (by omega) (by omega) (by omega) t4 (by rw[hrow v (if_pos hvw)];exact t2) t3 ..
  ·have d:((v:Int)!=(w:Int))=true:=by simp;omega
   obtain⟨H2,u,g1,x2,q2,_⟩:=aGL (ht.ext he) hr (v:=v) (w:=w) (by omega) (by omega) (m:=m) (by omega) (by omega)
   obtain⟨x,hx⟩: ∃x,(oD t v w)[1]? =some x:=by
    have:=hg.l2 v w (by omega) (by omega) hvw
    exact⟨_,aMB (by omega)⟩
   obtain⟨c,o,k1,_,k3⟩:=q2.rs.iQ gQ hx .i64;have k1:aQ 1 u (.int .i64 1)=some (.pointer (some ⟨c,o,none⟩)):=k1;have k4:ld1 (.pointer (some ⟨c,o,none⟩)) H2=some (.int .i64 x,H2):=(k3 H2 rfl).2.1 0 _ rfl;have ha2:=ha.fP (H':=H2) λb hb=>x2.2 b (ha.iT hb) id
   obtain⟨acc2,H3,t1,t2,t3,t4⟩:=ha2.q8 (by':=8) gQ oO (by decide) x hnew (he.tr x2) (jI (n:=1000) (by decide) (by simp;omega))
   simp -implicitDefEqProofs only[gsR,e,d,g1,k1,k4,oB,t1,cH,e3];exact ih (w+1) k H3 acc2 (by omega) (by omega) (by omega) t4 (by rw[hrow x (by rw[if_neg hvw,uI hx])];exact t2) t3 ..
theorem aG0 {q:PlanD}{ev1 wv1:Value}(hr:iL t=true)(hg:TG t)(ht:Is H0 tv t)(hm:500<m)(hm2:m<=72057594037927936)(hqe:q.edges=xS t)(hqw:q.weights.length<=1000):
  ∀(k0 v k:Nat)(H1:aA)(nv1:Value)(us:List SV),t.length+1-v=k0->v<=t.length+1->k0<k->LA H0 H1 pb rb q ev1 wv1 nv1->Ew H1 ev1 q.edges->Iw H1 wv1 q.weights->Rw sC 37 1 H1 nv1 us->New H0 nv1->WR H1 us ((List.range v).map (Dl t))-> ∀(x0 x3 x5 x7 x8 bI cA aP aN aL aM aR aS aO bC bH bV bG bE aT aU aV aW aX aY aZ bA bB bK bL bM bN bO bP bQ bR bS bT cC cD cE cI cP cR cS cM cN cO cQ cV cT cU cY dD dG dE dH dQ dR dU dV dW dX dY dZ eA eH eI eJ eK eL eM eN eO eP eQ eS eT:Value),
  ∃H' r,aH k (aI prog (lvl prog bY m) (aH m) J3) (J7 (lvl prog bY m) (aH m)) [x0,tv,(.pointer (some ⟨pb,0,none⟩)),x3,(.pointer (some ⟨rb,0,none⟩)),x5,(.int .i64 (t.length+1:Nat)),x7,x8,(.int .i64 (v:Nat)),bI,cA,aP,aN,aL,aM,aR,aS,aO,bC,bH,bV,bG,bE,aT,aU,aV,aW,aX,aY,aZ,bA,bB,bK,bL,bM,bN,bO,bP,bQ,bR,bS,bT,cC,cD,cE,cI,cP,cR,cS,cM,cN,cO,cQ,cV,cT,cU,cY,dD,dG,dE,dH,dQ,dR,dU,dV,dW,dX,dY,dZ,eA,eH,eI,eJ,eK,eL,eM,eN,eO,eP,eQ,eS,eT] H1=some (r,H')/\Dk H0 {q with next:=mQ t} H' r:=by
 intro k0;have h5:t.length<=5:=by
  unfold iL at hr;rw[aMH] at hr;have:=of_decide_eq_true hr.2;omega
 induction k0 with
 |zero=>
  intro v k H1 nv1 us hq hi hk hL he1 hw1 hn1 hnew hwr;intros;obtain⟨k,rfl⟩: ∃n,k=n+1:=⟨k-1,by omega⟩
  obtain rfl:v=t.length+1:=by omega
  have e:decide (((t.length+1:Nat):Int)<((t.length+1:Nat):Int))=false:=by simp
  have hrows:Rows H1 nv1 (mQ t):=hwr.Kh hn1.rs;have hb':H1[pb]? =some (plB {q with next:=mQ t} ev1 wv1 nv1):=hL.blk
  have l11:=kD hb';have hqel:q.edges.length<=5:=by rw[hqe];simp[xS];exact h5
  have hpv:PV H1 {q with next:=mQ t} ev1 wv1 nv1:=⟨he1.rs,hw1.rs,hrows,by show q.edges.length<=_;omega,by show q.weights.length<=_;omega,by show(mQ t).length<=_;unfold mQ;rw[aGG];omega⟩
  have hrl:=(aMz.mp hL.res).1;have hall:=hpv.Jn;have st:stN 11 (.pointer (some ⟨rb,0,none⟩)) (plV {q with next:=mQ t} ev1 wv1 nv1) H1=some (undef,H1.set rb (plB {q with next:=mQ t} ev1 wv1 nv1)):=by
   have e1:(plV {q with next:=mQ t} ev1 wv1 nv1).cells.toList=plC {q with next:=mQ t} ev1 wv1 nv1:=rfl
   rw[mE 11 _ _ _ rfl,hL.res,e1];unfold plZ;exact nK _ _ _ _ _ _ (by decide) (by simp[plC]) hall
  have l2:=kD (aMF (a:=plB {q with next:=mQ t} ev1 wv1 nv1) hrl)
  have kp: ∀(b:Nat)(cs:List Value)(e:TypeId),H1[b]? =some (.cells cs e .row)->(H1.set rb (plB {q with next:=mQ t} ev1 wv1 nv1))[b]? =H1[b]? :=λb cs e hb=>by
   refine aMA λhh=> ?_
   subst hh;rw[hL.res] at hb;simp[plZ] at hb
  have x2:Ext H0 (H1.set rb (plB {q with next:=mQ t} ev1 wv1 nv1)):=s5 hL.ext hL.lr
  have hpv2:PV (H1.set rb (plB {q with next:=mQ t} ev1 wv1 nv1)) {q with next:=mQ t} ev1 wv1 nv1:=by
   refine⟨(he1.fP λb hb=> ?_).rs,(hw1.fP λb hb=> ?_).rs,(hwr.zU λb cs hb=>kp b cs _ hb).Kh (hn1.fP λb hb=> ?_).rs,hpv.be,hpv.bw,hpv.bn⟩
   ·obtain⟨cs,hc⟩:=he1.blk hb
    exact kp b cs _ hc
   ·obtain⟨cs,hc⟩:=hw1.blk hb
    exact kp b cs _ hc
   ·obtain⟨cs,hc⟩:=hn1.blk hb
    exact kp b cs _ hc
  rw[dS,Tr];simp -implicitDefEqProofs only[gsR,e];rw[aFR];simp -implicitDefEqProofs only[gsR,l11,st,l2]
  exact⟨_,_,rfl,ev1,wv1,nv1,rfl,x2,hpv2⟩
 |succ k0 ih=>
  intro v k H1 nv1 us hq hi hk hL he1 hw1 hn1 hnew hwr;intros;obtain⟨k,rfl⟩: ∃n,k=n+1:=⟨k-1,by omega⟩
  have e:decide ((v:Int)<((t.length+1:Nat):Int))=true:=decide_eq_true (by omega)
  have e3:IntKind.i64.wrap ((v:Int)+1)=((v+1:Nat):Int):=by rw[dJ (by omega) (by omega)];omega
  rw[dS,Tr];simp -implicitDefEqProofs only[gsR,e];refine aG1 (pb:=pb) (rb:=rb) (Q:=Dk H0 {q with next:=mQ t}) hr hg (ht.ext hL.ext) (v:=v) (by omega) (by omega) hm2 (λH2 u x2 hu hun=> ?_) (t.length+1) 0 m H1 _ (by omega) (by omega) (by omega) (Fr.mZ _ _) (Rw.lD (el:=inC)) (New.nB _) ..
  intros;have hL2:=hL.aGV x2;have l10:=eE hL2.blk 10 _ rfl;have hn2:Rw sC 37 1 H2 nv1 us:=hn1.fP λb hb=>x2.2 b (hn1.iT hb) id
  have hwr2:=hwr.zU (H':=H2) λb cs hb=>x2.2 b (aMz.mp hb).1 id
  have he2:=he1.fP (H':=H2) λb hb=>x2.2 b (he1.iT hb) id
  have hw2:=hw1.fP (H':=H2) λb hb=>x2.2 b (hw1.iT hb) id
  have hul:us.length<=10:=by have:=hwr.len;simp at this;omega
  obtain⟨nv2,H3,H4,r1,r2,r3,r4,r5,r6,r7⟩:=zR (by':=24) (H0:=H0) (b:=pb) (j:=10) Jg Jf (by decide) (pR hu) hL2.blk (by show 10<11;omega) hn2 hnew hL.lp hL2.ext (jI (n:=1000) (by decide) (by omega))
  have bl:dL 37 1 1 [.slice none 0 0] [(0,u)] H2=some (.slice (some ⟨H2.length,0,none⟩) 1 1,H2++[.cells (sC (pR hu)) 37 .row]):=by
   have h0:u.cells= #[u]:=(pR hu).2.2;unfold dL;have:Instr.fill (λi=>some (i*1,1)) (List.replicate 1 [Value.slice none 0 0]).flatten.toArray [(0,u)]=some #[u]:=by
    simp[Instr.fill,h0]
   rw[this];rfl
  have hL4:LA H0 H4 pb rb q ev1 wv1 nv2:=⟨r5,r6,Ks r7 hL2.res hL.ne,hL.ne,hL.lp,hL.lr⟩;have w4:=(hwr2.Tz (s:=pR hu) hu).zU (H':=H4) λb cs hb=>by
   have hbp:b≠pb:=λhh=>by
    subst hh;rw[hL2.blk] at hb;simp[plB] at hb
   rw[hb];exact r7 b _ hbp (λcs' hh=>by cases hh) hb
  unfold J5;simp -implicitDefEqProofs only[gsR,l10,bl,r1,r2,cH,e3];refine ih (v+1) k H4 nv2 _ (by omega) (by omega) (by omega) hL4 (Rw.xQ he2 r7 hL2.blk (by decide)) (Rw.xQ hw2 r7 hL2.blk (by decide)) r3 r4 ?_ ..
  have hrs:(List.range (v+1)).map (Dl t)=(List.range v).map (Dl t)++[Dl t v]:=by rw[aM8,List.map_append];rfl
  exact hrs▸w4
theorem aGZ {q:PlanD}{ws:List Int}{nv0:Value}(hr:iL t=true)(hg:TG t)(ht:Is H0 tv t)(hw0:Is H0 wv ws)(hwl:ws.length<=1000)(hm:500<m)(hm2:m<=72057594037927936)(hqe:q.edges=xS t)(hqw:q.weights=ws):
  ∀(k0 v k:Nat)(H1:aA)(ev1:Value),t.length-v=k0->v<=t.length->k0<k->LA H0 H1 pb rb q ev1 wv nv0->Ew H1 ev1 ((List.range v).map λi=>(t.getD i 0,((i+1:Nat):Int)))->New H0 ev1-> ∀(x0 x3 x5 x8 x9 bI cA aP aN aL aM aR aS aO bC bH bV bG bE aT aU aV aW aX aY aZ bA bB bK bL bM bN bO bP bQ bR bS bT cC cD cE cI cP cR cS cM cN cO cQ cV cT cU cY dD dG dE dH dQ dR dU dV dW dX dY dZ eA eH eI eJ eK eL eM eN eO eP eQ eS eT:Value),
  ∃H' r,aH k (aI prog (lvl prog bY m) (aH m) J2) (J6 (lvl prog bY m) (aH m)) [x0,tv,(.pointer (some ⟨pb,0,none⟩)),x3,(.pointer (some ⟨rb,0,none⟩)),x5,(.int .i64 (t.length+1:Nat)),(.int .i64 (v+1:Nat)),x8,x9,bI,cA,aP,aN,aL,aM,aR,aS,aO,bC,bH,bV,bG,bE,aT,aU,aV,aW,aX,aY,aZ,bA,bB,bK,bL,bM,bN,bO,bP,bQ,bR,bS,bT,cC,cD,cE,cI,cP,cR,cS,cM,cN,cO,cQ,cV,cT,cU,cY,dD,dG,dE,dH,dQ,dR,dU,dV,dW,dX,dY,dZ,eA,eH,eI,eJ,eK,eL,eM,eN,eO,eP,eQ,eS,eT] H1=some (r,H')/\Dk H0 {q with next:=mQ t} H' r:=by
 intro k0;have h5:t.length<=5:=by
  unfold iL at hr;rw[aMH] at hr;have:=of_decide_eq_true hr.2;omega
 induction k0 with
 |zero=>
  intro v k H1 ev1 hq hi hk hL he1 hen;intros;obtain⟨k,rfl⟩: ∃n,k=n+1:=⟨k-1,by omega⟩
  obtain rfl:v=t.length:=by omega
  have e:decide (((t.length+1:Nat):Int)<((t.length+1:Nat):Int))=false:=by simp
  have l8:=eE hL.blk 8 _ rfl;obtain⟨wv1,H2,H3,r1,r2,r3,r4,r5,r6,r7⟩:=aGW (by':=8) (H0:=H0) gQ oO (by decide) hL.blk (show 8<11 by omega) (Rw.lD (el:=inC) (e:=3) (sz:=1)) (hw0.ext hL.ext) (New.nB _) hL.lp hL.ext (jI (n:=100000) (by decide) (by simp;omega))
  rw[List.nil_append] at r3;have hL3:LA H0 H3 pb rb q ev1 wv1 nv0:=⟨r5,r6,Ks r7 hL.res hL.ne,hL.ne,hL.lp,hL.lr⟩;have he3:=Rw.xQ he1 r7 hL.blk (by decide)
  have st:=C0 (q':=q) (ev':=ev1) (wv':=wv1) (nv':= .slice none 0 0) (j:=10) (v:= .slice none 0 0) hL3.blk rfl rfl (by omega) rfl
  obtain⟨H4,hH4⟩: ∃H4,H4=H3.set pb (plB q ev1 wv1 (.slice none 0 0)):=⟨_,rfl⟩;rw[<-hH4] at st;have other: ∀b,b≠pb->H4[b]? =H3[b]? :=λb hb=>by rw[hH4];exact aMA (Ne.symm hb)
  have nrow: ∀(b:Nat)(cs:List Value)(e:TypeId),H3[b]? =some (.cells cs e .row)->b≠pb:=λb cs e hb hh=>by
   subst hh;rw[hL3.blk] at hb;simp[plB] at hb
  have hL4:LA H0 H4 pb rb q ev1 wv1 (.slice none 0 0):=⟨by rw[hH4];exact s5 r5 hL.lp,by rw[hH4];exact aMF (aMz.mp hL3.blk).1,by rw[other rb hL.ne];exact hL3.res,hL.ne,hL.lp,hL.lr⟩
  have he4:Ew H4 ev1 (xS t):=he3.fP λb hb=>by
   obtain⟨cs,hc⟩:=he3.blk hb;exact other b (nrow b cs _ hc)
  have hw4:Iw H4 wv1 ws:=r3.fP λb hb=>by
   obtain⟨cs,hc⟩:=r3.blk hb;exact other b (nrow b cs _ hc)
  rw[dS,Tq];simp -implicitDefEqProofs only[gsR,e];rw[aFQ];simp -implicitDefEqProofs only[gsR,l8,r1,r2,st];exact aG0 hr hg ht hm hm2 hqe (by rw[hqw];omega) (t.length+1) 0 m H4 (.slice none 0 0) [] (by omega) (by omega) (by omega) hL4 (by rw[hqe];exact he4) (by rw[hqw];exact hw4) Rw.lD (New.nB _) ⟨rfl,λj s xs h=>by simp at h⟩ ..
 |succ k0 ih=>
  intro v k H1 ev1 hq hi hk hL he1 hen;intros;obtain⟨k,rfl⟩: ∃n,k=n+1:=⟨k-1,by omega⟩
  have e:decide (((v+1:Nat):Int)<((t.length+1:Nat):Int))=true:=decide_eq_true (by omega)
  have e3:IntKind.i64.wrap (((v+1:Nat):Int)+1)=((v+1+1:Nat):Int):=by rw[dJ (by omega) (by omega)];omega
  have e4:IntKind.i64.wrap (((v+1:Nat):Int)-1)=((v:Nat):Int):=by rw[dJ (by omega) (by omega)];omega
  have l1:=eE hL.blk 1 _ rfl;obtain⟨x,hx⟩: ∃x,t[v]? =some x:=⟨_,aMB (by omega)⟩
  obtain⟨b,o,g1,_,g3⟩:=(ht.ext hL.ext).iQ gQ hx .i64;have g4:ld1 (.pointer (some ⟨b,o,none⟩)) H1=some (.int .i64 x,H1):=(g3 H1 rfl).2.1 0 _ rfl;have be:=bEd x ((v+1:Nat):Int);obtain⟨ev2,H2,H3,r1,r2,r3,r4,r5,r6,r7⟩:=zR (by':=16) (H0:=H0) (b:=pb) (j:=1) sY I6 (by decide) (x,((v+1:Nat):Int)) hL.blk (by show 1<11;omega) he1 hen hL.lp hL.ext (jI (n:=1000) (by decide) (by simp;omega))
  have hL3:LA H0 H3 pb rb q ev2 wv nv0:=⟨r5,r6,Ks r7 hL.res hL.ne,hL.ne,hL.lp,hL.lr⟩;rw[dS,Tq];simp -implicitDefEqProofs only[gsR,e,l1,gJ,e4,g1,g4,be,aFy,r1,r2,cH,e3];refine ih (v+1) k H3 ev2 (by omega) (by omega) (by omega) hL3 ?_ r4 ..
  rw[aM8,List.map_append];simp only[aM4,List.map_nil];rw[uI hx];exact r3
theorem aGX (hp:PV H p ev wv nv)(hwl:p.weights.length<=1000)(ht:Is H tv t)(hr:iL t=true)(h1:1<=t.length)(hm:600<m)(hm2:m<=72057594037927936):
  ∃H' r,lvl prog bY m (.func 83) [plV p ev wv nv,tv] H=some (r,H')/\Dk H (qG p t) H' r:=by
 have hg:=Uv hr h1;have h5:t.length<=5:=by
  unfold iL at hr;rw[aMH] at hr;have:=of_decide_eq_true hr.2;omega
 obtain⟨Ha,hHa⟩: ∃Ha,Ha=H++[plB p ev wv nv]:=⟨_,rfl⟩;have xa:Ext H Ha:=by rw[hHa];exact Fr.app _ _ _
 have ba:Ha[H.length]? =some (plB p ev wv nv):=by rw[hHa];exact fQ _ _
 obtain⟨Hb,hHb⟩: ∃Hb,Hb=Ha++[plZ]:=⟨_,rfl⟩;have xb:Ext Ha Hb:=by rw[hHb];exact Fr.app _ _ _
 have bb:Hb[Ha.length]? =some plZ:=by rw[hHb];exact fQ _ _
 have xab:=xa.tr xb;have hra:=Ur (ht.ext xab) (m:=m-1) (by omega) (by omega)
 rw[hr] at hra;have hlen:=(ht.ext xab).jQ;have d0:((t.length:Int)==0)=false:=by simp;exact λh=>by rw[h] at h1;simp at h1
 have e1:IntKind.i64.wrap ((t.length:Int)+1)=((t.length+1:Nat):Int):=by rw[dJ (by omega) (by omega)];omega
 have bpl:=fC ba xb;have s1:=C0 (q':={p with nodes:=((t.length+1:Nat):Int)}) (ev':=ev) (wv':=wv) (nv':=nv) (j:=0) (v:= .int .i64 (t.length+1:Nat)) bpl rfl rfl (by omega) rfl
 obtain⟨Hc,hHc⟩: ∃Hc,Hc=Hb.set H.length (plB {p with nodes:=((t.length+1:Nat):Int)} ev wv nv):=⟨_,rfl⟩;rw[<-hHc] at s1;have bc:Hc[H.length]? =some (plB {p with nodes:=((t.length+1:Nat):Int)} ev wv nv):=by rw[hHc];exact aMF (aMz.mp bpl).1
 have s2:=C0 (q':=qG p t) (ev':= .slice none 0 0) (wv':=wv) (nv':=nv) (j:=1) (v:= .slice none 0 0) bc rfl rfl (by omega) rfl
 obtain⟨Hd,hHd⟩: ∃Hd,Hd=Hc.set H.length (plB (qG p t) (.slice none 0 0) wv nv):=⟨_,rfl⟩;rw[<-hHd] at s2;have bd:Hd[H.length]? =some (plB (qG p t) (.slice none 0 0) wv nv):=by rw[hHd];exact aMF (aMz.mp bc).1
 have hne:Ha.length≠H.length:=by rw[hHa];simp
 have hL:LA H Hd H.length Ha.length (qG p t) (.slice none 0 0) wv nv:=by
  refine⟨?_,bd,?_,hne,aME _,xa.1⟩
  ·rw[hHd,hHc];exact s5 (s5 xab (aME _)) (aME _)
  ·rw[hHd,aMA (Ne.symm hne),hHc,aMA (Ne.symm hne)]
   exact bb
 refine iK (fR rfl rfl) (by omega) ?_
 rw[aFT];simp -implicitDefEqProofs only[gsR,kL,<-hHa,sB,<-hHb,hra,hlen,d0,cH,e1,s1,s2];have:=aGZ (q:=qG p t) (nv0:=nv) hr hg ht hp.w hwl (m:=m-1) (by omega) (by omega) rfl rfl t.length 0 (m-1) Hd (.slice none 0 0) (by omega) (by omega) (by omega) hL Rw.lD (New.nB _)
 exact this ..
end
end Go.Proofs.YtmimdleeihjdoaaGreatDoor
noncomputable section
namespace Go.Proofs.YtmimdleeihjdoaaGreatDoor
open Go.Proofs.Tryz
open Go.Abs
variable (O:aC)(L:LV)(k:KV)(N P Q R S T U V W X Y Z a b c d e f g i j l m n o p q r s t u v w x y z A B C D E F G H I J zz zy zx zw zv zu zt zs zr zq zp zo zn zm zl zk zj zi zh zg zf ze zd zc zb za yz yy yx yw yv yu yt ys yr yq yp yo yn ym yl yk yj yi yh yg yf ye yd yc yb ya xz xy xx xw xv xu xt xs xr xq xp xo xn xm xl xk xj xi xh xg xf xe xd xc xb xa wz wy wx ww wv wu wt ws wr wq wp wo wn wm wl wk wj wi wh wg wf we wd wc wb wa vz:Value)(h:aA)
def Lm:Code:=bU [1,1,1,1,0,1,0,0,1,1,0,0,1,1,0,1,0,0] (b9 prog 36)
def Lq:KV:=(dO 2 (eC prog O L (bU [1,1,1,1,0,1,0,0,1,1,0,0,1,1,1] (b9 prog 36)) (dO 1 (eC prog O L (bU [1,1,1,1,0,1,0,0,1,1,1] (b9 prog 36)) k))))
def Lo (O:aC)(L:LV) (k:KV) (a b c d e f g i j l m n o p q r s t u v w x y z A B C D E F G H I J zz zy zx zw zv zu zt zs zr zq zp zo zn zm zl zk zj zi zh zg zf ze zd zc zb za yz yy yx yw yv yu yt ys yr yq yp yo yn ym yl yk yj yi yh yg yf ye yd yc yb ya xz xy xx xw xv xu xt xs xr xq xp xo xn xm xl xk xj xi xh xg xf xe xd xc xb xa wz wy wx ww wv wu wt ws wr wq wp wo:Value) (h:aA):OV:=ob (M.aB (aK f) h) λaa h=>ob (M.aB (aE 13 aa) h) λab h=>ob (ld1 ab h) λac h=>ifB (true) (ob (ldN 3 j h) λad h=>ifB (true) (ob (dL 167 3 1 [(.int .i64 0),(.slice none 0 0),(.pointer none)] [(0,ad)] h) λae h=>ob (app 167 3 40 ac ae h) λaf h=>ifB (true) (ob (M.aB (aK f) h) λag h=>ob (M.aB (aE 13 ag) h) λah h=>ob (stN 1 ah af h) λai h=>ifB (true) (ob (M.aB (bin prog .add 3 zk (.int .i64 1)) h) λaj h=>k .normal [a,b,c,d,e,f,g,i,j,l,m,n,o,p,q,r,s,t,u,v,w,x,y,z,A,B,C,D,E,F,G,H,I,J,zz,zy,zx,zw,zv,zu,zt,zs,zr,zq,zp,zo,zn,zm,zl,aj,zj,zi,zh,zg,zf,ze,zd,zc,zb,za,yz,yy,yx,yw,yv,yu,yt,ys,yr,yq,yp,yo,yn,ym,yl,yk,yj,yi,yh,yg,yf,f,f,aa,ab,ac,ad,ae,af,ag,ah,aj,xt,xs,xr,xq,xp,xo,xn,xm,xl,xk,xj,xi,xh,xg,xf,xe,xd,xc,xb,xa,wz,wy,wx,ww,wv,wu,wt,ws,wr,wq,wp,wo] h))))
theorem aHU:Lq O L k (.exit 2) [a,b,c,d,e,f,g,i,j,l,m,n,o,p,q,r,s,t,u,v,w,x,y,z,A,B,C,D,E,F,G,H,I,J,zz,zy,zx,zw,zv,zu,zt,zs,zr,zq,zp,zo,zn,zm,zl,zk,zj,zi,zh,zg,zf,ze,zd,zc,zb,za,yz,yy,yx,yw,yv,yu,yt,ys,yr,yq,yp,yo,yn,ym,yl,yk,yj,yi,yh,yg,yf,ye,yd,yc,yb,ya,xz,xy,xx,xw,xv,xu,xt,xs,xr,xq,xp,xo,xn,xm,xl,xk,xj,xi,xh,xg,xf,xe,xd,xc,xb,xa,wz,wy,wx,ww,wv,wu,wt,ws,wr,wq,wp,wo] h=Lo O L k a b c d e f g i j l m n o p q r s t u v w x y z A B C D E F G H I J zz zy zx zw zv zu zt zs zr zq zp zo zn zm zl zk zj zi zh zg zf ze zd zc zb za yz yy yx yw yv yu yt ys yr yq yp yo yn ym yl yk yj yi yh yg yf ye yd yc yb ya xz xy xx xw xv xu xt xs xr xq xp xo xn xm xl xk xj xi xh xg xf xe xd xc xb xa wz wy wx ww wv wu wt ws wr wq wp wo h:=by kernel_rfl
theorem Vc:aI prog O L Lm k [a,b,c,d,e,f,g,i,j,l,m,n,o,p,q,r,s,t,u,v,w,x,y,z,A,B,C,D,E,F,G,H,I,J,zz,zy,zx,zw,zv,zu,zt,zs,zr,zq,zp,zo,zn,zm,zl,zk,zj,zi,zh,zg,zf,ze,zd,zc,zb,za,yz,yy,yx,yw,yv,yu,yt,ys,yr,yq,yp,yo,yn,ym,yl,yk,yj,yi,yh,yg,yf,ye,yd,yc,yb,ya,xz,xy,xx,xw,xv,xu,xt,xs,xr,xq,xp,xo,xn,xm,xl,xk,xj,xi,xh,xg,xf,xe,xd,xc,xb,xa,wz,wy,wx,ww,wv,wu,wt,ws,wr,wq,wp,wo] h=ob (M.aB (bin prog .lss 3 yz za) h) λaa h74=>aJ aa (ob (M.aB (aE 1 j) h74) λab h75=>ob (ld1 ab h75) λac h76=>ifB (true) (ob (M.aB (aE 9 c) h76) λad h77=>ob (ld1 ad h77) λae h78=>ifB (true) (ob (dI prog 23 83 ae h78) λaf h79=>ob (M.aB (aE 3 c) h79) λag h80=>ob (ld1 ag h80) λah h81=>ifB (true) (ob (O (.func 89) [af,ah] h81) λai h82=>ifB (chk ((ld1 ab) h82) ac&&(true)) (ob (M.aB (aE 9 c) h82) λaj h83=>ob (ld1 aj h83) λak h84=>ifB (chk ((ld1 aj) h81) ak&&(true)) (ob (dI prog 23 83 ak h84) λal h85=>ob (M.aB (aE 3 c) h85) λam h86=>ob (ld1 am h86) λan h87=>ifB (chk ((ld1 am) h81) an&&(true)) (ob (O (.func 90) [al,an] h87) λao h88=>ifB (chk ((ld1 ab) h88) ac&&(true)) (ob (M.aB (bld prog 172 [(0,ai),(1,ao)]) h88) λap h89=>ob (dL 172 2 1 [(.pointer none),(.pointer none)] [(0,ap)] h89) λaq h90=>ob (app 172 2 16 ac aq h90) λar h91=>ifB (true) (ob (M.aB (aE 1 j) h91) λau h92=>ob (stN 1 au ar h92) λav h93=>ifB (true) (ob (M.aB (bin prog .add 3 yz (.int .i64 1)) h93) λaw h94=>k .normal [a,b,c,d,e,f,g,i,j,l,m,n,o,p,q,r,s,t,u,v,w,x,y,z,A,B,C,D,E,F,G,H,I,J,zz,zy,zx,zw,zv,zu,zt,zs,zr,zq,zp,zo,zn,zm,zl,zk,zj,zi,zh,zg,zf,ze,zd,zc,zb,za,aw,aa,ab,ac,ad,ae,af,ag,ah,ai,aj,ak,al,am,an,ao,ap,aq,ar,au,aw,ye,yd,yc,yb,ya,xz,xy,xx,xw,xv,xu,xt,xs,xr,xq,xp,xo,xn,xm,xl,xk,xj,xi,xh,xg,xf,xe,xd,xc,xb,xa,wz,wy,wx,ww,wv,wu,wt,ws,wr,wq,wp,wo] h94)))))))))) (k (.exit 2) [a,b,c,d,e,f,g,i,j,l,m,n,o,p,q,r,s,t,u,v,w,x,y,z,A,B,C,D,E,F,G,H,I,J,zz,zy,zx,zw,zv,zu,zt,zs,zr,zq,zp,zo,zn,zm,zl,zk,zj,zi,zh,zg,zf,ze,zd,zc,zb,za,yz,aa,yx,yw,yv,yu,yt,ys,yr,yq,yp,yo,yn,ym,yl,yk,yj,yi,yh,yg,yf,ye,yd,yc,yb,ya,xz,xy,xx,xw,xv,xu,xt,xs,xr,xq,xp,xo,xn,xm,xl,xk,xj,xi,xh,xg,xf,xe,xd,xc,xb,xa,wz,wy,wx,ww,wv,wu,wt,ws,wr,wq,wp,wo] h74):=by kernel_rfl
def Ll:Code:=bU [1,1,1,1,0,1,0,0] (b9 prog 36)
def Lp:KV:=(dO 0 (eC prog O L (bU [1,1,1,1,1] (b9 prog 36)) (eG prog Tryz.f36)))
def Ln (O:aC)(L:LV) (a b c d e f g i j l m n o p q r s t u v w x y z A B C D E F G H I J zz zy zx zw zv zu zt zs zr zq zp zo zn zm zl zk zj zi zh zg zf ze zd zc zb za yz yy yx yw yv yu yt ys yr yq yp yo yn ym yl yk yj yi yh yg yf ye yd yc yb ya xz xy xx xw xv xu xt xs xr xq xp xo xn xm xl xk xj xi xh xg xf xe xd xc xb xa wz wy wx ww wv wu wt ws wr wq wp wo:Value) (h:aA):OV:=ob (M.aB (aK f) h) λaa h=>ob (M.aB (aE 13 aa) h) λab h=>ob (ld1 ab h) λac h=>ob (M.aB (bJ ac) h) λad h=>ob (O (.func 91) [ad] h) λae h=>ob (M.aB (aK f) h) λaf h=>ob (M.aB (aE 0 af) h) λag h=>ob (stN 1 ag ae h) λah h=>ob (M.aB (aK f) h) λai h=>ob (M.aB (aE 13 ai) h) λaj h=>ob (ld1 aj h) λak h=>ifB (true) (ob (M.aB (bJ ak) h) λal h=>ob (M.aB (aE 2 c) h) λam h=>ob (ld1 am h) λan h=>ifB (true) (ob (M.aB (aK f) h) λao h=>ob (M.aB (aE 13 ao) h) λap h=>ob (ld1 ap h) λaq h=>ifB (true) (ob (M.aB (bJ aq) h) λar h=>ob (M.aB (aE 2 c) h) λau h=>ob (ld1 au h) λav h=>ifB (true) (ob (M.aB (bin prog .mul 3 ar av) h) λaw h=>ob (M.aB (aE 3 c) h) λax h=>ob (ld1 ax h) λay h=>ifB (true) (ob (M.aB (bin prog .mul 3 aw ay) h) λaz h=>ob (O (.func 92) [al,an,az] h) λba h=>ifB (true) (ob (M.aB (aK f) h) λbb h=>ob (M.aB (aE 15 bb) h) λbc h=>ob (stN 1 bc ba h) λbd h=>ifB (true) (some (aG [f],h))))))))
theorem aHT:Lp O L (.exit 0) [a,b,c,d,e,f,g,i,j,l,m,n,o,p,q,r,s,t,u,v,w,x,y,z,A,B,C,D,E,F,G,H,I,J,zz,zy,zx,zw,zv,zu,zt,zs,zr,zq,zp,zo,zn,zm,zl,zk,zj,zi,zh,zg,zf,ze,zd,zc,zb,za,yz,yy,yx,yw,yv,yu,yt,ys,yr,yq,yp,yo,yn,ym,yl,yk,yj,yi,yh,yg,yf,ye,yd,yc,yb,ya,xz,xy,xx,xw,xv,xu,xt,xs,xr,xq,xp,xo,xn,xm,xl,xk,xj,xi,xh,xg,xf,xe,xd,xc,xb,xa,wz,wy,wx,ww,wv,wu,wt,ws,wr,wq,wp,wo] h=Ln O L a b c d e f g i j l m n o p q r s t u v w x y z A B C D E F G H I J zz zy zx zw zv zu zt zs zr zq zp zo zn zm zl zk zj zi zh zg zf ze zd zc zb za yz yy yx yw yv yu yt ys yr yq yp yo yn ym yl yk yj yi yh yg yf ye yd yc yb ya xz xy xx xw xv xu xt xs xr xq xp xo xn xm xl xk xj xi xh xg xf xe xd xc xb xa wz wy wx ww wv wu wt ws wr wq wp wo h:=by kernel_rfl
theorem Vb:aI prog O L Ll k [a,b,c,d,e,f,g,i,j,l,m,n,o,p,q,r,s,t,u,v,w,x,y,z,A,B,C,D,E,F,G,H,I,J,zz,zy,zx,zw,zv,zu,zt,zs,zr,zq,zp,zo,zn,zm,zl,zk,zj,zi,zh,zg,zf,ze,zd,zc,zb,za,yz,yy,yx,yw,yv,yu,yt,ys,yr,yq,yp,yo,yn,ym,yl,yk,yj,yi,yh,yg,yf,ye,yd,yc,yb,ya,xz,xy,xx,xw,xv,xu,xt,xs,xr,xq,xp,xo,xn,xm,xl,xk,xj,xi,xh,xg,xf,xe,xd,xc,xb,xa,wz,wy,wx,ww,wv,wu,wt,ws,wr,wq,wp,wo] h=ob (M.aB (bin prog .lss 3 zk zl) h) λaa h=>aJ aa (ob (M.aB (aQ 1 zm zk) h) λab h=>ob (ld1 ab h) λac h=>ob (M.aB (aE 8 c) h) λad h=>ob (ld1 ad h) λae h=>ob (O (.func 87) [ae] h) λaf h=>ob (M.aB (bld prog 167 [(0,ac),(2,af)]) h) λag h=>ob (cL 167 [(.int .i64 0),(.slice none 0 0),(.pointer none)] .fix h) λah h=>ob (stN 3 ah ag h) λai h=>ob (M.aB (aE 2 c) h) λaj h=>ob (ld1 aj h) λak h=>L (aI prog O L Lm) (Lq O L k) [a,b,c,d,e,f,g,ac,ah,l,m,n,o,p,q,r,s,t,u,v,w,x,y,z,A,B,C,D,E,F,G,H,I,J,zz,zy,zx,zw,zv,zu,zt,zs,zr,zq,zp,zo,zn,zm,zl,zk,aa,ab,ac,ac,ad,ae,af,ag,aj,ak,(.int .i64 0),yy,yx,yw,yv,yu,yt,ys,yr,yq,yp,yo,yn,ym,yl,yk,yj,yi,yh,yg,yf,ye,yd,yc,yb,ya,xz,xy,xx,xw,xv,xu,xt,xs,xr,xq,xp,xo,xn,xm,xl,xk,xj,xi,xh,xg,xf,xe,xd,xc,xb,xa,wz,wy,wx,ww,wv,wu,wt,ws,wr,wq,wp,wo] h) (k (.exit 0) [a,b,c,d,e,f,g,i,j,l,m,n,o,p,q,r,s,t,u,v,w,x,y,z,A,B,C,D,E,F,G,H,I,J,zz,zy,zx,zw,zv,zu,zt,zs,zr,zq,zp,zo,zn,zm,zl,zk,aa,zi,zh,zg,zf,ze,zd,zc,zb,za,yz,yy,yx,yw,yv,yu,yt,ys,yr,yq,yp,yo,yn,ym,yl,yk,yj,yi,yh,yg,yf,ye,yd,yc,yb,ya,xz,xy,xx,xw,xv,xu,xt,xs,xr,xq,xp,xo,xn,xm,xl,xk,xj,xi,xh,xg,xf,xe,xd,xc,xb,xa,wz,wy,wx,ww,wv,wu,wt,ws,wr,wq,wp,wo] h):=by kernel_rfl
theorem Vd:bX prog O L 36 [N,P] h=ob (cL 40 (Value.cells N).toList .fix h) λaa h=>ob (ldN 11 aa h) λab h=>ob (O (.func 85) [ab] h) λac h=>ob (M.aB (bin prog .neq 60 ac (.int .u16 0)) h) λad h=>ob (gd ad false (M.cB P) h) λae h=>ob (gd ad false (M.aB (bin prog .lss 3 ae (.int .i64 0))) h) λaf h=>ob (M.aB (cJ ad (.bool true) af) h) λag h=>ob (gd ag false (M.cB P) h) λah h=>ob (gd ag false (M.aB (aE 0 aa)) h) λai h=>ob (gd ag false (ld1 ai) h) λaj h=>ob (gd ag false (M.aB (bin prog .geq 3 ah aj)) h) λak h=>ob (M.aB (cJ ag (.bool true) ak) h) λal h=>aJ al (some (aG [(.pointer none)],h)) (ob (ldN 11 aa h) λam h=>ifB (true) (ob (M.aB (aE 2 aa) h) λan h=>ob (ld1 an h) λao h=>ifB (true) (ob (M.aB (aE 4 aa) h) λap h=>ob (ld1 ap h) λaq h=>ifB (true) (ob (O (.func 86) [ao,aq] h) λar h=>ifB (chk ((ldN 11 aa) h) am&&(true)) (ob (M.aB (bld prog 162 [(1,am),(2,P),(4,ar)]) h) λau h=>ob (cL 162 (Value.cells au).toList .fix h) λav h=>ob (M.aB (aK av) h) λaw h=>ob (M.aB (aE 13 aw) h) λax h=>ob (ld1 ax h) λay h=>ifB (true) (ob (M.aB (aE 8 aa) h) λaz h=>ob (ld1 az h) λba h=>ifB (true) (ob (O (.func 87) [ba] h) λbb h=>ifB (chk ((ld1 ax) h) ay&&(true)) (ob (M.aB (bld prog 167 [(0,P),(2,bb)]) h) λbc h=>ob (dL 167 3 1 [(.int .i64 0),(.slice none 0 0),(.pointer none)] [(0,bc)] h) λbd h=>ob (app 167 3 40 ay bd h) λbe h=>ifB (true) (ob (M.aB (aK av) h) λbf h=>ob (M.aB (aE 13 bf) h) λbg h=>ob (stN 1 bg be h) λbh h=>ifB (true) (ob (ldN 11 aa h) λbi h=>ob (O (.func 88) [bi,P] h) λbj h=>ob (M.aB (bJ bj) h) λbk h=>L (aI prog O L Ll) (Lp O L) [N,P,aa,undef,(.pointer none),av,undef,undef,undef,ab,ac,ad,ad,ae,af,ag,ag,ah,ai,aj,ak,al,am,P,an,ao,ap,aq,ar,au,av,av,av,aw,ax,ay,P,az,ba,bb,bc,bd,be,bf,bg,bi,P,bj,bk,(.int .i64 0),undef,undef,undef,undef,undef,undef,undef,undef,undef,undef,undef,undef,undef,undef,undef,undef,undef,undef,undef,undef,undef,undef,undef,undef,undef,undef,undef,undef,undef,undef,undef,undef,undef,undef,undef,undef,undef,undef,undef,undef,undef,undef,undef,undef,undef,undef,undef,undef,undef,undef,undef,undef,undef,undef,undef,undef,undef,undef,undef,undef,undef,undef,undef,undef,undef,undef,undef,undef,undef,undef,undef,undef,undef,undef] h)))))))))):=by kernel_rfl
theorem Ve:bX prog O L 38 [N,P] h=ob (cL 31 (Value.cells P).toList .fix h) λaa h=>ob (M.aB (aE 0 aa) h) λab h=>ob (ld1 ab h) λac h=>ifB (true) (ob (M.aB (aK N) h) λad h=>ob (M.aB (aE 12 ad) h) λae h=>ob (ld1 ae h) λaf h=>ifB (true) (ob (M.aB (bin prog .neq 3 ac af) h) λag h=>ob (gd ag false (M.aB (aE 1 aa)) h) λah h=>ob (gd ag false (ld1 ah) h) λai h=>ifB (true) (ob (gd ag false (M.aB (bin prog .lss 3 ai (.int .i64 0))) h) λaj h=>ob (M.aB (cJ ag (.bool true) aj) h) λak h=>ob (gd ak false (M.aB (aE 1 aa)) h) λal h=>ob (gd ak false (ld1 al) h) λam h=>ifB (true) (ob (gd ak false (M.cB N) h) λan h=>ob (gd ak false (M.aB (aK an)) h) λao h=>ob (gd ak false (M.aB (aE 1 ao)) h) λap h=>ob (gd ak false (M.aB (aE 0 ap)) h) λaq h=>ob (gd ak false (ld1 aq) h) λar h=>ifB (true) (ob (gd ak false (M.aB (bin prog .geq 3 am ar)) h) λau h=>ob (M.aB (cJ ak (.bool true) au) h) λav h=>ob (gd av false (M.aB (aE 1 aa)) h) λaw h=>ob (gd av false (ld1 aw) h) λax h=>ifB (true) (ob (gd av false (M.cB N) h) λay h=>ob (gd av false (M.aB (aK ay)) h) λaz h=>ob (gd av false (M.aB (aE 12 az)) h) λba h=>ob (gd av false (ld1 ba) h) λbb h=>ifB (true) (ob (gd av false (M.aB (bin prog .eql 3 ax bb)) h) λbc h=>ob (M.aB (cJ av (.bool true) bc) h) λbd h=>aJ bd (some (aG [(.int .u16 1)],h)) (ob (M.aB (aK N) h) λbe h=>ob (M.aB (aE 14 be) h) λbf h=>ob (ld1 bf h) λbg h=>ifB (true) (ob (ldN 4 aa h) λbh h=>ifB (true) (ob (O (.func 94) [bg,bh] h) λbi h=>ifB (true) (some (aG [bi],h)))))))))))):=by kernel_rfl
theorem aHV:bX prog O L 39 [N] h=ob (M.aB (aK N) h) λaa h=>ob (M.aB (aE 14 aa) h) λab h=>ob (ld1 ab h) λac h=>some (aG [ac],h):=by kernel_rfl
theorem aHW:bX prog O L 40 [N,P] h=ob (O (.func 95) [N,P] h) λaa h=>ob (M.aB (un prog .not aa) h) λab h=>aJ ab (some (aG [(.int .i64 0)],h)) (ob (M.aB (aK N) h) λac h=>ob (M.aB (aE 0 ac) h) λad h=>ob (M.aB (pW 3 1 ad P) h) λae h=>ob (ld1 ae h) λaf h=>ob (M.aB (bJ af) h) λag h=>some (aG [ag],h)):=by kernel_rfl
def Lr:Code:=bU [1,1,1,1,0,1,0,0] (b9 prog 41)
def Ls:KV:=(dO 0 (eC prog O L (bU [1,1,1,1,1] (b9 prog 41)) (eG prog Tryz.f41)))
def Dp (O:aC)(L:LV) (a b c d e f g i j l m n o p q r s t u v w x y z A B C D E F G H I J zz zy zx zw zv zu zt zs zr zq zp zo zn zm zl zk zj zi zh zg zf ze zd zc:Value) (h:aA):OV:=ob (ld1 b h) λaa h=>ob (M.aB (aK aa) h) λab h=>ob (M.aB (aE 16 ab) h) λac h=>ob (ld1 ac h) λad h=>ob (M.aB (bin prog .add 3 ad (.int .i64 1)) h) λae h=>ob (M.aB (aK aa) h) λaf h=>ob (M.aB (aE 16 af) h) λag h=>ob (stN 1 ag ae h) λah h=>ob (ld1 b h) λai h=>ifB (true) (ob (M.aB (aK ai) h) λaj h=>ob (M.aB (aE 16 aj) h) λak h=>ob (ld1 ak h) λal h=>ifB (true) (ob (ld1 b h) λam h=>ifB (true) (ob (M.aB (aK am) h) λan h=>ob (M.aB (aE 1 an) h) λao h=>ob (M.aB (aE 6 ao) h) λap h=>ob (ld1 ap h) λaq h=>ifB (true) (ob (M.aB (bin prog .rem 3 al aq) h) λar h=>ob (M.aB (bin prog .eql 3 ar (.int .i64 0)) h) λau h=>aJ au (ob (ld1 b h) λav h=>ob (O (.func 102) [av,e] h) λaw h=>ob (ld1 d h) λax h=>some (aG [ax],h)) (ob (ld1 d h) λay h=>some (aG [ay],h))))))
theorem aHX:Ls O L (.exit 0) [a,b,c,d,e,f,g,i,j,l,m,n,o,p,q,r,s,t,u,v,w,x,y,z,A,B,C,D,E,F,G,H,I,J,zz,zy,zx,zw,zv,zu,zt,zs,zr,zq,zp,zo,zn,zm,zl,zk,zj,zi,zh,zg,zf,ze,zd,zc] h=Dp O L a b c d e f g i j l m n o p q r s t u v w x y z A B C D E F G H I J zz zy zx zw zv zu zt zs zr zq zp zo zn zm zl zk zj zi zh zg zf ze zd zc h:=by kernel_rfl
theorem Vf:aI prog O L Lr k [a,b,c,d,e,f,g,i,j,l,m,n,o,p,q,r,s,t,u,v,w,x,y,z,A,B,C,D,E,F,G,H,I,J,zz,zy,zx,zw,zv,zu,zt,zs,zr,zq,zp,zo,zn,zm,zl,zk,zj,zi,zh,zg,zf,ze,zd,zc] h=ob (M.aB (bin prog .lss 3 z y) h) λaa h=>aJ aa (ob (M.aB (aQ 1 x z) h) λab h=>ob (ld1 ab h) λac h=>ob (M.aB (bin prog .geq 3 ac (.int .i64 0)) h) λad h=>aJ ad (ob (ld1 b h) λae h=>ob (O (.func 101) [ae,z,ac,e] h) λaf h=>ob (M.aB (bin prog .add 3 z (.int .i64 1)) h) λag h=>k .normal [a,b,c,d,e,z,ac,i,j,l,m,n,o,p,q,r,s,t,u,v,w,x,y,ag,aa,z,ab,ac,ac,ad,ae,z,ac,e,af,ag,zx,zw,zv,zu,zt,zs,zr,zq,zp,zo,zn,zm,zl,zk,zj,zi,zh,zg,zf,ze,zd,zc] h) (ob (M.aB (bin prog .add 3 z (.int .i64 1)) h) λah h=>k .normal [a,b,c,d,e,z,ac,i,j,l,m,n,o,p,q,r,s,t,u,v,w,x,y,ah,aa,z,ab,ac,ac,ad,G,H,I,J,zz,ah,zx,zw,zv,zu,zt,zs,zr,zq,zp,zo,zn,zm,zl,zk,zj,zi,zh,zg,zf,ze,zd,zc] h)) (k (.exit 0) [a,b,c,d,e,f,g,i,j,l,m,n,o,p,q,r,s,t,u,v,w,x,y,z,aa,B,C,D,E,F,G,H,I,J,zz,zy,zx,zw,zv,zu,zt,zs,zr,zq,zp,zo,zn,zm,zl,zk,zj,zi,zh,zg,zf,ze,zd,zc] h):=by kernel_rfl
theorem aHY:bX prog O L 41 [N] h=ob (cL 58 (Value.cells N).toList .fix h) λaa h0=>ob (cL 68 [(.slice none 0 0)] .fix h0) λab h1=>ob (ld1 aa h1) λac h2=>ob (O (.func 98) [ac] h2) λad h3=>ob (ld1 aa h3) λae h4=>ifB (true) (ob (M.aB (aK ae) h4) λaf h5=>ob (M.aB (aE 0 af) h5) λag h6=>ob (ld1 ag h6) λah h7=>ifB (true) (ob (ld1 aa h7) λai h8=>ifB (true) (ob (O (.func 100) [ai] h8) λaj h9=>ifB (chk ((ld1 ag) h9) ah&&(chk ((ld1 aa) h9) ae&&(true))) (ob (ld1 aa h9) λak h10=>ifB (chk ((ld1 aa) h8) ak&&(true)) (ob (M.aB (aK ak) h10) λal h11=>ob (M.aB (aE 1 al) h11) λam h12=>ob (M.aB (aE 5 am) h12) λan h13=>ob (ld1 an h13) λao h14=>ifB (chk ((ld1 an) h8) ao&&(true)) (ob (O (.func 99) [ah,aj,ao] h14) λap h15=>ifB (true) (ob (M.aB (bJ ap) h15) λaq h16=>L (aI prog O L Lr) (Ls O L) [N,aa,(.slice none 0 0),ab,(.func (.func 96) #[] #[ab,aa]),undef,undef,(.func (.func 96) #[] #[ab,aa]),ac,ad,ae,af,ag,ah,ai,aj,ak,al,am,an,ao,ap,aq,(.int .i64 0),undef,undef,undef,undef,undef,undef,undef,undef,undef,undef,undef,undef,undef,undef,undef,undef,undef,undef,undef,undef,undef,undef,undef,undef,undef,undef,undef,undef,undef,undef,undef,undef,undef,undef] h16))))))):=by kernel_rfl
theorem Vg:bX prog O L 46 [N,P,Q] h=ob (O (.func 111) [N,P,Q] h) λaa h=>ob (M.aB (ext 0 aa) h) λab h=>ob (M.aB (ext 1 aa) h) λac h=>ob (cL 172 [(.pointer none),(.pointer none)] .fix h) λad h=>ob (stN 2 ad ab h) λae h=>ob (M.aB (aE 0 ad) h) λaf h=>ob (ld1 af h) λag h=>some (aG [ag],h):=by kernel_rfl
theorem aHZ:bX prog O L 47 [N] h=ob (M.aB (aK N) h) λaa h=>ob (M.aB (aE 0 aa) h) λab h=>ob (M.aB (aE 0 ab) h) λac h=>ob (ld1 ac h) λad h=>some (aG [ad],h):=by kernel_rfl
theorem xU:bX prog O L 49 [N,P,Q] h=ob (cL 3 (Value.cells P).toList .fix h) λaa h=>ob (M.aB (aK N) h) λab h=>ob (M.aB (aE 13 ab) h) λac h=>ob (ld1 ac h) λad h=>ob (slc prog 3 ad (some (.int .i64 1)) none none h) λae h=>ob (O (.func 114) [ae,(.func (.func 115) #[] #[aa])] h) λaf h=>ob (M.aB (bin prog .add 3 af (.int .i64 1)) h) λag h=>ob (M.aB (bin prog .eql 3 ag (.int .i64 0)) h) λah h=>aJ ah (some (aG [(.int .u16 1)],h)) (ob (O (.func 116) [Q] h) λai h=>ob (M.aB (ext 0 ai) h) λaj h=>ob (M.aB (ext 1 ai) h) λak h=>ob (cL 71 [(.int .u8 0),(.int .u8 0),(.int .u16 0),(.int .u8 0),(.int .u8 0),(.int .u32 0)] .fix h) λal h=>ob (stN 6 al aj h) λam h=>ob (M.aB (bin prog .neq 60 ak (.int .u16 0)) h) λan h=>aJ an (some (aG [ak],h)) (ob (M.aB (aE 1 al) h) λao h=>ob (ld1 ao h) λap h=>ob (dI prog 5 3 ap h) λaq h=>ob (O (.func 111) [N,ag,aq] h) λar h=>ob (M.aB (ext 0 ar) h) λau h=>ob (M.aB (ext 1 ar) h) λav h=>ob (cL 172 [(.pointer none),(.pointer none)] .fix h) λaw h=>ob (stN 2 aw au h) λax h=>ob (M.aB (un prog .not av) h) λay h=>aJ ay (some (aG [(.int .u16 30)],h)) (ob (M.aB (aE 0 al) h) λaz h=>ob (ld1 az h) λba h=>ob (M.aB (bin prog .eql 5 ba (.int .u8 2)) h) λbb h=>aJ bb (ob (M.aB (aE 0 aw) h) λbc h=>ob (ld1 bc h) λbd h=>ob (M.aB (aE 2 al) h) λbe h=>ob (ld1 be h) λbf h=>ob (O (.func 117) [bd,bf] h) λbg h=>some (aG [(.int .u16 0)],h)) (ob (M.aB (aE 0 al) h) λbh h=>ob (ld1 bh h) λbi h=>ob (M.aB (bin prog .eql 5 bi (.int .u8 3)) h) λbj h=>aJ bj (ob (M.aB (aE 1 aw) h) λbk h=>ob (ld1 bk h) λbl h=>ob (M.aB (aE 2 al) h) λbm h=>ob (ld1 bm h) λbn h=>ob (O (.func 118) [bl,bn] h) λbo h=>some (aG [(.int .u16 0)],h)) (ob (ldN 2 aw h) λbp h=>ob (ldN 6 al h) λbq h=>ob (O (.func 119) [N,ag,bp,bq] h) λbr h=>some (aG [br],h)))))):=by kernel_rfl
theorem aH0:bX prog O L 50 [N] h=ob (M.aB (aK N) h) λaa h=>ob (M.aB (aE 0 aa) h) λab h=>ob (ldN 2 ab h) λac h=>ob (O (.func 120) [ac] h) λad h=>some (aG [ad],h):=by kernel_rfl
theorem aH1:bX prog O L 52 [N] h=ob (M.aB (aK N) h) λaa h=>ob (M.aB (aE 3 aa) h) λab h=>ob (ld1 ab h) λac h=>ob (O (.func 121) [ac] h) λad h=>some (aG [ad],h):=by kernel_rfl
theorem aH2:bX prog O L 55 [N,P,Q] h=ob (O (.func 111) [N,P,Q] h) λaa h=>ob (M.aB (ext 0 aa) h) λab h=>ob (M.aB (ext 1 aa) h) λac h=>ob (cL 172 [(.pointer none),(.pointer none)] .fix h) λad h=>ob (stN 2 ad ab h) λae h=>ob (M.aB (aE 1 ad) h) λaf h=>ob (ld1 af h) λag h=>some (aG [ag],h):=by kernel_rfl
theorem aH3:bX prog O L 86 [N,P] h=ob (M.aB (bin prog .lss 3 N (.int .i64 1)) h) λaa h=>ob (gd aa false (M.cB N) h) λab h=>ob (gd aa false (M.aB (bin prog .gtr 3 ab (.int .i64 3))) h) λac h=>ob (M.aB (cJ aa (.bool true) ac) h) λad h=>ob (gd ad false (M.cB P) h) λae h=>ob (gd ad false (M.aB (bin prog .lss 3 ae (.int .i64 1))) h) λaf h=>ob (M.aB (cJ ad (.bool true) af) h) λag h=>ob (gd ag false (M.cB P) h) λah h=>ob (gd ag false (M.aB (bin prog .gtr 3 ah (.int .i64 8))) h) λai h=>ob (M.aB (cJ ag (.bool true) ai) h) λaj h=>aJ aj (some (aG [(.pointer none)],h)) (ob (M.aB (bld prog 178 [(2,N),(3,P)]) h) λak h=>ob (cL 178 (Value.cells ak).toList .fix h) λal h=>some (aG [al],h)):=by kernel_rfl
theorem aH4:bX prog O L 89 [N,P] h=ob (M.aB (bin prog .geq 83 N (.int .u64 4611686018427387904)) h) λaa h=>ob (gd aa false (M.cB P) h) λab h=>ob (gd aa false (M.aB (bin prog .lss 3 ab (.int .i64 1))) h) λac h=>ob (M.aB (cJ aa (.bool true) ac) h) λad h=>ob (gd ad false (M.cB P) h) λae h=>ob (gd ad false (M.aB (bin prog .gtr 3 ae (.int .i64 8))) h) λaf h=>ob (M.aB (cJ ad (.bool true) af) h) λag h=>aJ ag (some (aG [(.pointer none)],h)) (ob (dI prog 3 83 P h) λah h=>ob (M.aB (bin prog .add 83 N ah) h) λai h=>ob (M.aB (bld prog 202 [(0,N),(1,ai)]) h) λaj h=>ob (M.aB (bld prog 204 [(0,aj)]) h) λak h=>ob (cL 204 (Value.cells ak).toList .fix h) λal h=>some (aG [al],h)):=by kernel_rfl
theorem aH5:bX prog O L 90 [N,P] h=ob (M.aB (bin prog .geq 83 N (.int .u64 4611686018427387904)) h) λaa h=>ob (gd aa false (M.cB P) h) λab h=>ob (gd aa false (M.aB (bin prog .lss 3 ab (.int .i64 1))) h) λac h=>ob (M.aB (cJ aa (.bool true) ac) h) λad h=>ob (gd ad false (M.cB P) h) λae h=>ob (gd ad false (M.aB (bin prog .gtr 3 ae (.int .i64 8))) h) λaf h=>ob (M.aB (cJ ad (.bool true) af) h) λag h=>aJ ag (some (aG [(.pointer none)],h)) (ob (M.aB (bld prog 225 [(0,N),(2,P)]) h) λah h=>ob (cL 225 (Value.cells ah).toList .fix h) λai h=>some (aG [ai],h)):=by kernel_rfl
theorem aH6:bX prog O L 91 [N] h=ob (M.aB (bin prog .lss 3 N (.int .i64 1)) h) λaa h=>ob (gd aa false (M.cB N) h) λab h=>ob (gd aa false (M.aB (bin prog .gtr 3 ab (.int .i64 16))) h) λac h=>ob (M.aB (cJ aa (.bool true) ac) h) λad h=>aJ ad (some (aG [(.pointer none)],h)) (ob (kF 3 1 8 [(.int .i64 0)] N N h) λae h=>ob (kF 3 1 8 [(.int .i64 0)] N N h) λaf h=>ob (M.aB (bld prog 269 [(0,ae),(1,af)]) h) λag h=>ob (cL 269 (Value.cells ag).toList .fix h) λah h=>some (aG [ah],h)):=by kernel_rfl
theorem aH7:bX prog O L 93 [N] h=ob (M.aB (aK N) h) λaa h=>ob (M.aB (aE 15 aa) h) λab h=>ob (ld1 ab h) λac h=>some (aG [ac],h):=by kernel_rfl
theorem Lt:bX prog O L 94 [N,P] h=ob (cL 31 (Value.cells P).toList .fix h) λaa h=>ob (M.aB (aE 2 aa) h) λab h=>ob (ld1 ab h) λac h=>ob (O (.func 95) [N,ac] h) λad h=>ob (M.aB (un prog .not ad) h) λae h=>aJ ae (some (aG [(.int .u16 1)],h)) (ob (M.aB (aE 2 aa) h) λaf h=>ob (ld1 af h) λag h=>ifB (true) (ob (M.aB (aK N) h) λah h=>ob (M.aB (aE 0 ah) h) λai h=>ob (M.aB (pW 3 1 ai ag) h) λaj h=>ob (ld1 aj h) λak h=>ifB (true) (ob (M.aB (bJ ak) h) λal h=>ob (M.aB (aK N) h) λam h=>ob (M.aB (aE 5 am) h) λan h=>ob (ld1 an h) λao h=>ifB (true) (ob (M.aB (bin prog .eql 3 al ao) h) λap h=>aJ ap (some (aG [(.int .u16 150)],h)) (ob (M.aB (aE 2 aa) h) λaq h=>ob (ld1 aq h) λar h=>ifB (true) (ob (M.aB (aE 2 aa) h) λau h=>ob (ld1 au h) λav h=>ifB (true) (ob (M.aB (aK N) h) λaw h=>ob (M.aB (aE 0 aw) h) λax h=>ob (M.aB (pW 3 1 ax av) h) λay h=>ob (ld1 ay h) λaz h=>ifB (true) (ob (ldN 4 aa h) λba h=>ifB (true) (ob (dL 31 4 1 [(.int .i64 0),(.int .i64 0),(.int .i64 0),(.int .u32 0)] [(0,ba)] h) λbb h=>ob (app 31 4 32 az bb h) λbc h=>ifB (chk ((ld1 aq) h) ar&&(true)) (ob (M.aB (aK N) h) λbd h=>ob (M.aB (aE 0 bd) h) λbe h=>ob (M.aB (pW 3 1 be ar) h) λbf h=>ob (stN 1 bf bc h) λbg h=>ifB (true) (some (aG [(.int .u16 0)],h)))))))))))):=by kernel_rfl
theorem aH8:bX prog O L 95 [N,P] h=ob (M.aB (bin prog .geq 3 P (.int .i64 0)) h) λaa h=>ob (gd aa true (M.cB P) h) λab h=>ob (gd aa true (M.cB N) h) λac h=>ob (gd aa true (M.aB (aK ac)) h) λad h=>ob (gd aa true (M.aB (aE 4 ad)) h) λae h=>ob (gd aa true (ld1 ae) h) λaf h=>ob (gd aa true (M.aB (bin prog .lss 3 ab af)) h) λag h=>ob (M.aB (cJ aa ag (.bool false)) h) λah h=>some (aG [ah],h):=by kernel_rfl
theorem aH9:bX prog O L 96 [N,P,Q,R] h=ob (cL 71 (Value.cells P).toList .fix h) λaa h=>ob (ldN 6 aa h) λab h=>ob (O (.func 97) [ab] h) λac h=>ob (M.aB (ext 0 ac) h) λad h=>ob (M.aB (ext 1 ac) h) λae h=>ob (ld1 Q h) λaf h=>ifB (true) (ob (ld1 R h) λag h=>ifB (true) (ob (M.aB (aK ag) h) λah h=>ob (M.aB (aE 13 ah) h) λai h=>ob (ld1 ai h) λaj h=>ifB (true) (ob (M.aB (aQ 3 aj N) h) λak h=>ob (M.aB (aE 0 ak) h) λal h=>ob (ld1 al h) λam h=>ifB (true) (ob (M.aB (bld prog 75 [(0,am),(1,ad)]) h) λan h=>ob (dL 75 2 1 [(.int .i64 0),(.slice none 0 0)] [(0,an)] h) λao h=>ob (app 75 2 32 af ao h) λap h=>ifB (true) (ob (stN 1 Q ap h) λaq h=>ifB (true) (some (aG [],h))))))):=by kernel_rfl
theorem aIa:bX prog O L 97 [N] h=ob (cL 71 (Value.cells N).toList .fix h) λaa h0=>ob (ldN 6 aa h0) λab h1=>ob (O (.func 172) [ab] h1) λac h2=>ob (M.aB (un prog .not ac) h2) λad h3=>aJ ad (some (aG [(.slice none 0 0),(.int .u16 1)],h3)) (ob (M.aB (aE 0 aa) h3) λae h4=>ob (ld1 ae h4) λaf h5=>ob (M.aB (aE 1 aa) h5) λag h6=>ob (ld1 ag h6) λah h7=>ob (dL 5 1 2 [(.int .u8 0)] [(0,af),(1,ah)] h7) λai h8=>ob (M.aB (aE 2 aa) h8) λaj h9=>ob (ld1 aj h9) λak h10=>ob (O (.func 173) [ai,ak] h10) λal h11=>ob (M.aB (aE 0 aa) h11) λam h12=>ob (ld1 am h12) λan h13=>ob (M.aB (bin prog .eql 5 an (.int .u8 1)) h13) λao h14=>aJ ao (ob (M.aB (aE 3 aa) h14) λap h15=>ob (ld1 ap h15) λaq h16=>ifB (true) (ob (M.aB (aE 4 aa) h16) λar h17=>ob (ld1 ar h17) λau h18=>ifB (true) (ob (dL 5 1 2 [(.int .u8 0)] [(0,aq),(1,au)] h18) λav h19=>ob (app 5 1 1 al av h19) λaw h20=>ifB (true) (ob (M.aB (aE 5 aa) h20) λax h21=>ob (ld1 ax h21) λay h22=>ifB (chk ((ld1 ax) h19) ay&&(true)) (ob (O (.func 174) [aw,ay] h22) λaz h23=>ifB (true) (ob (O (.func 175) [az] h23) λba h24=>ob (O (.func 173) [az,ba] h24) λbb h25=>some (aG [bb,(.int .u16 0)],h25))))))) (ob (O (.func 175) [al] h14) λbc h26=>ob (O (.func 173) [al,bc] h26) λbd h27=>some (aG [bd,(.int .u16 0)],h27))):=by kernel_rfl
def Lv:Code:=bU [1,0,0,1,1,0,0,1,1,0,1,0,0] (b9 prog 98)
def Lx:KV:=(dO 2 (eC prog O L (bU [1,0,0,1,1,0,0,1,1,1] (b9 prog 98)) (dO 1 (eC prog O L (bU [1,0,0,1,1,1] (b9 prog 98)) k))))
def Dq (O:aC)(L:LV) (k:KV) (a b c d e f g i j l m n o p q r s t u v w x y z A B C D E F G H I J zz zy zx zw zv zu zt zs zr zq zp zo zn zm zl zk zj zi zh zg zf ze zd zc zb za yz yy:Value) (h:aA):OV:=ob (M.aB (aK a) h) λaa h16=>ob (M.aB (aE 1 aa) h16) λab h17=>ob (M.aB (aE 3 ab) h17) λac h18=>ob (ld1 ac h18) λad h19=>ob (M.aB (bin prog .geq 3 d ad) h19) λae h20=>aJ ae (ob (M.aB (bin prog .add 3 o (.int .i64 1)) h20) λaf h21=>k .normal [a,b,c,d,e,f,g,i,j,l,m,n,af,p,q,r,s,t,u,v,w,x,y,z,A,B,C,D,E,F,G,H,I,d,a,aa,ab,ac,ad,ae,zt,zs,zr,zq,zp,zo,zn,zm,zl,zk,zj,zi,zh,zg,zf,ze,zd,zc,zb,za,yz,af] h21) (ob (M.aB (aK a) h20) λag h22=>ob (M.aB (aE 14 ag) h22) λah h23=>ob (ld1 ah h23) λai h24=>ob (O (.func 176) [ai,c] h24) λaj h25=>ob (M.aB (ext 0 aj) h25) λak h26=>ob (M.aB (ext 1 aj) h26) λal h27=>ob (cL 31 [(.int .i64 0),(.int .i64 0),(.int .i64 0),(.int .u32 0)] .fix h27) λam h28=>ob (stN 4 am ak h28) λan h29=>aJ al (ob (M.aB (aK a) h29) λao h30=>ob (M.aB (aE 15 ao) h30) λap h31=>ob (ld1 ap h31) λaq h32=>ifB (true) (ob (M.aB (aE 1 am) h32) λar h33=>ob (ld1 ar h33) λau h34=>ifB (true) (ob (O (.func 178) [a,au] h34) λav h35=>ifB (chk ((ld1 ap) h35) aq&&(true)) (ob (ldN 4 am h35) λaw h36=>ifB (chk ((ldN 4 am) h34) aw&&(true)) (ob (O (.func 177) [aq,(.int .i64 0),av,c,aw] h36) λax h37=>ifB (true) (ob (M.aB (bin prog .add 3 o (.int .i64 1)) h37) λay h38=>k .normal [a,b,c,d,e,am,al,i,j,l,m,n,ay,p,q,r,s,t,u,v,w,x,y,z,A,B,C,D,E,F,G,H,I,d,a,aa,ab,ac,ad,ae,aj,a,ag,ah,ai,c,aj,ak,al,al,a,ao,ap,aq,a,ar,au,av,c,aw,ax,ay] h38)))))) (ob (M.aB (bin prog .add 3 o (.int .i64 1)) h29) λaz h39=>k .normal [a,b,c,d,e,am,al,i,j,l,m,n,az,p,q,r,s,t,u,v,w,x,y,z,A,B,C,D,E,F,G,H,I,d,a,aa,ab,ac,ad,ae,aj,a,ag,ah,ai,c,aj,ak,al,al,zj,zi,zh,zg,zf,ze,zd,zc,zb,za,yz,az] h39))
theorem aIc:Lx O L k (.exit 2) [a,b,c,d,e,f,g,i,j,l,m,n,o,p,q,r,s,t,u,v,w,x,y,z,A,B,C,D,E,F,G,H,I,J,zz,zy,zx,zw,zv,zu,zt,zs,zr,zq,zp,zo,zn,zm,zl,zk,zj,zi,zh,zg,zf,ze,zd,zc,zb,za,yz,yy] h=Dq O L k a b c d e f g i j l m n o p q r s t u v w x y z A B C D E F G H I J zz zy zx zw zv zu zt zs zr zq zp zo zn zm zl zk zj zi zh zg zf ze zd zc zb za yz yy h:=by kernel_rfl
theorem Vi:aI prog O L Lv k [a,b,c,d,e,f,g,i,j,l,m,n,o,p,q,r,s,t,u,v,w,x,y,z,A,B,C,D,E,F,G,H,I,J,zz,zy,zx,zw,zv,zu,zt,zs,zr,zq,zp,zo,zn,zm,zl,zk,zj,zi,zh,zg,zf,ze,zd,zc,zb,za,yz,yy] h=ob (M.aB (bin prog .lss 3 w v) h) λaa h=>aJ aa (ob (M.aB (aK a) h) λab h=>ob (M.aB (aE 15 ab) h) λac h=>ob (ld1 ac h) λad h=>ob (O (.func 159) [ad,(.int .i64 0),w,c] h) λae h=>ob (M.aB (bin prog .add 3 d ae) h) λaf h=>ob (M.aB (bin prog .add 3 w (.int .i64 1)) h) λag h=>k .normal [a,b,c,af,w,f,g,i,j,l,m,n,o,p,q,r,s,t,u,v,ag,aa,w,d,a,ab,ac,ad,w,c,ae,af,ag,J,zz,zy,zx,zw,zv,zu,zt,zs,zr,zq,zp,zo,zn,zm,zl,zk,zj,zi,zh,zg,zf,ze,zd,zc,zb,za,yz,yy] h) (k (.exit 2) [a,b,c,d,e,f,g,i,j,l,m,n,o,p,q,r,s,t,u,v,w,aa,y,z,A,B,C,D,E,F,G,H,I,J,zz,zy,zx,zw,zv,zu,zt,zs,zr,zq,zp,zo,zn,zm,zl,zk,zj,zi,zh,zg,zf,ze,zd,zc,zb,za,yz,yy] h):=by kernel_rfl
def Lu:Code:=bU [1,0,0] (b9 prog 98)
def Lw (O:aC)(L:LV):KV:=(dO 0 (eG prog Tryz.f98))
theorem aIb:Lw O L (.exit 0) [a,b,c,d,e,f,g,i,j,l,m,n,o,p,q,r,s,t,u,v,w,x,y,z,A,B,C,D,E,F,G,H,I,J,zz,zy,zx,zw,zv,zu,zt,zs,zr,zq,zp,zo,zn,zm,zl,zk,zj,zi,zh,zg,zf,ze,zd,zc,zb,za,yz,yy] h=some (aG [],h):=by kernel_rfl
theorem Vh:aI prog O L Lu k [a,b,c,d,e,f,g,i,j,l,m,n,o,p,q,r,s,t,u,v,w,x,y,z,A,B,C,D,E,F,G,H,I,J,zz,zy,zx,zw,zv,zu,zt,zs,zr,zq,zp,zo,zn,zm,zl,zk,zj,zi,zh,zg,zf,ze,zd,zc,zb,za,yz,yy] h=ob (M.aB (bin prog .lss 3 o n) h) λaa h=>aJ aa (ob (M.aB (aK a) h) λab h=>ob (M.aB (aE 13 ab) h) λac h=>ob (ld1 ac h) λad h=>ob (M.aB (bJ ad) h) λae h=>L (aI prog O L Lv) (Lx O L k) [a,b,o,(.int .i64 0),e,f,g,i,j,l,m,n,o,aa,o,a,ab,ac,ad,ae,(.int .i64 0),x,y,z,A,B,C,D,E,F,G,H,I,J,zz,zy,zx,zw,zv,zu,zt,zs,zr,zq,zp,zo,zn,zm,zl,zk,zj,zi,zh,zg,zf,ze,zd,zc,zb,za,yz,yy] h) (k (.exit 0) [a,b,c,d,e,f,g,i,j,l,m,n,o,aa,q,r,s,t,u,v,w,x,y,z,A,B,C,D,E,F,G,H,I,J,zz,zy,zx,zw,zv,zu,zt,zs,zr,zq,zp,zo,zn,zm,zl,zk,zj,zi,zh,zg,zf,ze,zd,zc,zb,za,yz,yy] h):=by kernel_rfl
theorem aId:bX prog O L 98 [N] h=ob (M.aB (aK N) h) λaa h=>ob (M.aB (aE 1 aa) h) λab h=>ob (M.aB (aE 2 ab) h) λac h=>ob (ld1 ac h) λad h=>L (aI prog O L Lu) (Lw O L) [N,undef,undef,undef,undef,undef,undef,N,aa,ab,ac,ad,(.int .i64 0),undef,undef,undef,undef,undef,undef,undef,undef,undef,undef,undef,undef,undef,undef,undef,undef,undef,undef,undef,undef,undef,undef,undef,undef,undef,undef,undef,undef,undef,undef,undef,undef,undef,undef,undef,undef,undef,undef,undef,undef,undef,undef,undef,undef,undef,undef,undef,undef,undef] h:=by kernel_rfl
def Lz:Code:=bU [1,0,1,1,1,1,1,1,0,1,0,0,1,1,0,0,1,1,0,1,0,0] (b9 prog 99)
def L3:KV:=(dO 2 (eC prog O L (bU [1,0,1,1,1,1,1,1,0,1,0,0,1,1,0,0,1,1,1] (b9 prog 99)) (dO 1 (eC prog O L (bU [1,0,1,1,1,1,1,1,0,1,0,0,1,1,1] (b9 prog 99)) k))))
def L1 (O:aC)(L:LV) (k:KV) (a b c d e f g i j l m n o p q r s t u v w x y z A B C D E F G H I J zz zy zx zw zv zu zt zs zr zq zp zo zn zm zl zk zj zi zh zg zf ze zd zc zb za yz yy yx yw yv yu yt ys yr yq yp yo yn ym yl yk yj yi yh yg yf ye yd yc yb ya xz xy xx xw xv xu xt xs xr xq xp xo xn xm xl xk xj xi xh xg xf xe xd xc xb xa wz wy wx ww wv wu wt ws wr wq wp wo wn wm wl wk wj wi wh wg wf we wd:Value) (h:aA):OV:=ob (M.aB (aK l) h) λaa h=>ob (M.aB (aE 1 aa) h) λab h=>ob (ld1 ab h) λac h=>ob (M.aB (bin prog .eql 23 ac o) h) λad h=>aJ ad (k (.exit 0) [a,b,c,d,e,f,g,i,j,l,m,n,o,p,q,r,s,t,u,v,w,x,y,z,A,B,C,D,E,F,G,H,I,J,zz,zy,zx,zw,zv,zu,zt,zs,zr,zq,zp,zo,zn,zm,zl,zk,zj,zi,zh,zg,zf,ze,zd,zc,zb,za,yz,yy,yx,yw,yv,yu,yt,ys,yr,yq,yp,yo,yn,ym,yl,yk,yj,yi,yh,yg,yf,ye,yd,yc,yb,ya,xz,xy,xx,xw,xv,xu,xt,xs,xr,xq,xp,xo,xn,xm,xl,xk,xj,xi,xh,xg,xf,xe,xd,xc,xb,xa,wz,wy,wx,ww,wv,wu,wt,ws,wr,wq,wp,wo,l,aa,ab,ac,o,ad,wh,wg,wf,we,wd] h) (ob (M.aB (bin prog .add 3 zm (.int .i64 1)) h) λae h=>k .normal [a,b,c,d,e,f,g,i,j,l,m,n,o,p,q,r,s,t,u,v,w,x,y,z,A,B,C,D,E,F,G,H,I,J,zz,zy,zx,zw,zv,zu,zt,zs,zr,zq,zp,zo,zn,ae,zl,zk,zj,zi,zh,zg,zf,ze,zd,zc,zb,za,yz,yy,yx,yw,yv,yu,yt,ys,yr,yq,yp,yo,yn,ym,yl,yk,yj,yi,yh,yg,yf,ye,yd,yc,yb,ya,xz,xy,xx,xw,xv,xu,xt,xs,xr,xq,xp,xo,xn,xm,xl,xk,xj,xi,xh,xg,xf,xe,xd,xc,xb,xa,wz,wy,wx,ww,wv,wu,wt,ws,wr,wq,wp,wo,l,aa,ab,ac,o,ad,ae,wg,wf,we,wd] h)
theorem aIe:L3 O L k (.exit 2) [a,b,c,d,e,f,g,i,j,l,m,n,o,p,q,r,s,t,u,v,w,x,y,z,A,B,C,D,E,F,G,H,I,J,zz,zy,zx,zw,zv,zu,zt,zs,zr,zq,zp,zo,zn,zm,zl,zk,zj,zi,zh,zg,zf,ze,zd,zc,zb,za,yz,yy,yx,yw,yv,yu,yt,ys,yr,yq,yp,yo,yn,ym,yl,yk,yj,yi,yh,yg,yf,ye,yd,yc,yb,ya,xz,xy,xx,xw,xv,xu,xt,xs,xr,xq,xp,xo,xn,xm,xl,xk,xj,xi,xh,xg,xf,xe,xd,xc,xb,xa,wz,wy,wx,ww,wv,wu,wt,ws,wr,wq,wp,wo,wn,wm,wl,wk,wj,wi,wh,wg,wf,we,wd] h=L1 O L k a b c d e f g i j l m n o p q r s t u v w x y z A B C D E F G H I J zz zy zx zw zv zu zt zs zr zq zp zo zn zm zl zk zj zi zh zg zf ze zd zc zb za yz yy yx yw yv yu yt ys yr yq yp yo yn ym yl yk yj yi yh yg yf ye yd yc yb ya xz xy xx xw xv xu xt xs xr xq xp xo xn xm xl xk xj xi xh xg xf xe xd xc xb xa wz wy wx ww wv wu wt ws wr wq wp wo wn wm wl wk wj wi wh wg wf we wd h:=by kernel_rfl
theorem Vk:aI prog O L Lz k [a,b,c,d,e,f,g,i,j,l,m,n,o,p,q,r,s,t,u,v,w,x,y,z,A,B,C,D,E,F,G,H,I,J,zz,zy,zx,zw,zv,zu,zt,zs,zr,zq,zp,zo,zn,zm,zl,zk,zj,zi,zh,zg,zf,ze,zd,zc,zb,za,yz,yy,yx,yw,yv,yu,yt,ys,yr,yq,yp,yo,yn,ym,yl,yk,yj,yi,yh,yg,yf,ye,yd,yc,yb,ya,xz,xy,xx,xw,xv,xu,xt,xs,xr,xq,xp,xo,xn,xm,xl,xk,xj,xi,xh,xg,xf,xe,xd,xc,xb,xa,wz,wy,wx,ww,wv,wu,wt,ws,wr,wq,wp,wo,wn,wm,wl,wk,wj,wi,wh,wg,wf,we,wd] h=ob (M.aB (bin prog .lss 3 za zb) h) λaa h=>aJ aa (ob (M.aB (aQ 1 zc za) h) λab h=>ob (ld1 ab h) λac h=>ob (M.aB (aK a) h) λad h=>ob (M.aB (aE 1 ad) h) λae h=>ob (ld1 ae h) λaf h=>ob (M.aB (aQ 1 af za) h) λag h=>ob (ld1 ag h) λah h=>ob (O (.func 182) [ac,ah,i] h) λai h=>ob (M.aB (bin prog .eql 3 ai (.int .i64 (-1))) h) λaj h=>aJ aj (ob (M.aB (bin prog .add 3 za (.int .i64 1)) h) λak h=>k .normal [a,b,c,d,e,f,g,i,j,l,m,n,o,za,ac,ai,s,t,u,v,w,x,y,z,A,B,C,D,E,F,G,H,I,J,zz,zy,zx,zw,zv,zu,zt,zs,zr,zq,zp,zo,zn,zm,zl,zk,zj,zi,zh,zg,zf,ze,zd,zc,zb,ak,aa,za,ab,ac,ac,a,ad,ae,af,za,ag,ah,i,ai,ai,aj,yj,yi,yh,yg,yf,ye,yd,yc,yb,ya,xz,xy,xx,xw,xv,xu,xt,xs,xr,xq,xp,xo,xn,xm,xl,xk,xj,xi,xh,xg,xf,xe,xd,xc,xb,xa,wz,wy,wx,ww,wv,wu,wt,ws,wr,wq,wp,ak,wn,wm,wl,wk,wj,wi,wh,wg,wf,we,wd] h) (ob (M.aB (aK l) h) λal h=>ob (M.aB (aE 0 al) h) λam h=>ob (ld1 am h) λan h=>ob (M.aB (aQ 1 an za) h) λao h=>ob (stN 1 ao ai h) λap h=>ob (M.aB (aK l) h) λaq h=>ob (M.aB (aE 1 aq) h) λar h=>ob (ld1 ar h) λau h=>ifB (true) (ob (M.aB (bin prog .shl 23 (.int .u16 1) za) h) λav h=>ob (M.aB (bin prog .andNot 23 au av) h) λaw h=>ob (M.aB (aK l) h) λax h=>ob (M.aB (aE 1 ax) h) λay h=>ob (stN 1 ay aw h) λaz h=>ifB (true) (ob (M.aB (aK l) h) λba h=>ob (M.aB (aE 2 ba) h) λbb h=>ob (ld1 bb h) λbc h=>ifB (true) (ob (M.aB (bin prog .shl 23 (.int .u16 1) ai) h) λbd h=>ob (M.aB (bin prog .andNot 23 bc bd) h) λbe h=>ob (M.aB (aK l) h) λbf h=>ob (M.aB (aE 2 bf) h) λbg h=>ob (stN 1 bg be h) λbh h=>ifB (true) (ob (M.aB (bin prog .eql 3 n (.int .i64 0)) h) λbi h=>aJ bi (ob (M.aB (aK a) h) λbj h=>ob (M.aB (aE 0 bj) h) λbk h=>ob (ld1 bk h) λbl h=>ifB (true) (ob (M.aB (aK a) h) λbm h=>ob (M.aB (aE 1 bm) h) λbn h=>ob (ld1 bn h) λbo h=>ifB (true) (ob (M.aB (bin prog .add 3 za (.int .i64 1)) h) λbp h=>ob (M.aB (bin prog .rem 3 bp i) h) λbq h=>ob (M.aB (bin prog .add 3 ai (.int .i64 1)) h) λbr h=>ob (M.aB (bin prog .rem 3 br i) h) λbs h=>ob (M.aB (aQ 1 bl ai) h) λbt h=>ob (stN 1 bt bq h) λbu h=>ifB (true) (ob (M.aB (aQ 1 bo za) h) λbv h=>ob (stN 1 bv bs h) λbw h=>ifB (true) (ob (M.aB (bin prog .add 3 za (.int .i64 1)) h) λbx h=>k .normal [a,b,c,d,e,f,g,i,j,l,m,n,o,za,ac,ai,s,t,u,v,w,x,y,z,A,B,C,D,E,F,G,H,I,J,zz,zy,zx,zw,zv,zu,zt,zs,zr,zq,zp,zo,zn,zm,zl,zk,zj,zi,zh,zg,zf,ze,zd,zc,zb,bx,aa,za,ab,ac,ac,a,ad,ae,af,za,ag,ah,i,ai,ai,aj,l,al,am,an,za,ai,ao,l,aq,ar,au,za,av,aw,ax,ay,l,ba,bb,bc,ai,bd,be,bf,bg,n,bi,a,bj,bk,bl,ai,a,bm,bn,bo,za,za,bp,i,bq,ai,br,i,bs,bt,bv,bx,wn,wm,wl,wk,wj,wi,wh,wg,wf,we,wd] h))))) (ob (M.aB (bin prog .add 3 za (.int .i64 1)) h) λbz h=>k .normal [a,b,c,d,e,f,g,i,j,l,m,n,o,za,ac,ai,s,t,u,v,w,x,y,z,A,B,C,D,E,F,G,H,I,J,zz,zy,zx,zw,zv,zu,zt,zs,zr,zq,zp,zo,zn,zm,zl,zk,zj,zi,zh,zg,zf,ze,zd,zc,zb,bz,aa,za,ab,ac,ac,a,ad,ae,af,za,ag,ah,i,ai,ai,aj,l,al,am,an,za,ai,ao,l,aq,ar,au,za,av,aw,ax,ay,l,ba,bb,bc,ai,bd,be,bf,bg,n,bi,xi,xh,xg,xf,xe,xd,xc,xb,xa,wz,wy,wx,ww,wv,wu,wt,ws,wr,wq,wp,bz,wn,wm,wl,wk,wj,wi,wh,wg,wf,we,wd] h))))))) (k (.exit 2) [a,b,c,d,e,f,g,i,j,l,m,n,o,p,q,r,s,t,u,v,w,x,y,z,A,B,C,D,E,F,G,H,I,J,zz,zy,zx,zw,zv,zu,zt,zs,zr,zq,zp,zo,zn,zm,zl,zk,zj,zi,zh,zg,zf,ze,zd,zc,zb,za,aa,yy,yx,yw,yv,yu,yt,ys,yr,yq,yp,yo,yn,ym,yl,yk,yj,yi,yh,yg,yf,ye,yd,yc,yb,ya,xz,xy,xx,xw,xv,xu,xt,xs,xr,xq,xp,xo,xn,xm,xl,xk,xj,xi,xh,xg,xf,xe,xd,xc,xb,xa,wz,wy,wx,ww,wv,wu,wt,ws,wr,wq,wp,wo,wn,wm,wl,wk,wj,wi,wh,wg,wf,we,wd] h):=by kernel_rfl
def Ly:Code:=bU [1,0,1,1,1,1,1,1,0,1,0,0] (b9 prog 99)
def L2:KV:=(dO 0 (eC prog O L (bU [1,0,1,1,1,1,1,1,1] (b9 prog 99)) (eG prog Tryz.f99)))
def L0 (O:aC)(L:LV) (a b c d e f g i j l m n o p q r s t u v w x y z A B C D E F G H I J zz zy zx zw zv zu zt zs zr zq zp zo zn zm zl zk zj zi zh zg zf ze zd zc zb za yz yy yx yw yv yu yt ys yr yq yp yo yn ym yl yk yj yi yh yg yf ye yd yc yb ya xz xy xx xw xv xu xt xs xr xq xp xo xn xm xl xk xj xi xh xg xf xe xd xc xb xa wz wy wx ww wv wu wt ws wr wq wp wo wn wm wl wk wj wi wh wg wf we wd:Value) (h:aA):OV:=ob (M.aB (aK l) h) λaa h=>ob (M.aB (aE 0 aa) h) λab h=>ob (ld1 ab h) λac h=>some (aG [ac],h)
theorem Vl:L2 O L (.exit 0) [a,b,c,d,e,f,g,i,j,l,m,n,o,p,q,r,s,t,u,v,w,x,y,z,A,B,C,D,E,F,G,H,I,J,zz,zy,zx,zw,zv,zu,zt,zs,zr,zq,zp,zo,zn,zm,zl,zk,zj,zi,zh,zg,zf,ze,zd,zc,zb,za,yz,yy,yx,yw,yv,yu,yt,ys,yr,yq,yp,yo,yn,ym,yl,yk,yj,yi,yh,yg,yf,ye,yd,yc,yb,ya,xz,xy,xx,xw,xv,xu,xt,xs,xr,xq,xp,xo,xn,xm,xl,xk,xj,xi,xh,xg,xf,xe,xd,xc,xb,xa,wz,wy,wx,ww,wv,wu,wt,ws,wr,wq,wp,wo,wn,wm,wl,wk,wj,wi,wh,wg,wf,we,wd] h=L0 O L a b c d e f g i j l m n o p q r s t u v w x y z A B C D E F G H I J zz zy zx zw zv zu zt zs zr zq zp zo zn zm zl zk zj zi zh zg zf ze zd zc zb za yz yy yx yw yv yu yt ys yr yq yp yo yn ym yl yk yj yi yh yg yf ye yd yc yb ya xz xy xx xw xv xu xt xs xr xq xp xo xn xm xl xk xj xi xh xg xf xe xd xc xb xa wz wy wx ww wv wu wt ws wr wq wp wo wn wm wl wk wj wi wh wg wf we wd h:=by kernel_rfl
theorem Vj:aI prog O L Ly k [a,b,c,d,e,f,g,i,j,l,m,n,o,p,q,r,s,t,u,v,w,x,y,z,A,B,C,D,E,F,G,H,I,J,zz,zy,zx,zw,zv,zu,zt,zs,zr,zq,zp,zo,zn,zm,zl,zk,zj,zi,zh,zg,zf,ze,zd,zc,zb,za,yz,yy,yx,yw,yv,yu,yt,ys,yr,yq,yp,yo,yn,ym,yl,yk,yj,yi,yh,yg,yf,ye,yd,yc,yb,ya,xz,xy,xx,xw,xv,xu,xt,xs,xr,xq,xp,xo,xn,xm,xl,xk,xj,xi,xh,xg,xf,xe,xd,xc,xb,xa,wz,wy,wx,ww,wv,wu,wt,ws,wr,wq,wp,wo,wn,wm,wl,wk,wj,wi,wh,wg,wf,we,wd] h=ob (M.aB (bin prog .lss 3 zm zn) h) λaa h=>aJ aa (ob (M.aB (aK l) h) λab h=>ob (M.aB (aE 1 ab) h) λac h=>ob (ld1 ac h) λad h=>ob (O (.func 181) [a,l,m] h) λae h=>ob (M.aB (bJ ae) h) λaf h=>L (aI prog O L Lz) (L3 O L k) [a,b,c,d,e,f,g,i,j,l,m,zm,ad,p,q,r,s,t,u,v,w,x,y,z,A,B,C,D,E,F,G,H,I,J,zz,zy,zx,zw,zv,zu,zt,zs,zr,zq,zp,zo,zn,zm,aa,zm,l,ab,ac,ad,a,l,m,ae,af,(.int .i64 0),yz,yy,yx,yw,yv,yu,yt,ys,yr,yq,yp,yo,yn,ym,yl,yk,yj,yi,yh,yg,yf,ye,yd,yc,yb,ya,xz,xy,xx,xw,xv,xu,xt,xs,xr,xq,xp,xo,xn,xm,xl,xk,xj,xi,xh,xg,xf,xe,xd,xc,xb,xa,wz,wy,wx,ww,wv,wu,wt,ws,wr,wq,wp,wo,wn,wm,wl,wk,wj,wi,wh,wg,wf,we,wd] h) (k (.exit 0) [a,b,c,d,e,f,g,i,j,l,m,n,o,p,q,r,s,t,u,v,w,x,y,z,A,B,C,D,E,F,G,H,I,J,zz,zy,zx,zw,zv,zu,zt,zs,zr,zq,zp,zo,zn,zm,aa,zk,zj,zi,zh,zg,zf,ze,zd,zc,zb,za,yz,yy,yx,yw,yv,yu,yt,ys,yr,yq,yp,yo,yn,ym,yl,yk,yj,yi,yh,yg,yf,ye,yd,yc,yb,ya,xz,xy,xx,xw,xv,xu,xt,xs,xr,xq,xp,xo,xn,xm,xl,xk,xj,xi,xh,xg,xf,xe,xd,xc,xb,xa,wz,wy,wx,ww,wv,wu,wt,ws,wr,wq,wp,wo,wn,wm,wl,wk,wj,wi,wh,wg,wf,we,wd] h):=by kernel_rfl
theorem aIf:bX prog O L 99 [N,P,Q] h=ob (M.aB (aK N) h) λaa h=>ob (M.aB (aE 0 aa) h) λab h=>ob (ld1 ab h) λac h=>ob (M.aB (bJ ac) h) λad h=>ob (M.aB (bJ P) h) λae h=>ob (M.aB (bin prog .neq 3 ae ad) h) λaf h=>ob (gd af false (M.cB Q) h) λag h=>ob (gd af false (M.aB (bin prog .lss 3 ag (.int .i64 1))) h) λah h=>ob (M.aB (cJ af (.bool true) ah) h) λai h=>ob (gd ai false (M.cB Q) h) λaj h=>ob (gd ai false (M.aB (bin prog .gtr 3 aj (.int .i64 16))) h) λak h=>ob (M.aB (cJ ai (.bool true) ak) h) λal h=>aJ al (some (aG [(.slice none 0 0)],h)) (ob (M.aB (bin prog .shl 23 (.int .u16 1) ad) h) λam h=>ob (M.aB (bin prog .sub 23 am (.int .u16 1)) h) λan h=>ob (dL 3 1 1 [(.int .i64 0)] [(0,(.int .i64 (-1)))] h) λao h=>ob (O (.func 179) [ao,ad] h) λap h=>ob (M.aB (bld prog 283 [(0,ap),(1,an),(2,an)]) h) λaq h=>ob (cL 283 (Value.cells aq).toList .fix h) λar h=>ob (O (.func 180) [P,ad] h) λau h=>L (aI prog O L Ly) (L2 O L) [N,P,Q,undef,undef,undef,(.slice none 0 0),ad,an,ar,au,undef,undef,undef,undef,undef,N,aa,ab,ac,ad,P,ae,ad,af,af,ag,ah,ai,ai,aj,ak,al,ad,am,an,ao,ad,ap,an,an,aq,ar,P,ad,au,Q,(.int .i64 0),undef,undef,undef,undef,undef,undef,undef,undef,undef,undef,undef,undef,undef,undef,undef,undef,undef,undef,undef,undef,undef,undef,undef,undef,undef,undef,undef,undef,undef,undef,undef,undef,undef,undef,undef,undef,undef,undef,undef,undef,undef,undef,undef,undef,undef,undef,undef,undef,undef,undef,undef,undef,undef,undef,undef,undef,undef,undef,undef,undef,undef,undef,undef,undef,undef,undef,undef,undef,undef,undef,undef,undef,undef,undef,undef,undef,undef,undef,undef,undef,undef,undef,undef,undef,undef,undef,undef] h):=by kernel_rfl
def Ku:Code:=bU [1,1,0,1,0,0,1,1,0,0,1,1,0,0] (b9 prog 100)
def Kx:KV:=(dO 2 (dO 1 (eC prog O L (bU [1,1,0,1,0,0,1,1,1] (b9 prog 100)) k)))
def Kv (O:aC)(L:LV) (k:KV) (a b c d e f g i j l m n o p q r s t u v w x y z A B C D E F G H I J zz zy zx zw zv zu zt zs zr zq:Value) (h:aA):OV:=ob (M.aB (bin prog .add 3 t (.int .i64 1)) h) λaa h=>k .normal [a,b,c,d,e,f,g,i,j,l,m,n,o,p,q,r,s,aa,u,v,w,x,y,z,A,B,C,D,E,F,G,H,I,J,zz,zy,zx,zw,zv,zu,zt,zs,aa,zq] h
theorem aG5:Kx O L k (.exit 2) [a,b,c,d,e,f,g,i,j,l,m,n,o,p,q,r,s,t,u,v,w,x,y,z,A,B,C,D,E,F,G,H,I,J,zz,zy,zx,zw,zv,zu,zt,zs,zr,zq] h=Kv O L k a b c d e f g i j l m n o p q r s t u v w x y z A B C D E F G H I J zz zy zx zw zv zu zt zs zr zq h:=by kernel_rfl
theorem Ux:aI prog O L Ku k [a,b,c,d,e,f,g,i,j,l,m,n,o,p,q,r,s,t,u,v,w,x,y,z,A,B,C,D,E,F,G,H,I,J,zz,zy,zx,zw,zv,zu,zt,zs,zr,zq] h=ob (M.aB (bin prog .lss 3 B A) h) λaa h=>aJ aa (ob (O (.func 183) [a,e,B] h) λab h=>ob (M.aB (bin prog .neq 23 ab (.int .u16 0)) h) λac h=>aJ ac (ob (M.aB (aQ 1 d e) h) λad h=>ob (ld1 ad h) λae h=>ifB (true) (ob (M.aB (bin prog .shl 23 (.int .u16 1) B) h) λaf h=>ob (M.aB (bin prog .or 23 ae af) h) λag h=>ob (M.aB (aQ 1 d e) h) λah h=>ob (stN 1 ah ag h) λai h=>ifB (true) (ob (M.aB (bin prog .add 3 B (.int .i64 1)) h) λaj h=>k .normal [a,b,c,d,e,B,g,i,j,l,m,n,o,p,q,r,s,t,u,v,w,x,y,z,A,aj,aa,B,a,e,B,ab,ac,d,e,ad,ae,B,af,ag,ah,aj,zr,zq] h))) (ob (M.aB (bin prog .add 3 B (.int .i64 1)) h) λak h=>k .normal [a,b,c,d,e,B,g,i,j,l,m,n,o,p,q,r,s,t,u,v,w,x,y,z,A,ak,aa,B,a,e,B,ab,ac,J,zz,zy,zx,zw,zv,zu,zt,ak,zr,zq] h)) (k (.exit 2) [a,b,c,d,e,f,g,i,j,l,m,n,o,p,q,r,s,t,u,v,w,x,y,z,A,B,aa,D,E,F,G,H,I,J,zz,zy,zx,zw,zv,zu,zt,zs,zr,zq] h):=by kernel_rfl
def Kt:Code:=bU [1,1,0,1,0,0] (b9 prog 100)
def Kw:KV:=(dO 0 (eC prog O L (bU [1,1,1] (b9 prog 100)) (eG prog Tryz.f100)))
theorem aG4:Kw O L (.exit 0) [a,b,c,d,e,f,g,i,j,l,m,n,o,p,q,r,s,t,u,v,w,x,y,z,A,B,C,D,E,F,G,H,I,J,zz,zy,zx,zw,zv,zu,zt,zs,zr,zq] h=some (aG [d],h):=by kernel_rfl
theorem Uw:aI prog O L Kt k [a,b,c,d,e,f,g,i,j,l,m,n,o,p,q,r,s,t,u,v,w,x,y,z,A,B,C,D,E,F,G,H,I,J,zz,zy,zx,zw,zv,zu,zt,zs,zr,zq] h=ob (M.aB (bin prog .lss 3 t s) h) λaa h=>aJ aa (ob (M.aB (aK a) h) λab h=>ob (M.aB (aE 13 ab) h) λac h=>ob (ld1 ac h) λad h=>ob (M.aB (bJ ad) h) λae h=>L (aI prog O L Ku) (Kx O L k) [a,b,c,d,t,f,g,i,j,l,m,n,o,p,q,r,s,t,aa,t,a,ab,ac,ad,ae,(.int .i64 0),C,D,E,F,G,H,I,J,zz,zy,zx,zw,zv,zu,zt,zs,zr,zq] h) (k (.exit 0) [a,b,c,d,e,f,g,i,j,l,m,n,o,p,q,r,s,t,aa,v,w,x,y,z,A,B,C,D,E,F,G,H,I,J,zz,zy,zx,zw,zv,zu,zt,zs,zr,zq] h):=by kernel_rfl
theorem aG6:bX prog O L 100 [N] h=ob (M.aB (aK N) h) λaa h=>ob (M.aB (aE 13 aa) h) λab h=>ob (ld1 ab h) λac h=>ob (M.aB (bJ ac) h) λad h=>ob (kF 23 1 2 [(.int .u16 0)] ad ad h) λae h=>ob (M.aB (aK N) h) λaf h=>ob (M.aB (aE 13 af) h) λag h=>ob (ld1 ag h) λah h=>ob (M.aB (bJ ah) h) λai h=>L (aI prog O L Kt) (Kw O L) [N,undef,(.slice none 0 0),ae,undef,undef,N,aa,ab,ac,ad,ae,N,af,ag,ah,ai,(.int .i64 0),undef,undef,undef,undef,undef,undef,undef,undef,undef,undef,undef,undef,undef,undef,undef,undef,undef,undef,undef,undef,undef,undef,undef,undef,undef,undef] h:=by kernel_rfl
theorem Ky:bX prog O L 101 [N,P,Q,R] h=ob (M.aB (aK N) h) λaa h=>ob (M.aB (aE 13 aa) h) λab h=>ob (ld1 ab h) λac h=>ifB (true) (ob (M.aB (aQ 3 ac Q) h) λad h=>ob (M.aB (aE 2 ad) h) λae h=>ob (ld1 ae h) λaf h=>ifB (true) (ob (O (.func 183) [N,P,Q] h) λag h=>ifB (chk ((ld1 ae) h) af&&(chk ((ld1 ab) h) ac&&(true))) (ob (O (.func 184) [af,ag] h) λah h=>ifB (true) (ob (M.aB (bin prog .lss 3 ah (.int .i64 0)) h) λai h=>aJ ai (some (aG [],h)) (ob (M.aB (aK N) h) λaj h=>ob (M.aB (aE 15 aj) h) λak h=>ob (ld1 ak h) λal h=>ob (O (.func 185) [al,P,Q,ah] h) λam h=>ob (M.aB (ext 0 am) h) λan h=>ob (M.aB (ext 1 am) h) λao h=>ob (cL 31 [(.int .i64 0),(.int .i64 0),(.int .i64 0),(.int .u32 0)] .fix h) λap h=>ob (stN 4 ap an h) λaq h=>ob (M.aB (bin prog .gtr 3 P (.int .i64 0)) h) λar h=>aJ ar (ob (M.aB (aK N) h) λau h=>ob (M.aB (aE 13 au) h) λav h=>ob (ld1 av h) λaw h=>ob (M.aB (aQ 3 aw P) h) λax h=>ob (M.aB (aE 1 ax) h) λay h=>ob (ld1 ay h) λaz h=>ob (M.aB (aQ 2 az ah) h) λba h=>ob (M.aB (aE 1 ba) h) λbb h=>ob (ld1 bb h) λbc h=>ob (O (.func 186) [bc] h) λbd h=>ob (M.aB (bin prog .eql 3 Q (.int .i64 0)) h) λbe h=>aJ be (ob (M.aB (aK N) h) λbf h=>ob (M.aB (aE 14 bf) h) λbg h=>ob (ld1 bg h) λbh h=>ifB (true) (ob (ldN 4 ap h) λbi h=>ifB (true) (ob (O (.func 187) [bh,bi] h) λbj h=>ifB (true) (some (aG [],h))))) (ob (M.aB (aK N) h) λbk h=>ob (M.aB (aE 13 bk) h) λbl h=>ob (ld1 bl h) λbm h=>ob (M.aB (aQ 3 bm Q) h) λbn h=>ob (M.aB (aE 1 bn) h) λbo h=>ob (ld1 bo h) λbp h=>ob (M.aB (aQ 2 bp ah) h) λbq h=>ob (M.aB (aE 0 bq) h) λbr h=>ob (ld1 br h) λbs h=>ob (O (.func 188) [bs] h) λbt h=>ob (M.aB (ext 0 bt) h) λbu h=>ob (M.aB (ext 1 bt) h) λbv h=>ob (dI prog 3 5 ah h) λbw h=>ob (dI prog 83 23 bu h) λbx h=>ob (M.aB (aE 0 ap) h) λbz h=>ob (ld1 bz h) λca h=>ob (dI prog 3 5 ca h) λcb h=>ob (M.aB (aE 1 ap) h) λcc h=>ob (ld1 cc h) λcd h=>ob (dI prog 3 5 cd h) λce h=>ob (M.aB (aE 3 ap) h) λcf h=>ob (ld1 cf h) λcg h=>ob (M.aB (bld prog 71 [(0,(.int .u8 1)),(1,bw),(2,bx),(3,cb),(4,ce),(5,cg)]) h) λch h=>ob (nJ O R [Q,ch] h) λci h=>some (aG [],h))) (ob (M.aB (bin prog .eql 3 Q (.int .i64 0)) h) λcj h=>aJ cj (ob (M.aB (aK N) h) λck h=>ob (M.aB (aE 14 ck) h) λcl h=>ob (ld1 cl h) λcm h=>ifB (true) (ob (ldN 4 ap h) λcn h=>ifB (true) (ob (O (.func 187) [cm,cn] h) λco h=>ifB (true) (some (aG [],h))))) (ob (M.aB (aK N) h) λcp h=>ob (M.aB (aE 13 cp) h) λcq h=>ob (ld1 cq h) λcr h=>ob (M.aB (aQ 3 cr Q) h) λcs h=>ob (M.aB (aE 1 cs) h) λct h=>ob (ld1 ct h) λcu h=>ob (M.aB (aQ 2 cu ah) h) λcv h=>ob (M.aB (aE 0 cv) h) λcw h=>ob (ld1 cw h) λcx h=>ob (O (.func 188) [cx] h) λcy h=>ob (M.aB (ext 0 cy) h) λcz h=>ob (M.aB (ext 1 cy) h) λda h=>ob (dI prog 3 5 ah h) λdb h=>ob (dI prog 83 23 cz h) λdc h=>ob (M.aB (aE 0 ap) h) λdd h=>ob (ld1 dd h) λde h=>ob (dI prog 3 5 de h) λdf h=>ob (M.aB (aE 1 ap) h) λdg h=>ob (ld1 dg h) λdh h=>ob (dI prog 3 5 dh h) λdi h=>ob (M.aB (aE 3 ap) h) λdj h=>ob (ld1 dj h) λdk h=>ob (M.aB (bld prog 71 [(0,(.int .u8 1)),(1,db),(2,dc),(3,df),(4,di),(5,dk)]) h) λdl h=>ob (nJ O R [Q,dl] h) λdm h=>some (aG [],h)))))))):=by kernel_rfl
def K1:Code:=bU [1,0,0,1,1,0,0,1,1,0,0] (b9 prog 102)
def K3:KV:=(dO 2 (dO 1 (eC prog O L (bU [1,0,0,1,1,1] (b9 prog 102)) k)))
def Dm (O:aC)(L:LV) (k:KV) (a b c d e f g i j l m n o p q r s t u v w x y z A B C D E F G H I J zz zy zx zw zv zu zt zs zr zq zp zo zn zm:Value) (h:aA):OV:=ob (M.aB (bin prog .add 3 p (.int .i64 1)) h) λaa h=>k .normal [a,b,c,d,e,f,g,i,j,l,m,n,o,aa,q,r,s,t,u,v,w,x,y,z,A,B,C,D,E,F,G,H,I,J,zz,zy,zx,zw,zv,zu,zt,zs,zr,zq,zp,zo,zn,aa] h
theorem Uz:K3 O L k (.exit 2) [a,b,c,d,e,f,g,i,j,l,m,n,o,p,q,r,s,t,u,v,w,x,y,z,A,B,C,D,E,F,G,H,I,J,zz,zy,zx,zw,zv,zu,zt,zs,zr,zq,zp,zo,zn,zm] h=Dm O L k a b c d e f g i j l m n o p q r s t u v w x y z A B C D E F G H I J zz zy zx zw zv zu zt zs zr zq zp zo zn zm h:=by kernel_rfl
theorem Kz:aI prog O L K1 k [a,b,c,d,e,f,g,i,j,l,m,n,o,p,q,r,s,t,u,v,w,x,y,z,A,B,C,D,E,F,G,H,I,J,zz,zy,zx,zw,zv,zu,zt,zs,zr,zq,zp,zo,zn,zm] h=ob (M.aB (bin prog .lss 3 x w) h) λaa h=>aJ aa (ob (M.aB (aQ 2 v x) h) λab h=>ob (ldN 2 ab h) λac h=>ob (cL 172 [(.pointer none),(.pointer none)] .fix h) λad h=>ob (stN 2 ad ac h) λae h=>ob (dI prog 3 5 x h) λaf h=>ob (M.aB (aE 0 ad) h) λag h=>ob (ld1 ag h) λah h=>ob (O (.func 47) [ah] h) λai h=>ob (dI prog 83 23 ai h) λaj h=>ob (M.aB (bld prog 71 [(0,(.int .u8 3)),(1,af),(2,aj)]) h) λak h=>ob (nJ O b [e,ak] h) λal h=>ob (dI prog 3 5 x h) λam h=>ob (M.aB (aE 1 ad) h) λan h=>ob (ld1 an h) λao h=>ob (O (.func 154) [ao] h) λap h=>ob (dI prog 83 23 ap h) λaq h=>ob (M.aB (bld prog 71 [(0,(.int .u8 2)),(1,am),(2,aq)]) h) λar h=>ob (nJ O b [e,ar] h) λau h=>ob (M.aB (bin prog .add 3 x (.int .i64 1)) h) λav h=>k .normal [a,b,c,d,e,f,x,ad,j,l,m,n,o,p,q,r,s,t,u,v,w,av,aa,x,ab,ac,b,e,x,af,ag,ah,ai,aj,ak,al,b,e,x,am,an,ao,ap,aq,ar,au,av,zm] h) (k (.exit 2) [a,b,c,d,e,f,g,i,j,l,m,n,o,p,q,r,s,t,u,v,w,x,aa,z,A,B,C,D,E,F,G,H,I,J,zz,zy,zx,zw,zv,zu,zt,zs,zr,zq,zp,zo,zn,zm] h):=by kernel_rfl
def K0:Code:=bU [1,0,0] (b9 prog 102)
def K2 (O:aC)(L:LV):KV:=(dO 0 (eG prog Tryz.f102))
theorem aG7:K2 O L (.exit 0) [a,b,c,d,e,f,g,i,j,l,m,n,o,p,q,r,s,t,u,v,w,x,y,z,A,B,C,D,E,F,G,H,I,J,zz,zy,zx,zw,zv,zu,zt,zs,zr,zq,zp,zo,zn,zm] h=some (aG [],h):=by kernel_rfl
theorem Uy:aI prog O L K0 k [a,b,c,d,e,f,g,i,j,l,m,n,o,p,q,r,s,t,u,v,w,x,y,z,A,B,C,D,E,F,G,H,I,J,zz,zy,zx,zw,zv,zu,zt,zs,zr,zq,zp,zo,zn,zm] h=ob (M.aB (bin prog .lss 3 p o) h) λaa h=>aJ aa (ob (M.aB (aQ 3 n p) h) λab h=>ob (ldN 3 ab h) λac h=>ob (cL 167 [(.int .i64 0),(.slice none 0 0),(.pointer none)] .fix h) λad h=>ob (stN 3 ad ac h) λae h=>ob (M.aB (aE 1 ad) h) λaf h=>ob (ld1 af h) λag h=>ob (M.aB (bJ ag) h) λah h=>L (aI prog O L K1) (K3 O L k) [a,b,c,d,p,ad,g,i,j,l,m,n,o,p,aa,p,ab,ac,af,ag,ah,(.int .i64 0),y,z,A,B,C,D,E,F,G,H,I,J,zz,zy,zx,zw,zv,zu,zt,zs,zr,zq,zp,zo,zn,zm] h) (k (.exit 0) [a,b,c,d,e,f,g,i,j,l,m,n,o,p,aa,r,s,t,u,v,w,x,y,z,A,B,C,D,E,F,G,H,I,J,zz,zy,zx,zw,zv,zu,zt,zs,zr,zq,zp,zo,zn,zm] h):=by kernel_rfl
theorem aG8:bX prog O L 102 [N,P] h=ob (M.aB (aK N) h) λaa h=>ob (M.aB (aE 13 aa) h) λab h=>ob (ld1 ab h) λac h=>ob (M.aB (bJ ac) h) λad h=>L (aI prog O L K0) (K2 O L) [N,P,undef,undef,undef,undef,undef,undef,N,aa,ab,ac,ad,(.int .i64 0),undef,undef,undef,undef,undef,undef,undef,undef,undef,undef,undef,undef,undef,undef,undef,undef,undef,undef,undef,undef,undef,undef,undef,undef,undef,undef,undef,undef,undef,undef,undef,undef,undef,undef] h:=by kernel_rfl
theorem U0:bX prog O L 111 [N,P,Q] h=ob (cL 172 [(.pointer none),(.pointer none)] .fix h) λaa h=>ob (M.aB (bin prog .lss 3 P (.int .i64 1)) h) λab h=>ob (gd ab false (M.cB P) h) λac h=>ob (gd ab false (M.cB N) h) λad h=>ob (gd ab false (M.aB (aK ad)) h) λae h=>ob (gd ab false (M.aB (aE 13 ae)) h) λaf h=>ob (gd ab false (ld1 af) h) λag h=>ob (gd ab false (M.aB (bJ ag)) h) λah h=>ob (gd ab false (M.aB (bin prog .geq 3 ac ah)) h) λai h=>ob (M.aB (cJ ab (.bool true) ai) h) λaj h=>ob (gd aj false (M.cB Q) h) λak h=>ob (gd aj false (M.aB (bin prog .lss 3 ak (.int .i64 0))) h) λal h=>ob (M.aB (cJ aj (.bool true) al) h) λam h=>ob (gd am false (M.cB Q) h) λan h=>ob (gd am false (M.cB N) h) λao h=>ob (gd am false (M.aB (aK ao)) h) λap h=>ob (gd am false (M.aB (aE 1 ap)) h) λaq h=>ob (gd am false (M.aB (aE 2 aq)) h) λar h=>ob (gd am false (ld1 ar) h) λau h=>ob (gd am false (M.aB (bin prog .geq 3 an au)) h) λav h=>ob (M.aB (cJ am (.bool true) av) h) λaw h=>aJ aw (ob (M.aB (bld prog 172 []) h) λax h=>ob (stN 2 aa ax h) λay h=>ob (ldN 2 aa h) λw23 _=>some (aG [w23,(.bool false)],h)) (ob (M.aB (aK N) h) λaz h=>ob (M.aB (aE 13 az) h) λba h=>ob (ld1 ba h) λbb h=>ob (M.aB (aQ 3 bb P) h) λbc h=>ob (M.aB (aE 1 bc) h) λbd h=>ob (ld1 bd h) λbe h=>ob (M.aB (aQ 2 be Q) h) λbf h=>ob (ldN 2 bf h) λbg h=>ob (stN 2 aa bg h) λbh h=>ob (ldN 2 aa h) λw33 _=>some (aG [w33,(.bool true)],h)):=by kernel_rfl
def K4:Code:=bU [1,0,1,0,0] (b9 prog 114)
def Do:KV:=(dO 0 (eC prog O L (bU [1,1] (b9 prog 114)) (eG prog Tryz.f114)))
theorem aG9:Do O L (.exit 0) [a,b,c,d,e,f,g,i,j,l,m,n,o,p,q,r,s,t,u] h=some (aG [(.int .i64 (-1))],h):=by kernel_rfl
theorem aHb:Do O L .ret [a,b,c,d,e,f,g,i,j,l,m,n,o,p,q,r,s,t,u] h=some (aG [e],h):=by kernel_rfl
theorem U1:aI prog O L K4 k [a,b,c,d,e,f,g,i,j,l,m,n,o,p,q,r,s,t,u] h=ob (M.aB (bin prog .lss 3 j i) h) λaa h=>aJ aa (ob (M.aB (aQ 3 a j) h) λab h=>ob (ldN 3 ab h) λac h=>ob (nJ O b [ac] h) λad h=>aJ ad (k .ret [a,b,c,d,j,j,g,i,j,aa,j,b,a,j,ab,ac,ad,j,u] h) (ob (M.aB (bin prog .add 3 j (.int .i64 1)) h) λae h=>k .normal [a,b,c,d,e,j,g,i,ae,aa,j,b,a,j,ab,ac,ad,t,ae] h)) (k (.exit 0) [a,b,c,d,e,f,g,i,j,aa,m,n,o,p,q,r,s,t,u] h):=by kernel_rfl
theorem aHa:bX prog O L 114 [N,P] h=ob (M.aB (bJ N) h) λaa h=>L (aI prog O L K4) (Do O L) [N,P,undef,undef,(.int .i64 0),undef,N,aa,(.int .i64 0),undef,undef,undef,undef,undef,undef,undef,undef,undef,undef] h:=by kernel_rfl
theorem aHc:bX prog O L 115 [N,P] h=ob (cL 167 (Value.cells N).toList .fix h) λaa h=>ob (M.aB (aE 0 aa) h) λab h=>ob (ld1 ab h) λac h=>ob (ld1 P h) λad h=>ob (M.aB (bin prog .eql 3 ac ad) h) λae h=>some (aG [ae],h):=by kernel_rfl
theorem U2:bX prog O L 116 [N] h=ob (cL 71 [(.int .u8 0),(.int .u8 0),(.int .u16 0),(.int .u8 0),(.int .u8 0),(.int .u32 0)] .fix h) λaa h0=>ob (cL 71 [(.int .u8 0),(.int .u8 0),(.int .u16 0),(.int .u8 0),(.int .u8 0),(.int .u32 0)] .fix h0) λab h1=>ob (M.aB (bJ N) h1) λac h2=>ob (M.aB (bin prog .neq 3 ac (.int .i64 6)) h2) λad h3=>ob (gd ad true (M.cB N) h3) λae h4=>ob (gd ad true (M.aB (bJ ae)) h4) λaf h5=>ob (gd ad true (M.aB (bin prog .neq 3 af (.int .i64 12))) h5) λag h6=>ob (M.aB (cJ ad ag (.bool false)) h6) λah h7=>aJ ah (ob (ldN 6 ab h7) λai h8=>ob (stN 6 aa ai h8) λaj h9=>ob (ldN 6 aa h9) λw10 _=>some (aG [w10,(.int .u16 30)],h9)) (ob (M.aB (bJ N) h7) λak h11=>ob (M.aB (bin prog .sub 3 ak (.int .i64 2)) h11) λal h12=>ob (M.aB (bJ N) h12) λam h13=>ob (M.aB (bin prog .sub 3 am (.int .i64 2)) h13) λan h14=>ob (slc prog 1 N none (some al) (some an) h14) λao h15=>ifB (true) (ob (O (.func 175) [ao] h15) λap h16=>ifB (true) (ob (dI prog 23 29 ap h16) λaq h17=>ob (M.aB (bJ N) h17) λar h18=>ob (M.aB (bin prog .sub 3 ar (.int .i64 2)) h18) λau h19=>ob (slc prog 1 N (some au) none none h19) λav h20=>ifB (chk ((slc prog 1 N (some au) none none) h15) av&&(true)) (ob (O (.func 194) [av] h20) λaw h21=>ifB (true) (ob (M.aB (bin prog .neq 29 aq aw) h21) λax h22=>aJ ax (ob (ldN 6 ab h22) λay h23=>ob (stN 6 aa ay h23) λaz h24=>ob (ldN 6 aa h24) λw25 _=>some (aG [w25,(.int .u16 30)],h24)) (ob (M.aB (aQ 1 N (.int .i64 0)) h22) λba h26=>ob (ld1 ba h26) λbb h27=>ob (M.aB (bin prog .eql 5 bb (.int .u8 1)) h27) λbc h28=>ob (M.aB (bJ N) h28) λbd h29=>ob (M.aB (bin prog .eql 3 bd (.int .i64 12)) h29) λbe h30=>ob (M.aB (bin prog .neq 4 bc be) h30) λbf h31=>aJ bf (ob (ldN 6 ab h31) λbg h32=>ob (stN 6 aa bg h32) λbh h33=>ob (ldN 6 aa h33) λw34 _=>some (aG [w34,(.int .u16 30)],h33)) (ob (M.aB (aQ 1 N (.int .i64 0)) h31) λbi h35=>ob (ld1 bi h35) λbj h36=>ifB (true) (ob (M.aB (aQ 1 N (.int .i64 1)) h36) λbk h37=>ob (ld1 bk h37) λbl h38=>ifB (true) (ob (slc prog 1 N (some (.int .i64 2)) (some (.int .i64 4)) none h38) λbm h39=>ifB (true) (ob (O (.func 194) [bm] h39) λbn h40=>ifB (chk ((ld1 bk) h40) bl&&(chk ((ld1 bi) h40) bj&&(true))) (ob (dI prog 29 23 bn h40) λbo h41=>ob (M.aB (bld prog 71 [(0,bj),(1,bl),(2,bo)]) h41) λbp h42=>ob (stN 6 ab bp h42) λbq h43=>ifB (true) (ob (M.aB (bJ N) h43) λbr h44=>ob (M.aB (bin prog .eql 3 br (.int .i64 12)) h44) λbs h45=>aJ bs (ob (M.aB (aQ 1 N (.int .i64 4)) h45) λbt h46=>ob (ld1 bt h46) λbu h47=>ifB (true) (ob (M.aB (aQ 1 N (.int .i64 5)) h47) λbv h48=>ob (ld1 bv h48) λbw h49=>ifB (true) (ob (slc prog 1 N (some (.int .i64 6)) (some (.int .i64 10)) none h49) λbx h50=>ifB (true) (ob (O (.func 194) [bx] h50) λbz h51=>ifB (chk ((ld1 bv) h51) bw&&(chk ((ld1 bt) h51) bu&&(true))) (ob (M.aB (aE 3 ab) h51) λca h52=>ob (stN 1 ca bu h52) λcb h53=>ifB (chk ((ld1 bv) h53) bw&&(true)) (ob (M.aB (aE 4 ab) h53) λcc h54=>ob (stN 1 cc bw h54) λcd h55=>ifB (true) (ob (M.aB (aE 5 ab) h55) λce h56=>ob (stN 1 ce bz h56) λcf h57=>ifB (true) (ob (ldN 6 ab h57) λcg h58=>ob (O (.func 172) [cg] h58) λch h59=>ob (M.aB (un prog .not ch) h59) λci h60=>aJ ci (ob (M.aB (bld prog 71 []) h60) λcj h61=>ob (stN 6 aa cj h61) λck h62=>ob (ldN 6 aa h62) λw63 _=>some (aG [w63,(.int .u16 30)],h62)) (ob (ldN 6 ab h60) λcl h64=>ob (stN 6 aa cl h64) λcm h65=>ob (ldN 6 aa h65) λw66 _=>some (aG [w66,(.int .u16 0)],h65)))))))))) (ob (ldN 6 ab h45) λcn h67=>ob (O (.func 172) [cn] h67) λco h68=>ob (M.aB (un prog .not co) h68) λcp h69=>aJ cp (ob (M.aB (bld prog 71 []) h69) λcq h70=>ob (stN 6 aa cq h70) λcr h71=>ob (ldN 6 aa h71) λw72 _=>some (aG [w72,(.int .u16 30)],h71)) (ob (ldN 6 ab h69) λcs h73=>ob (stN 6 aa cs h73) λct h74=>ob (ldN 6 aa h74) λw75 _=>some (aG [w75,(.int .u16 0)],h74))))))))))))))):=by kernel_rfl
theorem aHd:bX prog O L 117 [N,P] h=ob (M.aB (aK N) h) λaa h=>ob (M.aB (aE 0 aa) h) λab h=>ob (M.aB (aE 1 ab) h) λac h=>ob (ld1 ac h) λad h=>ob (O (.func 195) [ad,P] h) λae h=>ob (M.aB (aK N) h) λaf h=>ob (M.aB (aE 0 af) h) λag h=>ob (M.aB (aE 1 ag) h) λah h=>ob (ld1 ah h) λai h=>ob (M.aB (bin prog .leq 83 ae ai) h) λaj h=>ob (gd aj false (M.cB ae) h) λak h=>ob (gd aj false (M.cB N) h) λal h=>ob (gd aj false (M.aB (aK al)) h) λam h=>ob (gd aj false (M.aB (aE 0 am)) h) λan h=>ob (gd aj false (M.aB (aE 0 an)) h) λao h=>ob (gd aj false (ld1 ao) h) λap h=>ob (gd aj false (M.aB (bin prog .add 83 ap (.int .u64 8))) h) λaq h=>ob (gd aj false (M.aB (bin prog .gtr 83 ak aq)) h) λar h=>ob (M.aB (cJ aj (.bool true) ar) h) λau h=>aJ au (some (aG [(.bool false)],h)) (ob (M.aB (aK N) h) λav h=>ob (M.aB (aE 0 av) h) λaw h=>ob (M.aB (aE 1 aw) h) λax h=>ob (stN 1 ax ae h) λay h=>some (aG [(.bool true)],h)):=by kernel_rfl
theorem aHe:bX prog O L 118 [N,P] h=ob (O (.func 196) [N,P] h) λaa h=>ob (M.aB (ext 0 aa) h) λab h=>ob (M.aB (ext 1 aa) h) λac h=>ob (M.aB (ext 2 aa) h) λad h=>ob (M.aB (un prog .not ad) h) λae h=>ob (gd ae false (M.cB ac) h) λaf h=>ob (gd ae false (M.aB (bin prog .eql 83 af (.int .u64 0))) h) λag h=>ob (M.aB (cJ ae (.bool true) ag) h) λah h=>ob (gd ah false (M.cB ac) h) λai h=>ob (gd ah false (M.cB N) h) λaj h=>ob (gd ah false (M.aB (aK aj)) h) λak h=>ob (gd ah false (M.aB (aE 2 ak)) h) λal h=>ob (gd ah false (ld1 al) h) λam h=>ifB (true) (ob (gd ah false (M.cB N) h) λan h=>ob (gd ah false (M.aB (aK an)) h) λao h=>ob (gd ah false (M.aB (aE 1 ao)) h) λap h=>ob (gd ah false (ld1 ap) h) λaq h=>ifB (true) (ob (gd ah false (M.aB (bin prog .sub 3 am aq)) h) λar h=>ob (gd ah false (dI prog 3 83 ar) h) λau h=>ob (gd ah false (M.aB (bin prog .gtr 83 ai au)) h) λav h=>ob (M.aB (cJ ah (.bool true) av) h) λaw h=>aJ aw (some (aG [(.bool false)],h)) (ob (M.aB (aK N) h) λax h=>ob (M.aB (aE 0 ax) h) λay h=>ob (stN 1 ay ab h) λaz h=>some (aG [(.bool true)],h)))):=by kernel_rfl
theorem K5:bX prog O L 119 [N,P,Q,R] h=ob (cL 172 (Value.cells Q).toList .fix h) λaa h0=>ob (cL 71 (Value.cells R).toList .fix h0) λab h1=>ob (M.aB (aE 3 ab) h1) λac h2=>ob (ld1 ac h2) λad h3=>ifB (true) (ob (M.aB (aE 4 ab) h3) λae h4=>ob (ld1 ae h4) λaf h5=>ifB (true) (ob (M.aB (lJ prog true [ad,af]) h5) λag h6=>ob (dI prog 5 3 ag h6) λah h7=>ob (M.aB (aK N) h7) λai h8=>ob (M.aB (aE 1 ai) h8) λaj h9=>ob (M.aB (aE 0 aj) h9) λak h10=>ob (ld1 ak h10) λal h11=>ifB (true) (ob (M.aB (bin prog .geq 3 ah al) h11) λam h12=>aJ am (some (aG [(.int .u16 30)],h12)) (ob (M.aB (aE 1 aa) h12) λan h13=>ob (ld1 an h13) λao h14=>ob (M.aB (aE 2 ab) h14) λap h15=>ob (ld1 ap h15) λaq h16=>ob (O (.func 197) [ao,aq] h16) λar h17=>ob (M.aB (bin prog .neq 60 ar (.int .u16 0)) h17) λau h18=>aJ au (some (aG [ar],h18)) (ob (M.aB (aE 3 ab) h18) λav h19=>ob (ld1 av h19) λaw h20=>ob (dI prog 5 3 aw h20) λax h21=>ob (M.aB (aE 4 ab) h21) λay h22=>ob (ld1 ay h22) λaz h23=>ob (dI prog 5 3 az h23) λba h24=>ob (M.aB (aE 1 ab) h24) λbb h25=>ob (ld1 bb h25) λbc h26=>ob (dI prog 5 3 bc h26) λbd h27=>ob (M.aB (aE 5 ab) h27) λbe h28=>ob (ld1 be h28) λbf h29=>ob (M.aB (bld prog 31 [(0,ax),(1,ba),(2,bd),(3,bf)]) h29) λbg h30=>ob (cL 31 [(.int .i64 0),(.int .i64 0),(.int .i64 0),(.int .u32 0)] .fix h30) λbh h31=>ob (stN 4 bh bg h31) λbi h32=>ob (M.aB (aK N) h32) λbj h33=>ob (M.aB (aE 15 bj) h33) λbk h34=>ob (ld1 bk h34) λbl h35=>ifB (true) (ob (M.aB (aE 1 bh) h35) λbm h36=>ob (ld1 bm h36) λbn h37=>ifB (true) (ob (O (.func 178) [N,bn] h37) λbo h38=>ifB (chk ((ld1 bk) h38) bl&&(true)) (ob (M.aB (aE 2 bh) h38) λbp h39=>ob (ld1 bp h39) λbq h40=>ifB (chk ((ld1 bp) h37) bq&&(true)) (ob (ldN 4 bh h40) λbr h41=>ifB (chk ((ldN 4 bh) h37) br&&(true)) (ob (O (.func 177) [bl,P,bo,bq,br] h41) λbs h42=>ifB (true) (some (aG [(.int .u16 0)],h42)))))))))))):=by kernel_rfl
theorem aHf:bX prog O L 120 [N] h=ob (cL 202 (Value.cells N).toList .fix h) λaa h=>ob (M.aB (aE 1 aa) h) λab h=>ob (ld1 ab h) λac h=>ob (M.aB (aE 0 aa) h) λad h=>ob (ld1 ad h) λae h=>ob (M.aB (bin prog .sub 83 ac ae) h) λaf h=>ob (dI prog 83 3 af h) λag h=>some (aG [ag],h):=by kernel_rfl
theorem U3:bX prog O L 121 [N] h=ob (M.aB (bin prog .eql 42 N (.slice none 0 0)) h) λaa h=>aJ aa (some (aG [(.slice none 0 0)],h)) (ob (dL 31 4 0 [(.int .i64 0),(.int .i64 0),(.int .i64 0),(.int .u32 0)] [] h) λab h=>ob (app 31 4 32 ab N h) λac h=>some (aG [ac],h)):=by kernel_rfl
theorem aHg:bX prog O L 154 [N] h=ob (M.aB (aK N) h) λaa h=>ob (M.aB (aE 0 aa) h) λab h=>ob (ld1 ab h) λac h=>ifB (true) (ob (M.aB (aK N) h) λad h=>ob (M.aB (aE 2 ad) h) λae h=>ob (ld1 ae h) λaf h=>ifB (true) (ob (M.aB (aK N) h) λag h=>ob (M.aB (aE 1 ag) h) λah h=>ob (ld1 ah h) λai h=>ifB (true) (ob (M.aB (bin prog .sub 3 af ai) h) λaj h=>ob (dI prog 3 83 aj h) λak h=>ob (M.aB (bin prog .add 83 ac ak) h) λal h=>some (aG [al],h)))):=by kernel_rfl
theorem aHh:bX prog O L 172 [N] h=ob (cL 71 (Value.cells N).toList .fix h) λaa h=>ob (M.aB (aE 0 aa) h) λab h=>ob (ld1 ab h) λac h=>ob (M.aB (bin prog .eql 5 ac (.int .u8 1)) h) λad h=>aJ ad (ob (M.aB (aE 1 aa) h) λae h=>ob (ld1 ae h) λaf h=>ob (M.aB (bin prog .lss 5 af (.int .u8 3)) h) λag h=>ob (gd ag true (M.aB (aE 3 aa)) h) λah h=>ob (gd ag true (ld1 ah) h) λai h=>ob (gd ag true (M.aB (aE 4 aa)) h) λaj h=>ob (gd ag true (ld1 aj) h) λak h=>ob (gd ag true (M.aB (lJ prog true [ai,ak])) h) λal h=>ob (gd ag true (M.aB (bin prog .lss 5 al (.int .u8 6))) h) λam h=>ob (M.aB (cJ ag am (.bool false)) h) λan h=>ob (gd an true (M.aB (aE 3 aa)) h) λao h=>ob (gd an true (ld1 ao) h) λap h=>ob (gd an true (M.aB (aE 4 aa)) h) λaq h=>ob (gd an true (ld1 aq) h) λar h=>ob (gd an true (M.aB (bin prog .neq 5 ap ar)) h) λau h=>ob (M.aB (cJ an au (.bool false)) h) λav h=>some (aG [av],h)) (ob (M.aB (bin prog .eql 5 ac (.int .u8 2)) h) λaw h=>aJ aw (aJ aw (ob (M.aB (aE 1 aa) h) λax h=>ob (ld1 ax h) λay h=>ob (M.aB (bin prog .lss 5 ay (.int .u8 3)) h) λaz h=>ob (gd az true (ldN 6 aa) h) λba h=>ob (gd az true (M.aB (aE 0 aa)) h) λbb h=>ob (gd az true (ld1 bb) h) λbc h=>ob (gd az true (M.aB (aE 1 aa)) h) λbd h=>ob (gd az true (ld1 bd) h) λbe h=>ob (gd az true (M.aB (aE 2 aa)) h) λbf h=>ob (gd az true (ld1 bf) h) λbg h=>ob (gd az true (M.aB (bld prog 71 [(0,bc),(1,be),(2,bg)])) h) λbh h=>ob (gd az true (M.aB (bin prog .eql 71 ba bh)) h) λbi h=>ob (M.aB (cJ az bi (.bool false)) h) λbj h=>some (aG [bj],h)) (some (aG [(.bool false)],h))) (ob (M.aB (bin prog .eql 5 ac (.int .u8 3)) h) λbk h=>aJ bk (ob (M.aB (aE 1 aa) h) λbl h=>ob (ld1 bl h) λbm h=>ob (M.aB (bin prog .lss 5 bm (.int .u8 3)) h) λbn h=>ob (gd bn true (ldN 6 aa) h) λbo h=>ob (gd bn true (M.aB (aE 0 aa)) h) λbp h=>ob (gd bn true (ld1 bp) h) λbq h=>ob (gd bn true (M.aB (aE 1 aa)) h) λbr h=>ob (gd bn true (ld1 br) h) λbs h=>ob (gd bn true (M.aB (aE 2 aa)) h) λbt h=>ob (gd bn true (ld1 bt) h) λbu h=>ob (gd bn true (M.aB (bld prog 71 [(0,bq),(1,bs),(2,bu)])) h) λbv h=>ob (gd bn true (M.aB (bin prog .eql 71 bo bv)) h) λbw h=>ob (M.aB (cJ bn bw (.bool false)) h) λbx h=>some (aG [bx],h)) (some (aG [(.bool false)],h)))):=by kernel_rfl
theorem aHi:bX prog O L 173 [N,P] h=ob (M.aB (bin prog .shr 23 P (.int .u64 8)) h) λaa h=>ob (dI prog 23 5 aa h) λab h=>ob (dI prog 23 5 P h) λac h=>ob (dL 5 1 2 [(.int .u8 0)] [(0,ab),(1,ac)] h) λad h=>ob (app 5 1 1 N ad h) λae h=>some (aG [ae],h):=by kernel_rfl
theorem aHj:bX prog O L 174 [N,P] h=ob (M.aB (bin prog .shr 29 P (.int .u64 16)) h) λaa h=>ob (dI prog 29 23 aa h) λab h=>ob (O (.func 173) [N,ab] h) λac h=>ob (dI prog 29 23 P h) λad h=>ob (O (.func 173) [ac,ad] h) λae h=>some (aG [ae],h):=by kernel_rfl
def K6:Code:=bU [1,1,0,1,0,0] (b9 prog 175)
def K7:KV:=(dO 0 (eC prog O L (bU [1,1,1] (b9 prog 175)) (eG prog Tryz.f175)))
theorem aHk:K7 O L (.exit 0) [a,b,c,d,e,f,g,i,j,l,m,n,o,p,q,r] h=ob (ld1 d h) λaa h=>some (aG [aa],h):=by kernel_rfl
theorem U4:aI prog O L K6 k [a,b,c,d,e,f,g,i,j,l,m,n,o,p,q,r] h=ob (M.aB (bin prog .lss 3 j i) h) λaa h=>aJ aa (ob (M.aB (aQ 1 g j) h) λab h=>ob (ld1 ab h) λac h=>ob (O (.func 233) [d,ac] h) λad h=>ob (M.aB (bin prog .add 3 j (.int .i64 1)) h) λae h=>k .normal [a,b,c,d,e,ac,g,i,ae,aa,ab,ac,ac,ad,ae,r] h) (k (.exit 0) [a,b,c,d,e,f,g,i,j,aa,m,n,o,p,q,r] h):=by kernel_rfl
theorem aHl:bX prog O L 175 [N] h=ob (cL 331 [(.int .u16 0)] .fix h) λaa h=>ob (stN 1 aa (.int .u16 65535) h) λab h=>ob (M.aB (bJ N) h) λac h=>L (aI prog O L K6) (K7 O L) [N,undef,(.int .u16 0),aa,undef,undef,N,ac,(.int .i64 0),undef,undef,undef,undef,undef,undef,undef] h:=by kernel_rfl
theorem U5:bX prog O L 176 [N,P] h=ob (cL 31 [(.int .i64 0),(.int .i64 0),(.int .i64 0),(.int .u32 0)] .fix h) λaa h=>ob (O (.func 40) [N,P] h) λab h=>ob (M.aB (bin prog .eql 3 ab (.int .i64 0)) h) λac h=>aJ ac (ob (M.aB (bld prog 31 []) h) λad h=>ob (stN 4 aa ad h) λae h=>ob (ldN 4 aa h) λw5 _=>some (aG [w5,(.bool false)],h)) (ob (M.aB (aK N) h) λaf h=>ob (M.aB (aE 0 af) h) λag h=>ob (M.aB (pW 3 1 ag P) h) λah h=>ob (ld1 ah h) λai h=>ob (M.aB (aQ 4 ai (.int .i64 0)) h) λaj h=>ob (ldN 4 aj h) λak h=>ob (cL 31 [(.int .i64 0),(.int .i64 0),(.int .i64 0),(.int .u32 0)] .fix h) λal h=>ob (stN 4 al ak h) λam h=>ob (M.aB (aK N) h) λan h=>ob (M.aB (aE 0 an) h) λao h=>ob (M.aB (pW 3 1 ao P) h) λap h=>ob (ld1 ap h) λaq h=>ifB (true) (ob (slc prog 4 aq (some (.int .i64 1)) none none h) λar h=>ifB (true) (ob (M.aB (aK N) h) λau h=>ob (M.aB (aE 0 au) h) λav h=>ob (M.aB (pW 3 1 av P) h) λaw h=>ob (stN 1 aw ar h) λax h=>ifB (true) (ob (ldN 4 al h) λay h=>ob (stN 4 aa ay h) λaz h=>ob (ldN 4 aa h) λw25 _=>some (aG [w25,(.bool true)],h))))):=by kernel_rfl
theorem aHm:bX prog O L 178 [N,P] h=ob (M.aB (aK N) h) λaa h=>ob (M.aB (aE 12 aa) h) λab h=>ob (ld1 ab h) λac h=>ob (M.aB (bin prog .eql 3 P ac) h) λad h=>aJ ad (some (aG [(.int .i64 0)],h)) (ob (M.aB (aK N) h) λae h=>ob (M.aB (aE 1 ae) h) λaf h=>ob (M.aB (aE 10 af) h) λag h=>ob (ld1 ag h) λah h=>ifB (true) (ob (M.aB (aK N) h) λai h=>ob (M.aB (aE 12 ai) h) λaj h=>ob (ld1 aj h) λak h=>ifB (true) (ob (M.aB (aQ 1 ah ak) h) λal h=>ob (ld1 al h) λam h=>ifB (true) (ob (M.aB (aQ 1 am P) h) λan h=>ob (ld1 an h) λao h=>ifB (true) (ob (cL 3 [(.int .i64 0)] .fix h) λap h=>ob (stN 1 ap ao h) λaq h=>ifB (true) (ob (M.aB (aK N) h) λar h=>ob (M.aB (aE 13 ar) h) λau h=>ob (ld1 au h) λav h=>ob (slc prog 3 av (some (.int .i64 1)) none none h) λaw h=>ob (O (.func 114) [aw,(.func (.func 236) #[] #[ap])] h) λax h=>ob (M.aB (bin prog .add 3 ax (.int .i64 1)) h) λay h=>some (aG [ay],h))))))):=by kernel_rfl
def K8:Code:=bU [1,1,1,1,1,1,0,0,0] (b9 prog 179)
def K9:KV:=(dO 0 (eC prog O L (bU [1,1,1,1,1,1,1] (b9 prog 179)) (eG prog Tryz.f179)))
theorem aHr:K9 O L (.exit 0) [a,b,c,d,e,f,g,i,j,l,m,n,o,p,q,r,s,t,u,v,w,x,y,z,A,B,C,D,E,F,G,H,I,J,zz,zy,zx,zw,zv,zu,zt,zs,zr,zq,zp,zo,zn,zm] h=some (aG [i],h):=by kernel_rfl
theorem aHn:aI prog O L K8 k [a,b,c,d,e,f,g,i,j,l,m,n,o,p,q,r,s,t,u,v,w,x,y,z,A,B,C,D,E,F,G,H,I,J,zz,zy,zx,zw,zv,zu,zt,zs,zr,zq,zp,zo,zn,zm] h=ob (M.aB (bJ i) h) λaa h=>ob (M.aB (bin prog .lss 3 j aa) h) λab h=>aJ ab (ob (slc prog 1 i (some j) none none h) λac h=>ifB (true) (ob (slc prog 1 i none (some j) none h) λad h=>ifB (true) (ob (cpy 1 ac ad h) λae h=>ifB (true) (ob (M.aB (bin prog .add 3 j ae) h) λaf h=>k .normal [a,b,c,d,e,f,g,i,af,l,m,n,o,p,q,r,s,t,u,v,w,x,y,z,A,B,C,D,E,F,G,H,I,J,j,i,aa,ab,j,i,j,ac,i,j,ad,ae,af,zm] h)))) (k (.exit 0) [a,b,c,d,e,f,g,i,j,l,m,n,o,p,q,r,s,t,u,v,w,x,y,z,A,B,C,D,E,F,G,H,I,J,j,i,aa,ab,zv,zu,zt,zs,zr,zq,zp,zo,zn,zm] h):=by kernel_rfl
def aHq:Code:=bU [1,1,1,1,1,1,0,0,0] (b9 prog 179)
def aHv:KV:=(dO 0 (eC prog O L (bU [1,1,1,1,1,1,1] (b9 prog 179)) (eG prog Tryz.f179)))
def aHp:Code:=bU [1,1,1,1,1,1,0,0,0] (b9 prog 179)
def aHu:KV:=(dO 0 (eC prog O L (bU [1,1,1,1,1,1,1] (b9 prog 179)) (eG prog Tryz.f179)))
def aHo:Code:=bU [1,1,1,1,1,1,0,0,0] (b9 prog 179)
def aHt:KV:=(dO 0 (eC prog O L (bU [1,1,1,1,1,1,1] (b9 prog 179)) (eG prog Tryz.f179)))
theorem aHs:bX prog O L 179 [N,P] h=ob (M.aB (bin prog .lss 3 P (.int .i64 0)) h) λaa h=>aJ aa (ob (M.dC /- operation -/ h) λab h=>ob (M.dC /- operation -/ h) λac h=>ob (M.aB (bJ N) h) λad h=>ob (dI prog 3 187 ad h) λae h=>ob (dI prog 3 187 P h) λaf h=>ob (O (.func 237) [ae,af] h) λag h=>ob (M.aB (ext 0 ag) h) λah h=>ob (M.aB (ext 1 ag) h) λai h=>ob (M.aB (bin prog .gtr 187 ah (.int .u64 0)) h) λaj h=>ob (gd aj false (M.cB ai) h) λak h=>ob (gd aj false (M.aB (bin prog .gtr 187 ak (.int .u64 9223372036854775807))) h) λal h=>ob (M.aB (cJ aj (.bool true) al) h) λam h=>aJ am (ob (M.dC /- operation -/ h) λan h=>ob (M.dC /- operation -/ h) λao h=>ob (dI prog 187 3 ai h) λap h=>ob (kF 3 1 8 [(.int .i64 0)] ap ap h) λaq h=>ob (cpy 1 aq N h) λar h=>L (aI prog O L aHo) (aHt O L) [N,P,undef,undef,(.slice none 0 0),ah,ai,aq,ar,P,aa,ab,ag,N,ad,ae,P,af,ag,ah,ai,ah,aj,aj,ak,al,am,an,ai,ap,aq,aq,N,ar,undef,undef,undef,undef,undef,undef,undef,undef,undef,undef,undef,undef,undef,undef] h) (ob (dI prog 187 3 ai h) λau h=>ob (kF 3 1 8 [(.int .i64 0)] au au h) λav h=>ob (cpy 1 av N h) λaw h=>L (aI prog O L aHp) (aHu O L) [N,P,undef,undef,(.slice none 0 0),ah,ai,av,aw,P,aa,ab,ag,N,ad,ae,P,af,ag,ah,ai,ah,aj,aj,ak,al,am,undef,ai,au,av,av,N,aw,undef,undef,undef,undef,undef,undef,undef,undef,undef,undef,undef,undef,undef,undef] h)) (ob (M.aB (bJ N) h) λax h=>ob (dI prog 3 187 ax h) λay h=>ob (dI prog 3 187 P h) λaz h=>ob (O (.func 237) [ay,az] h) λba h=>ob (M.aB (ext 0 ba) h) λbb h=>ob (M.aB (ext 1 ba) h) λbc h=>ob (M.aB (bin prog .gtr 187 bb (.int .u64 0)) h) λbd h=>ob (gd bd false (M.cB bc) h) λbe h=>ob (gd bd false (M.aB (bin prog .gtr 187 be (.int .u64 9223372036854775807))) h) λbf h=>ob (M.aB (cJ bd (.bool true) bf) h) λbg h=>aJ bg (ob (M.dC /- operation -/ h) λbh h=>ob (M.dC /- operation -/ h) λbi h=>ob (dI prog 187 3 bc h) λbj h=>ob (kF 3 1 8 [(.int .i64 0)] bj bj h) λbk h=>ob (cpy 1 bk N h) λbl h=>L (aI prog O L aHq) (aHv O L) [N,P,undef,undef,(.slice none 0 0),bb,bc,bk,bl,P,aa,undef,ba,N,ax,ay,P,az,ba,bb,bc,bb,bd,bd,be,bf,bg,bh,bc,bj,bk,bk,N,bl,undef,undef,undef,undef,undef,undef,undef,undef,undef,undef,undef,undef,undef,undef] h) (ob (dI prog 187 3 bc h) λbm h=>ob (kF 3 1 8 [(.int .i64 0)] bm bm h) λbn h=>ob (cpy 1 bn N h) λbo h=>L (aI prog O L K8) (K9 O L) [N,P,undef,undef,(.slice none 0 0),bb,bc,bn,bo,P,aa,undef,ba,N,ax,ay,P,az,ba,bb,bc,bb,bd,bd,be,bf,bg,undef,bc,bm,bn,bn,N,bo,undef,undef,undef,undef,undef,undef,undef,undef,undef,undef,undef,undef,undef,undef] h)):=by kernel_rfl
def La:Code:=bU [1,1,0,1,0,0] (b9 prog 181)
def Lb:KV:=(dO 0 (eC prog O L (bU [1,1,1] (b9 prog 181)) (eG prog Tryz.f181)))
theorem aHw:Lb O L (.exit 0) [a,b,c,d,e,f,g,i,j,l,m,n,o,p,q,r,s,t,u,v,w,x,y,z,A,B,C,D,E,F,G,H,I,J,zz,zy,zx,zw,zv,zu,zt,zs,zr,zq,zp,zo,zn,zm,zl,zk,zj,zi,zh,zg,zf,ze,zd] h=some (aG [i],h):=by kernel_rfl
theorem U6:aI prog O L La k [a,b,c,d,e,f,g,i,j,l,m,n,o,p,q,r,s,t,u,v,w,x,y,z,A,B,C,D,E,F,G,H,I,J,zz,zy,zx,zw,zv,zu,zt,zs,zr,zq,zp,zo,zn,zm,zl,zk,zj,zi,zh,zg,zf,ze,zd] h=ob (M.aB (bin prog .lss 3 s r) h) λaa h=>aJ aa (ob (M.aB (aQ 1 q s) h) λab h=>ob (ld1 ab h) λac h=>ob (M.aB (aK b) h) λad h=>ob (M.aB (aE 1 ad) h) λae h=>ob (ld1 ae h) λaf h=>ifB (true) (ob (M.aB (bin prog .and 23 ac af) h) λag h=>ob (M.aB (aK a) h) λah h=>ob (M.aB (aE 0 ah) h) λai h=>ob (ld1 ai h) λaj h=>ifB (true) (ob (M.aB (aQ 1 aj s) h) λak h=>ob (ld1 ak h) λal h=>ifB (true) (ob (M.aB (bJ c) h) λam h=>ob (O (.func 182) [ag,al,am] h) λan h=>ifB (true) (ob (M.aB (bin prog .neq 3 an (.int .i64 (-1))) h) λao h=>ob (gd ao true (M.cB b) h) λap h=>ob (gd ao true (M.aB (aK ap)) h) λaq h=>ob (gd ao true (M.aB (aE 2 aq)) h) λar h=>ob (gd ao true (ld1 ar) h) λau h=>ob (gd ao true (M.cB s) h) λav h=>ob (gd ao true (O (.func 240) [au,av]) h) λaw h=>ob (M.aB (cJ ao aw (.bool false)) h) λax h=>aJ ax (ob (M.aB (aQ 1 i an) h) λay h=>ob (ld1 ay h) λaz h=>ifB (true) (ob (M.aB (bin prog .shl 23 (.int .u16 1) s) h) λba h=>ob (M.aB (bin prog .or 23 az ba) h) λbb h=>ob (M.aB (aQ 1 i an) h) λbc h=>ob (stN 1 bc bb h) λbd h=>ifB (true) (ob (M.aB (bin prog .add 3 s (.int .i64 1)) h) λbe h=>k .normal [a,b,c,d,e,f,g,i,s,ac,an,n,o,p,q,r,be,aa,s,ab,ac,ac,b,ad,ae,af,ag,a,ah,ai,aj,s,ak,al,c,am,an,an,ao,ao,ap,aq,ar,au,av,aw,ax,i,an,ay,az,s,ba,bb,bc,be,zd] h))) (ob (M.aB (bin prog .add 3 s (.int .i64 1)) h) λbf h=>k .normal [a,b,c,d,e,f,g,i,s,ac,an,n,o,p,q,r,bf,aa,s,ab,ac,ac,b,ad,ae,af,ag,a,ah,ai,aj,s,ak,al,c,am,an,an,ao,ao,ap,aq,ar,au,av,aw,ax,zm,zl,zk,zj,zi,zh,zg,zf,bf,zd] h)))))) (k (.exit 0) [a,b,c,d,e,f,g,i,j,l,m,n,o,p,q,r,s,aa,u,v,w,x,y,z,A,B,C,D,E,F,G,H,I,J,zz,zy,zx,zw,zv,zu,zt,zs,zr,zq,zp,zo,zn,zm,zl,zk,zj,zi,zh,zg,zf,ze,zd] h):=by kernel_rfl
theorem aHx:bX prog O L 181 [N,P,Q] h=ob (M.aB (bJ Q) h) λaa h=>ob (kF 23 1 2 [(.int .u16 0)] aa aa h) λab h=>ob (M.aB (bJ Q) h) λac h=>L (aI prog O L La) (Lb O L) [N,P,Q,undef,undef,undef,(.slice none 0 0),ab,undef,undef,undef,Q,aa,ab,Q,ac,(.int .i64 0),undef,undef,undef,undef,undef,undef,undef,undef,undef,undef,undef,undef,undef,undef,undef,undef,undef,undef,undef,undef,undef,undef,undef,undef,undef,undef,undef,undef,undef,undef,undef,undef,undef,undef,undef,undef,undef,undef,undef,undef] h:=by kernel_rfl
def Lc:Code:=bU [1,1,0,1,0,0] (b9 prog 183)
def Ld:KV:=(dO 0 (eC prog O L (bU [1,1,1] (b9 prog 183)) (eG prog Tryz.f183)))
theorem aHy:Ld O L (.exit 0) [a,b,c,d,e,f,g,i,j,l,m,n,o,p,q,r,s,t,u,v,w,x,y,z,A,B,C,D,E,F,G,H,I,J,zz,zy,zx,zw,zv,zu,zt,zs,zr,zq,zp,zo,zn,zm,zl,zk] h=some (aG [i],h):=by kernel_rfl
theorem U7:aI prog O L Lc k [a,b,c,d,e,f,g,i,j,l,m,n,o,p,q,r,s,t,u,v,w,x,y,z,A,B,C,D,E,F,G,H,I,J,zz,zy,zx,zw,zv,zu,zt,zs,zr,zq,zp,zo,zn,zm,zl,zk] h=ob (M.aB (bin prog .lss 3 q p) h) λaa h=>aJ aa (ob (M.aB (aK a) h) λab h=>ob (M.aB (aE 15 ab) h) λac h=>ob (ld1 ac h) λad h=>ob (O (.func 159) [ad,b,c,q] h) λae h=>ob (M.aB (bin prog .eql 3 ae (.int .i64 0)) h) λaf h=>aJ af (ob (M.aB (bin prog .add 3 q (.int .i64 1)) h) λag h=>k .normal [a,b,c,d,e,f,g,i,q,l,m,n,o,p,ag,aa,q,a,ab,ac,ad,b,c,q,ae,af,C,D,E,F,G,H,I,J,zz,zy,zx,zw,zv,zu,zt,zs,zr,zq,zp,zo,zn,zm,ag,zk] h) (ob (M.aB (bin prog .eql 3 c (.int .i64 0)) h) λah h=>ob (gd ah false (M.cB a) h) λai h=>ob (gd ah false (M.aB (aK ai)) h) λaj h=>ob (gd ah false (M.aB (aE 13 aj)) h) λak h=>ob (gd ah false (ld1 ak) h) λal h=>ob (gd ah false (M.cB c) h) λam h=>ob (gd ah false (M.aB (aQ 3 al am)) h) λan h=>ob (gd ah false (M.aB (aE 1 an)) h) λao h=>ob (gd ah false (ld1 ao) h) λap h=>ob (gd ah false (M.cB q) h) λaq h=>ob (gd ah false (M.aB (aQ 2 ap aq)) h) λar h=>ob (gd ah false (M.aB (aE 0 ar)) h) λau h=>ob (gd ah false (ld1 au) h) λav h=>ob (gd ah false (O (.func 50) [av]) h) λaw h=>ob (gd ah false (M.aB (bin prog .gtr 3 aw (.int .i64 0))) h) λax h=>ob (M.aB (cJ ah (.bool true) ax) h) λay h=>aJ ay (ob (M.aB (bin prog .shl 23 (.int .u16 1) q) h) λaz h=>ob (M.aB (bin prog .or 23 i az) h) λba h=>ob (M.aB (bin prog .add 3 q (.int .i64 1)) h) λbb h=>k .normal [a,b,c,d,e,f,g,ba,q,l,m,n,o,p,bb,aa,q,a,ab,ac,ad,b,c,q,ae,af,c,ah,ah,ai,aj,ak,al,am,an,ao,ap,aq,ar,au,av,aw,ax,ay,i,q,az,ba,bb,zk] h) (ob (M.aB (bin prog .add 3 q (.int .i64 1)) h) λbc h=>k .normal [a,b,c,d,e,f,g,i,q,l,m,n,o,p,bc,aa,q,a,ab,ac,ad,b,c,q,ae,af,c,ah,ah,ai,aj,ak,al,am,an,ao,ap,aq,ar,au,av,aw,ax,ay,zp,zo,zn,zm,bc,zk] h))) (k (.exit 0) [a,b,c,d,e,f,g,i,j,l,m,n,o,p,q,aa,s,t,u,v,w,x,y,z,A,B,C,D,E,F,G,H,I,J,zz,zy,zx,zw,zv,zu,zt,zs,zr,zq,zp,zo,zn,zm,zl,zk] h):=by kernel_rfl
theorem aHz:bX prog O L 183 [N,P,Q] h=ob (M.aB (aK N) h) λaa h=>ob (M.aB (aE 1 aa) h) λab h=>ob (M.aB (aE 2 ab) h) λac h=>ob (ld1 ac h) λad h=>L (aI prog O L Lc) (Ld O L) [N,P,Q,undef,undef,undef,(.int .u16 0),(.int .u16 0),undef,N,aa,ab,ac,ad,(.int .i64 0),undef,undef,undef,undef,undef,undef,undef,undef,undef,undef,undef,undef,undef,undef,undef,undef,undef,undef,undef,undef,undef,undef,undef,undef,undef,undef,undef,undef,undef,undef,undef,undef,undef,undef,undef] h:=by kernel_rfl
theorem aHA:bX prog O L 184 [N,P] h=ob (M.aB (aK N) h) λaa h0=>ob (M.aB (aE 0 aa) h0) λab h1=>ob (ld1 ab h1) λac h2=>ob (M.aB (bJ ac) h2) λad h3=>ob (M.aB (bin prog .shl 23 (.int .u16 1) ad) h3) λae h4=>ob (M.aB (bin prog .sub 23 ae (.int .u16 1)) h4) λaf h5=>ob (M.aB (bin prog .and 23 P af) h5) λag h6=>ob (M.aB (bin prog .eql 23 ag (.int .u16 0)) h6) λah h7=>aJ ah (some (aG [(.int .i64 (-1))],h7)) (ob (O (.func 241) [N] h7) λai h8=>ob (M.aB (bin prog .and 23 ag ai) h8) λaj h9=>ob (M.aB (bin prog .eql 23 aj (.int .u16 0)) h9) λak h10=>aJ ak (ob (M.aB (aK N) h10) λal h11=>ob (M.aB (aE 1 al) h11) λam h12=>ob (ld1 am h12) λan h13=>ifB (true) (ob (M.aB (aK N) h13) λao h14=>ob (M.aB (aE 0 ao) h14) λap h15=>ob (ld1 ap h15) λaq h16=>ifB (true) (ob (cpy 1 an aq h16) λar h17=>ifB (true) (ob (O (.func 241) [N] h17) λau h18=>ifB (true) (ob (M.aB (bin prog .and 23 ag au) h18) λav h19=>ob (M.aB (aK N) h19) λaw h20=>ob (M.aB (aE 2 aw) h20) λax h21=>ob (ld1 ax h21) λay h22=>ifB (chk ((ld1 ax) h17) ay&&(true)) (ob (O (.func 182) [av,ay,ad] h22) λaz h23=>ifB (true) (ob (M.aB (aK N) h23) λba h24=>ob (M.aB (aE 1 ba) h24) λbb h25=>ob (ld1 bb h25) λbc h26=>ob (M.aB (aQ 1 bc az) h26) λbd h27=>ob (ld1 bd h27) λbe h28=>ob (M.aB (bin prog .sub 3 be (.int .i64 1)) h28) λbf h29=>ob (M.aB (aQ 1 bc az) h29) λbg h30=>ob (stN 1 bg bf h30) λbh h31=>ob (M.aB (bin prog .add 3 az (.int .i64 1)) h31) λbi h32=>ob (M.aB (bin prog .rem 3 bi ad) h32) λbj h33=>ob (M.aB (aK N) h33) λbk h34=>ob (M.aB (aE 2 bk) h34) λbl h35=>ob (stN 1 bl bj h35) λbm h36=>some (aG [az],h36)))))))) (ob (O (.func 241) [N] h10) λbn h37=>ifB (true) (ob (M.aB (bin prog .and 23 ag bn) h37) λbo h38=>ob (M.aB (aK N) h38) λbp h39=>ob (M.aB (aE 2 bp) h39) λbq h40=>ob (ld1 bq h40) λbr h41=>ifB (chk ((ld1 bq) h10) br&&(true)) (ob (O (.func 182) [bo,br,ad] h41) λbs h42=>ifB (true) (ob (M.aB (aK N) h42) λbt h43=>ob (M.aB (aE 1 bt) h43) λbu h44=>ob (ld1 bu h44) λbv h45=>ob (M.aB (aQ 1 bv bs) h45) λbw h46=>ob (ld1 bw h46) λbx h47=>ob (M.aB (bin prog .sub 3 bx (.int .i64 1)) h47) λbz h48=>ob (M.aB (aQ 1 bv bs) h48) λca h49=>ob (stN 1 ca bz h49) λcb h50=>ob (M.aB (bin prog .add 3 bs (.int .i64 1)) h50) λcc h51=>ob (M.aB (bin prog .rem 3 cc ad) h51) λcd h52=>ob (M.aB (aK N) h52) λce h53=>ob (M.aB (aE 2 ce) h53) λcf h54=>ob (stN 1 cf cd h54) λcg h55=>some (aG [bs],h55)))))):=by kernel_rfl
theorem aHB:bX prog O L 186 [N] h=ob (M.aB (aK N) h) λaa h=>ob (M.aB (aE 1 aa) h) λab h=>ob (ld1 ab h) λac h=>ob (M.aB (bin prog .eql 3 ac (.int .i64 0)) h) λad h=>aJ ad (some (aG [(.bool false)],h)) (ob (M.aB (aK N) h) λae h=>ob (M.aB (aE 1 ae) h) λaf h=>ob (ld1 af h) λag h=>ob (M.aB (bin prog .sub 3 ag (.int .i64 1)) h) λah h=>ob (M.aB (aK N) h) λai h=>ob (M.aB (aE 1 ai) h) λaj h=>ob (stN 1 aj ah h) λak h=>some (aG [(.bool true)],h)):=by kernel_rfl
theorem aHC:bX prog O L 187 [N,P] h=ob (cL 31 (Value.cells P).toList .fix h) λaa h=>ob (M.aB (aK N) h) λab h=>ob (M.aB (aE 3 ab) h) λac h=>ob (ld1 ac h) λad h=>ifB (true) (ob (ldN 4 aa h) λae h=>ifB (true) (ob (dL 31 4 1 [(.int .i64 0),(.int .i64 0),(.int .i64 0),(.int .u32 0)] [(0,ae)] h) λaf h=>ob (app 31 4 32 ad af h) λag h=>ifB (true) (ob (M.aB (aK N) h) λah h=>ob (M.aB (aE 3 ah) h) λai h=>ob (stN 1 ai ag h) λaj h=>ifB (true) (some (aG [],h))))):=by kernel_rfl
theorem aHD:bX prog O L 188 [N] h=ob (M.aB (aK N) h) λaa h=>ob (M.aB (aE 0 aa) h) λab h=>ob (ldN 2 ab h) λac h=>ob (O (.func 120) [ac] h) λad h=>ob (M.aB (bin prog .eql 3 ad (.int .i64 0)) h) λae h=>aJ ae (some (aG [(.int .u64 0),(.bool false)],h)) (ob (M.aB (aK N) h) λaf h=>ob (M.aB (aE 0 af) h) λag h=>ob (M.aB (aE 0 ag) h) λah h=>ob (ld1 ah h) λai h=>ob (M.aB (aK N) h) λaj h=>ob (M.aB (aE 0 aj) h) λak h=>ob (M.aB (aE 0 ak) h) λal h=>ob (ld1 al h) λam h=>ob (M.aB (bin prog .add 83 am (.int .u64 1)) h) λan h=>ob (M.aB (aK N) h) λao h=>ob (M.aB (aE 0 ao) h) λap h=>ob (M.aB (aE 0 ap) h) λaq h=>ob (stN 1 aq an h) λar h=>some (aG [ai,(.bool true)],h)):=by kernel_rfl
def Lf:Code:=bU [1,1,0,1,0,0] (b9 prog 194)
def Lg:KV:=(dO 0 (eC prog O L (bU [1,1,1] (b9 prog 194)) (eG prog Tryz.f194)))
theorem aHE:Lg O L (.exit 0) [a,b,c,d,e,f,g,i,j,l,m,n,o,p,q,r,s,t,u] h=some (aG [d],h):=by kernel_rfl
theorem U8:aI prog O L Lf k [a,b,c,d,e,f,g,i,j,l,m,n,o,p,q,r,s,t,u] h=ob (M.aB (bin prog .lss 3 j i) h) λaa h=>aJ aa (ob (M.aB (aQ 1 g j) h) λab h=>ob (ld1 ab h) λac h=>ob (M.aB (bin prog .shl 29 d (.int .u64 8)) h) λad h=>ob (dI prog 5 29 ac h) λae h=>ob (M.aB (bin prog .or 29 ad ae) h) λaf h=>ob (M.aB (bin prog .add 3 j (.int .i64 1)) h) λag h=>k .normal [a,b,c,af,e,ac,g,i,ag,aa,ab,ac,d,ad,ac,ae,af,ag,u] h) (k (.exit 0) [a,b,c,d,e,f,g,i,j,aa,m,n,o,p,q,r,s,t,u] h):=by kernel_rfl
theorem aHF:bX prog O L 194 [N] h=ob (M.aB (bJ N) h) λaa h=>L (aI prog O L Lf) (Lg O L) [N,undef,(.int .u32 0),(.int .u32 0),undef,undef,N,aa,(.int .i64 0),undef,undef,undef,undef,undef,undef,undef,undef,undef,undef] h:=by kernel_rfl
theorem aHG:bX prog O L 195 [N,P] h=ob (M.aB (bin prog .sub 83 N (.int .u64 32768)) h) λaa h=>ob (O (.func 247) [aa] h) λab h=>ob (M.aB (bin prog .sub 23 P ab) h) λac h=>ob (dI prog 23 83 ac h) λad h=>ob (M.aB (bin prog .add 83 aa ad) h) λae h=>some (aG [ae],h):=by kernel_rfl
theorem aHH:bX prog O L 196 [N,P] h=ob (M.aB (aK N) h) λaa h=>ob (M.aB (aE 0 aa) h) λab h=>ob (ld1 ab h) λac h=>ob (O (.func 195) [ac,P] h) λad h=>ob (M.aB (aK N) h) λae h=>ob (M.aB (aE 0 ae) h) λaf h=>ob (ld1 af h) λag h=>ifB (true) (ob (M.aB (bin prog .sub 83 ad ag) h) λah h=>ob (M.aB (aK N) h) λai h=>ob (M.aB (aE 0 ai) h) λaj h=>ob (ld1 aj h) λak h=>ifB (true) (ob (M.aB (bin prog .geq 83 ad ak) h) λal h=>some (aG [ad,ah,al],h))):=by kernel_rfl
theorem aHI:bX prog O L 197 [N,P] h=ob (O (.func 196) [N,P] h) λaa h=>ob (M.aB (ext 0 aa) h) λab h=>ob (M.aB (ext 1 aa) h) λac h=>ob (M.aB (ext 2 aa) h) λad h=>ob (M.aB (un prog .not ad) h) λae h=>aJ ae (some (aG [(.int .u16 60)],h)) (ob (M.aB (aK N) h) λaf h=>ob (M.aB (aE 2 af) h) λag h=>ob (ld1 ag h) λah h=>ifB (true) (ob (M.aB (aK N) h) λai h=>ob (M.aB (aE 1 ai) h) λaj h=>ob (ld1 aj h) λak h=>ifB (true) (ob (M.aB (bin prog .sub 3 ah ak) h) λal h=>ob (dI prog 3 83 al h) λam h=>ob (M.aB (bin prog .geq 83 ac am) h) λan h=>aJ an (some (aG [(.int .u16 61)],h)) (ob (M.aB (bin prog .add 83 ab (.int .u64 1)) h) λao h=>ob (M.aB (aK N) h) λap h=>ob (M.aB (aE 0 ap) h) λaq h=>ob (stN 1 aq ao h) λar h=>ob (M.aB (aK N) h) λau h=>ob (M.aB (aE 1 au) h) λav h=>ob (ld1 av h) λaw h=>ob (M.aB (bin prog .add 3 aw (.int .i64 1)) h) λax h=>ob (M.aB (aK N) h) λay h=>ob (M.aB (aE 1 ay) h) λaz h=>ob (stN 1 az ax h) λba h=>some (aG [(.int .u16 0)],h))))):=by kernel_rfl
def Lh:Code:=bU [1,1,0,0] (b9 prog 233)
def Li (O:aC)(L:LV):KV:=(dO 0 (eG prog Tryz.f233))
theorem aHJ:Li O L (.exit 0) [a,b,c,d,e,f,g,i,j,l,m,n,o,p,q,r,s] h=some (aG [],h):=by kernel_rfl
theorem U9:aI prog O L Lh k [a,b,c,d,e,f,g,i,j,l,m,n,o,p,q,r,s] h=ob (M.aB (bin prog .lss 3 o (.int .i64 8)) h) λaa h=>aJ aa (ob (O (.func 271) [a] h) λab h=>ob (M.aB (bin prog .add 3 o (.int .i64 1)) h) λac h=>k .normal [a,b,c,d,e,f,g,i,j,l,m,n,ac,aa,a,ab,ac] h) (k (.exit 0) [a,b,c,d,e,f,g,i,j,l,m,n,o,aa,q,r,s] h):=by kernel_rfl
theorem aHK:bX prog O L 233 [N,P] h=ob (M.aB (aK N) h) λaa h=>ob (ld1 aa h) λab h=>ob (dI prog 5 331 P h) λac h=>ob (M.aB (bin prog .shl 331 ac (.int .u64 8)) h) λad h=>ob (M.aB (bin prog .xor 331 ab ad) h) λae h=>ob (M.aB (aK N) h) λaf h=>ob (stN 1 af ae h) λag h=>L (aI prog O L Lh) (Li O L) [N,P,undef,undef,N,aa,ab,P,ac,ad,ae,af,(.int .i64 0),undef,undef,undef,undef] h:=by kernel_rfl
theorem aHL:bX prog O L 236 [N,P] h=ob (cL 167 (Value.cells N).toList .fix h) λaa h=>ob (M.aB (aE 0 aa) h) λab h=>ob (ld1 ab h) λac h=>ob (ld1 P h) λad h=>ob (M.aB (bin prog .eql 3 ac ad) h) λae h=>some (aG [ae],h):=by kernel_rfl
theorem aHN:bX prog O L 240 [N,P] h=ob (M.aB (bin prog .geq 3 P (.int .i64 0)) h) λaa h=>ob (gd aa true (M.cB P) h) λab h=>ob (gd aa true (M.aB (bin prog .lss 3 ab (.int .i64 16))) h) λac h=>ob (M.aB (cJ aa ac (.bool false)) h) λad h=>ob (gd ad true (M.cB N) h) λae h=>ob (gd ad true (M.cB P) h) λaf h=>ob (gd ad true (M.aB (bin prog .shr 23 ae af)) h) λag h=>ob (gd ad true (M.aB (bin prog .and 23 ag (.int .u16 1))) h) λah h=>ob (gd ad true (M.aB (bin prog .eql 23 ah (.int .u16 1))) h) λai h=>ob (M.aB (cJ ad ai (.bool false)) h) λaj h=>some (aG [aj],h):=by kernel_rfl
def Lj:Code:=bU [1,1,0,1,0,0] (b9 prog 241)
def Lk:KV:=(dO 0 (eC prog O L (bU [1,1,1] (b9 prog 241)) (eG prog Tryz.f241)))
theorem aHO:Lk O L (.exit 0) [a,b,c,d,e,f,g,i,j,l,m,n,o,p,q,r,s,t,u,v,w,x,y,z] h=some (aG [d],h):=by kernel_rfl
theorem Va:aI prog O L Lj k [a,b,c,d,e,f,g,i,j,l,m,n,o,p,q,r,s,t,u,v,w,x,y,z] h=ob (M.aB (bin prog .lss 3 n m) h) λaa h=>aJ aa (ob (M.aB (aQ 1 l n) h) λab h=>ob (ld1 ab h) λac h=>ob (M.aB (bin prog .gtr 3 ac (.int .i64 0)) h) λad h=>aJ ad (ob (M.aB (bin prog .shl 23 (.int .u16 1) n) h) λae h=>ob (M.aB (bin prog .or 23 d ae) h) λaf h=>ob (M.aB (bin prog .add 3 n (.int .i64 1)) h) λag h=>k .normal [a,b,c,af,n,ac,g,i,j,l,m,ag,aa,n,ab,ac,ac,ad,d,n,ae,af,ag,z] h) (ob (M.aB (bin prog .add 3 n (.int .i64 1)) h) λah h=>k .normal [a,b,c,d,n,ac,g,i,j,l,m,ah,aa,n,ab,ac,ac,ad,u,v,w,x,ah,z] h)) (k (.exit 0) [a,b,c,d,e,f,g,i,j,l,m,n,aa,p,q,r,s,t,u,v,w,x,y,z] h):=by kernel_rfl
theorem aHP:bX prog O L 241 [N] h=ob (M.aB (aK N) h) λaa h=>ob (M.aB (aE 1 aa) h) λab h=>ob (ld1 ab h) λac h=>ob (M.aB (bJ ac) h) λad h=>L (aI prog O L Lj) (Lk O L) [N,undef,(.int .u16 0),(.int .u16 0),undef,undef,N,aa,ab,ac,ad,(.int .i64 0),undef,undef,undef,undef,undef,undef,undef,undef,undef,undef,undef,undef] h:=by kernel_rfl
theorem aHQ:bX prog O L 247 [N] h=ob (dI prog 83 23 N h) λaa h=>some (aG [aa],h):=by kernel_rfl
theorem aHR:bX prog O L 271 [N] h=ob (M.aB (aK N) h) λaa h=>ob (ld1 aa h) λab h=>ob (M.aB (bin prog .and 331 ab (.int .u16 32768)) h) λac h=>ob (M.aB (aK N) h) λad h=>ob (ld1 ad h) λae h=>ob (M.aB (bin prog .shl 331 ae (.int .u64 1)) h) λaf h=>ob (M.aB (aK N) h) λag h=>ob (stN 1 ag af h) λah h=>ob (M.aB (bin prog .neq 331 ac (.int .u16 0)) h) λai h=>aJ ai (ob (M.aB (aK N) h) λaj h=>ob (ld1 aj h) λak h=>ob (M.aB (bin prog .xor 331 ak (.int .u16 4129)) h) λal h=>ob (M.aB (aK N) h) λam h=>ob (stN 1 am al h) λan h=>some (aG [],h)) (some (aG [],h)):=by kernel_rfl
theorem aHM:bX prog O L 237 [N,P] h=aJ (.bool false) (ob (dI prog 187 29 N h) λaa h=>ob (dI prog 187 29 P h) λab h=>ob (O (.func 272) [aa,ab] h) λac h=>ob (M.aB (ext 0 ac) h) λad h=>ob (M.aB (ext 1 ac) h) λae h=>ob (dI prog 29 187 ad h) λaf h=>ob (dI prog 29 187 ae h) λag h=>some (aG [af,ag],h)) (ob (O (.func 273) [N,P] h) λah h=>ob (M.aB (ext 0 ah) h) λai h=>ob (M.aB (ext 1 ah) h) λaj h=>some (aG [ai,aj],h)):=by kernel_rfl
theorem aHS:bX prog O L 273 [N,P] h=ob (M.aB (bin prog .and 83 N (.int .u64 4294967295)) h) λaa h=>ob (M.aB (bin prog .shr 83 N (.int .u64 32)) h) λab h=>ob (M.aB (bin prog .and 83 P (.int .u64 4294967295)) h) λac h=>ob (M.aB (bin prog .shr 83 P (.int .u64 32)) h) λad h=>ob (M.aB (bin prog .mul 83 aa ac) h) λae h=>ob (M.aB (bin prog .mul 83 ab ac) h) λaf h=>ob (M.aB (bin prog .shr 83 ae (.int .u64 32)) h) λag h=>ob (M.aB (bin prog .add 83 af ag) h) λah h=>ob (M.aB (bin prog .and 83 ah (.int .u64 4294967295)) h) λai h=>ob (M.aB (bin prog .shr 83 ah (.int .u64 32)) h) λaj h=>ob (M.aB (bin prog .mul 83 aa ad) h) λak h=>ob (M.aB (bin prog .add 83 ai ak) h) λal h=>ob (M.aB (bin prog .mul 83 ab ad) h) λam h=>ob (M.aB (bin prog .add 83 am aj) h) λan h=>ob (M.aB (bin prog .shr 83 al (.int .u64 32)) h) λao h=>ob (M.aB (bin prog .add 83 an ao) h) λap h=>ob (M.aB (bin prog .mul 83 N P) h) λaq h=>some (aG [ap,aq],h):=by kernel_rfl
end Go.Proofs.YtmimdleeihjdoaaGreatDoor
end
namespace Go.Abs
theorem Vn: ∀(cs:List Value)(o:Nat)(v:Value),eD cs o [v]=cs.set o v
 |[],_,_=>by simp[eD]
 |c::cs,0,v=>by simp[eD]
 |c::cs,o+1,v=>by
  rw[List.set_cons_succ,<-Vn cs o v];simp[eD]
theorem cK {H:aA}{b o:Nat}{cs:List Value}{e:TypeId}{k:Kind}{v:Value}(h:H[b]? =some (.cells cs e k))(hv:cs[o]? =some v):ld1 (.pointer (some ⟨b,o,none⟩)) H=some (v,H):=by
 rw[jO,h,sT,hv,vI]
theorem xX {H:aA}{b o n:Nat}{cs:List Value}{e:TypeId}{k:Kind}(h:H[b]? =some (.cells cs e k))(hn:o+n<=cs.length):ldN n (.pointer (some ⟨b,o,none⟩)) H=some (.agg ((cs.drop o).take n).toArray,H):=by
 rw[qZ,h,rS _ _ _ _ _ hn]
theorem sG {H:aA}{b o:Nat}{cs:List Value}{e:TypeId}{k:Kind}{v:Value}(h:H[b]? =some (.cells cs e k))(hk:k≠ .ro)(ho:o<cs.length)(hv:v.cells.toList=[v])(ha:dK [v]=true):
  stN 1 (.pointer (some ⟨b,o,none⟩)) v H=some (undef,H.set b (.cells (cs.set o v) e k)):=by
 rw[mE 1 b o v (by rw[hv];rfl),h,hv,nK b cs e k o [v] hk (by simp only[aMV,List.length_nil];omega) ha,Vn]
theorem xY {H:aA}{b o n:Nat}{cs vs:List Value}{e:TypeId}{k:Kind}{v:Value}(h:H[b]? =some (.cells cs e k))(hk:k≠ .ro)(hv:v.cells.toList=vs)(hn:vs.length=n)(ho:o+n<=cs.length)(ha:dK vs=true):
  stN n (.pointer (some ⟨b,o,none⟩)) v H=some (undef,H.set b (.cells (eD cs o vs) e k)):=by
 subst hv;rw[mE n b o v hn,h,nK b cs e k o _ hk (by rw[hn];exact ho) ha]
theorem lG {H:aA}{b o:Nat}{cs:List Value}{e:TypeId}{k:Kind}{q:IntKind}{n:Int}(h:H[b]? =some (.cells cs e k))(hk:k≠ .ro)(ho:o<cs.length):
  stN 1 (.pointer (some ⟨b,o,none⟩)) (.int q n) H=some (undef,H.set b (.cells (cs.set o (.int q n)) e k)):=sG h hk ho rfl rfl
theorem iM {H:aA}{b:Nat}{x y:Blk}(h:H[b]? =some x):(H.set b y)[b]? =some y:=aMF (aMz.mp h).1
theorem L4 (H:aA)(b:Nat)(x y:Blk):(H.set b x).set b y=H.set b y:=by simp
theorem dF (H:aA)(x:Blk):(H++[x])[H.length]? =some x:=by simp
theorem mR (H:aA)(x y:Blk):(H++[x]).set H.length y=H++[y]:=by simp
theorem nE {H:aA}{b:Nat}{x:Blk}(h:H[b]? =some x)(y:Blk):(H++[y])[b]? =some x:=by rw[aMC (aMz.mp h).1,h]
theorem dA {H:aA}{b:Nat}{x:Blk}(h:H[b]? =some x):b<H.length:=(aMz.mp h).1
theorem aIk (a b:Nat)(ha:a<18446744073709551616)(hb:b<18446744073709551616):IntKind.u64.wrap ((a:Int)-b)=(((a+(18446744073709551616-b))%18446744073709551616:Nat):Int):=by rw[r9];omega
theorem aIh (a b:Nat):IntKind.u64.wrap ((a:Int)+b)=(((a+b)%18446744073709551616:Nat):Int):=by rw[r9];omega
theorem aIj (a b:Nat)(ha:a<65536)(hb:b<65536):IntKind.u16.wrap ((a:Int)-b)=(((a+65536-b)%65536:Nat):Int):=by rw[zI];omega
theorem xV (a:Nat)(ha:a<18446744073709551616):IntKind.u64.wrap (a:Int)=a:=aDc (by omega) (by omega)
theorem Vm (a:Nat)(ha:a<4294967296):IntKind.u32.wrap (a:Int)=a:=aBz (by omega) (by omega)
theorem Ac (a:Nat):IntKind.u16.wrap (a:Int)=((a%65536:Nat):Int):=by rw[zI];omega
theorem aIi (a:Nat):IntKind.u8.wrap (a:Int)=((a%256:Nat):Int):=by rw[zJ];omega
theorem xW (a:Nat)(ha:a<9223372036854775808):IntKind.i64.wrap (a:Int)=a:=dJ (by omega) (by omega)
theorem Br.ext {H H':aA}{u:Value}{bs:List UInt8}(h:Br H u bs)(he:Ext H H'):Br H' u bs:=by
 rcases h with h|⟨b,o,c,cs,e,k,h1,h2,h3,h4⟩
 ·exact .inl h
 ·exact .inr ⟨b,o,c,cs,e,k,h1,h2,by rw[he.2 b (dA h3) id,h3],h4⟩
theorem Rs.aIg {α:Type}{el:α->List Value}{e:TypeId}{sz:Nat}{H:aA}{v:Value}{xs:List α}{P:Program}(hsz: ∀x,(el x).length=sz)(he:P.cellsOf e=sz)(h:Rs el e H v xs)(hne:xs≠[]):
  ∃b o cap,v= .slice (some ⟨b,o,none⟩) xs.length cap/\xs.length<=cap/\ ∀(H':aA),Rs el e H' v xs-> ∀(l r:Nat)(lo hi mx:Option Value)(c:Nat),bnd 0 lo=some l->bnd xs.length hi=some r->bnd cap mx=some c->l<=r->r<=xs.length->r<=c->c<=cap->
   slc P sz v lo hi mx H'=some (.slice (some ⟨b,o+l*sz,none⟩) (r-l) (c-l),H')/\Rs el e H' (.slice (some ⟨b,o+l*sz,none⟩) (r-l) (c-l)) ((xs.take r).drop l):=by
 rcases h with⟨_,h⟩|⟨b,o,cap,rfl,h3,h4⟩
 ·exact absurd h hne
 ·refine⟨b,o,cap,rfl,h3,λH' h' l r lo hi mx c h1 h2 h5 hlr hr hrc hcc=> ?_⟩
  rcases h' with⟨_,h⟩|⟨b',o',cap',heq,h3',h4'⟩
  ·exact absurd h hne
  ·cases heq
   have hl:=rT (xs.map el) (sU hsz);have hlen:((xs.take r).drop l).length=r-l:=by simp;omega
   obtain⟨e',k,pre,post,rfl,hk,hb⟩:=h4' hne;refine⟨sV (sz:=sz) hb (λh=>by rw[hk h];exact he) h1 h2 h5 hlr hrc hcc,.inr ⟨b,_,c-l,by rw[hlen],by rw[hlen];omega,λ_=>⟨e',k,pre++((xs.take l).map el).flatten,((xs.drop r).map el).flatten++post,?_,hk,?_⟩⟩⟩
   ·have hf:=rT ((xs.take l).map el) (sU hsz)
    rw[aMN,List.length_take,Nat.min_eq_left (by omega)] at hf
    rw[aML,hf]
   ·rw[hb]
    have:xs=xs.take l++((xs.take r).drop l++xs.drop r):=by
     conv=>lhs;rw[<-List.take_append_drop l xs]
     congr 1
     have:=List.take_append_drop (r-l) (xs.drop l);rw[aNi,List.take_drop] at this;rw[show l+(r-l)=r by omega] at this
     exact this.symm
    congr 2
    conv=>lhs;rw[this]
    simp only[List.map_append,List.flatten_append,aMG]
structure Pkt where
 src:Int
 dst:Int
 lane:Int
 body:Int
deriving DecidableEq
def Pkt.oE (x:Pkt):List Value:=[.int .i64 x.src,.int .i64 x.dst,.int .i64 x.lane,.int .u32 x.body]
def Pkt.dB (x:Pkt):Value:= .agg ⟨x.oE⟩
def pk0:Pkt:=⟨0,0,0,0⟩
structure Pkt.ok (x:Pkt):Prop where
 src: -9223372036854775808<=x.src/\x.src<9223372036854775808
 dst: -9223372036854775808<=x.dst/\x.dst<9223372036854775808
 lane: -9223372036854775808<=x.lane/\x.lane<9223372036854775808
 body:0<=x.body/\x.body<4294967296
abbrev fM:=Int×Int×Int
def vX (r:Nat):Nat:=if r<32768 then r*2 else(r*2-65536)^^^4129
theorem Vp {r:Nat}(h:r<65536):vX r<65536:=by
 unfold vX;split
 ·omega
 ·exact Nat.xor_lt_two_pow (n:=16) (by omega) (by omega)
def Ad:Nat->Nat->Nat
 |0,r=>r
 |k+1,r=>Ad k (vX r)
theorem Vt: ∀(k:Nat){r:Nat},r<65536->Ad k r<65536
 |0,_,h=>h
 |k+1,_,h=>Vt k (Vp h)
def s9 (r:Nat)(c:UInt8):Nat:=Ad 8 (r^^^c.toNat*256)
theorem Vs {r:Nat}(h:r<65536)(c:UInt8):r^^^c.toNat*256<65536:=Nat.xor_lt_two_pow (n:=16) h (by have:=c.toNat_lt;omega)
theorem aIl {r:Nat}(h:r<65536)(c:UInt8):s9 r c<65536:=Vt 8 (Vs h c)
attribute [irreducible] s9
def crc (bs:List UInt8):Nat:=bs.foldl s9 65535
theorem Vu (bs:List UInt8): ∀{r:Nat},r<65536->bs.foldl s9 r<65536:=by
 induction bs with
 |nil=>exact λh=>h
 |cons c bs ih=>
  intro r h;rw[List.foldl_cons];exact ih (aIl h c)
theorem L5 (bs:List UInt8):crc bs<65536:=Vu bs (by decide)
theorem Vq {r:Nat}(h:r<65536):(r&&&32768=0)↔r<32768:=by
 have e:r&&&32768=if r<32768 then 0 else 32768:=by
  apply Nat.eq_of_testBit_eq;intro i;rw[Nat.testBit_and];have hb:Nat.testBit 32768 i=decide (15=i):=Nat.testBit_two_pow (n:=15) (m:=i);by_cases hi:15=i
  ·subst hi
   rw[hb];split
   ·rename_i hl
    rw[Nat.testBit_lt_two_pow (i:=15) (by omega)]
    rfl
   ·rename_i hl
    have:r.testBit 15=true:=by
     rw[Nat.testBit_eq_decide_div_mod_eq];have:r/2 ^ 15=1:=by omega
     rw[this];rfl
    rw[this];rfl
  ·rw[hb,decide_eq_false hi,Bool.and_false]
   split
   ·simp
   ·rw[hb,decide_eq_false hi]
 rw[e]
 split<;>omega
def dN (near s:Nat):Nat:=((near+18446744073709518848)%18446744073709551616+(s+65536-(near+18446744073709518848)%18446744073709551616%65536)%65536)%18446744073709551616
structure Frm where
 kind:Nat
 lane:Nat
 seq:Nat
 src:Nat
 dst:Nat
 body:Nat
deriving DecidableEq
structure Frm.ok (f:Frm):Prop where
 kind:f.kind<256
 lane:f.lane<256
 seq:f.seq<65536
 src:f.src<256
 dst:f.dst<256
 body:f.body<4294967296
def Frm.nO:Frm:=⟨0,0,0,0,0,0⟩
def fL (f:Frm):Bool:=decide (f.lane<=2)&&(if f.kind=1 then decide (f.src<=5)&&decide (f.dst<=5)&&decide (f.src≠f.dst) else(decide (f.kind=2)||decide (f.kind=3))&&decide (f.src=0)&&decide (f.dst=0)&&decide (f.body=0))
def by8 (n:Nat):UInt8:=UInt8.ofNat n
def jV (n:Nat):List UInt8:=[by8 (n/256),by8 n]
def L7 (f:Frm):List UInt8:=by8 f.kind::by8 f.lane::jV f.seq
def qH (f:Frm):List UInt8:=L7 f++if f.kind=1 then by8 f.src::by8 f.dst::(jV (f.body/65536)++jV f.body) else []
def L6 (f:Frm):List UInt8:=qH f++jV (crc (qH f))
def Dt (f:Frm):Option (List UInt8):=if fL f=true then some (L6 f) else none
def fV (bs:List UInt8):Nat:=bs.foldl (λn c=>n*256+c.toNat) 0
def mI (bs:List UInt8):Frm:=⟨(bs.getD 0 0).toNat,(bs.getD 1 0).toNat,fV [bs.getD 2 0,bs.getD 3 0],0,0,0⟩
def qI (bs:List UInt8):Frm:={mI bs with src:=(bs.getD 4 0).toNat,dst:=(bs.getD 5 0).toNat,body:=fV [bs.getD 6 0,bs.getD 7 0,bs.getD 8 0,bs.getD 9 0]}
def xZ (b s:List UInt8)(f:Frm):Option Frm:=if crc b=fV s/\fL f=true then some f else none
def o7 (bs:List UInt8):Option Frm:=
 if bs.length=6/\(bs.getD 0 0).toNat≠1 then xZ (bs.take 4) (bs.drop 4) (mI bs)
 else if bs.length=12/\(bs.getD 0 0).toNat=1 then xZ (bs.take 10) (bs.drop 10) (qI bs)
 else none
theorem Dr (n:Nat):(by8 n).toNat=n%256:=by simp[by8]
theorem aIm (a b:UInt8):fV [a,b]=a.toNat*256+b.toNat:=by simp[fV]
theorem Vo {n:Nat}{c:UInt8}(h:n%256=c.toNat):by8 n=c:=by
 apply UInt8.toNat_inj.mp;rw[Dr,h]
attribute [irreducible] crc fL
structure Cfg where
 nodes:Nat
 lanes:Nat
 room:Nat
 queue:Nat
 rounds:Nat
 every:Nat
 weights:List Int
 start:Nat
 me:Nat
 by':List Nat
 port:Nat->Nat
def Cfg.aF (c:Cfg):Nat:=c.by'.length+1
structure Cfg.ok (c:Cfg):Prop where
 nodes:2<=c.nodes/\c.nodes<=6
 lanes:1<=c.lanes/\c.lanes<=3
 room:1<=c.room/\c.room<=8
 queue:1<=c.queue/\c.queue<=8
 rounds:1<=c.rounds/\c.rounds<=4
 every:1<=c.every/\c.every<=8
 wlen:c.weights.length=c.lanes
 wts: ∀x∈c.weights,1<=x/\x<=5
 start:c.start<65536
 me:c.me<c.nodes
 by':c.by'.length<=5
 byN: ∀w∈c.by',w<c.nodes/\w≠c.me
 byD:c.by'.Nodup
 port: ∀d,d<c.nodes->c.port d<c.aF
structure Snd where
 s:Nat
 l:Nat
deriving DecidableEq
structure Rcv where
 n:Nat
 h:Nat
deriving DecidableEq
def Snd.o9 (x:Snd):Nat:=x.l-x.s
def Snd.qJ (x:Snd)(limit:Nat):Snd:=let n:=dN x.l limit;if n<=x.l∨x.s+8<n then x else⟨x.s,n⟩
def Snd.nP (x:Snd):Nat×Snd:=if x.l=x.s then(0,x) else(x.s,⟨x.s+1,x.l⟩)
def Rcv.lM (x:Rcv)(room:Nat):Nat:=x.n+(room-x.h)
def Rcv.jX (x:Rcv)(room seq:Nat):Nat×Rcv:=let n:=dN x.n seq;if n<x.n then(60,x) else if x.lM room<=n then(61,x) else(0,⟨n+1,x.h+1⟩)
def Rcv.tA (x:Rcv):Rcv:=⟨x.n,x.h-1⟩
def Rcv.o8 (x:Rcv)(room sent:Nat):Rcv:=let n:=dN x.n sent;if n<=x.n∨x.lM room<n then x else⟨n,x.h⟩
structure NS where
 hL:List Pkt
 hG:List Pkt
 rL:List (fM×Pkt)
 snd:Nat->Nat->Snd
 rcv:Nat->Nat->Rcv
 g:List Nat
 a:List Nat
 whl:Nat->Whl
 ticks:Nat
def NS.jK (c:Cfg):NS:=⟨[],[],[],λ_ _=>⟨c.start,c.start+c.room⟩,λ_ _=>⟨c.start,0⟩,List.replicate c.aF 0,List.replicate c.aF 0,λ_=>⟨c.weights,0⟩,0⟩
def fA (L:List Pkt)(k:Int):List Pkt:=L.filter λx=>decide (x.lane=k)
def qL (L:List Pkt)(k:Int):List Pkt:=L.eraseP λx=>decide (x.lane=k)
def oR (L:List (fM×Pkt))(w:fM):List Pkt:=(L.filter λe=>decide (e.1=w)).map (·.2)
def oF (L:List (fM×Pkt))(w:fM):List (fM×Pkt):=L.eraseP λe=>decide (e.1=w)
def Ae (w:fM)(ports lanes:Nat):Bool:=decide (0<=w.1)&&decide (w.1<ports)&&decide (0<=w.2.1)&&decide (w.2.1<ports)&&decide (0<=w.2.2)&&decide (w.2.2<lanes)
def sK (c:Cfg)(L:List (fM×Pkt))(w:fM)(x:Pkt):List (fM×Pkt):=
 if Ae w c.aF c.lanes=true/\L.length<c.aF*c.lanes*c.room then L++[(w,x)] else L
def pT (c:Cfg)(x:Pkt)(s:NS):Nat×NS:=
 if¬(0<=x.lane/\x.lane<c.lanes) then(1,s)
 else if(fA s.hL x.lane).length=c.queue then(150,s)
 else(0,{s with hL:=s.hL++[x]})
def nF (c:Cfg)(x:Pkt)(s:NS):Nat×NS:=
 if x.src≠c.me∨x.dst<0∨(c.nodes:Int)<=x.dst∨x.dst=c.me then(1,s) else pT c x s
def up2 {α:Type}(f:Nat->Nat->α)(i k:Nat)(x:α):Nat->Nat->α:=λj l=>if j=i/\l=k then x else f j l
def up1 {α:Type}(f:Nat->α)(i:Nat)(x:α):Nat->α:=λj=>if j=i then x else f j
def qK (c:Cfg)(i:Nat)(f:Frm)(s:NS):Nat×NS:=
 if c.nodes<=max f.src f.dst then(30,s)
 else match (s.rcv i f.lane).jX c.room f.seq with
  |(0,r)=>(0,{s with rcv:=up2 s.rcv i f.lane r,rL:=sK c s.rL ((i:Int),(c.port f.dst:Int),(f.lane:Int)) ⟨f.src,f.dst,f.lane,f.body⟩})
  |(e,_)=>(e,s)
def nS (c:Cfg)(fr:Int)(bs:List UInt8)(s:NS):Nat×NS:=
 match c.by'.findIdx? λw:Nat=>decide ((w:Int)=fr) with
 |none=>(1,s)
 |some j=>
  match o7 bs with
  |none=>(30,s)
  |some f=>
   if c.lanes<=f.lane then(30,s)
   else if f.kind=2 then(0,{s with snd:=up2 s.snd (j+1) f.lane ((s.snd (j+1) f.lane).qJ f.seq)})
   else if f.kind=3 then(0,{s with rcv:=up2 s.rcv (j+1) f.lane ((s.rcv (j+1) f.lane).o8 c.room f.seq)})
   else qK c (j+1) f s
def pA (L:List (fM×Pkt))(i o k:Nat):Nat:=(oR L (i,o,k)).length
def yA (c:Cfg)(L:List (fM×Pkt))(k:Nat):Nat:=((List.range c.aF).map λo=>pA L 0 o k).sum
def nR (c:Cfg)(s:NS)(k:Nat):NS:=
 if c.room<=yA c s.rL k then s
 else match fA s.hL k with
  |[]=>s
  |x::_=>{s with hL:=qL s.hL k,rL:=sK c s.rL (0,(c.port x.dst.toNat:Int),k) x}
def vY (c:Cfg)(s:NS):NS:=(List.range c.lanes).foldl (nR c) s
def iN (c:Cfg)(s:NS)(i o k:Nat):Bool:=decide (k<c.lanes)&&decide (0<pA s.rL i o k)&&(decide (o=0)||decide (0<(s.snd o k).o9))
def nQ (c:Cfg)(s:NS)(i o:Nat):Bool:=decide (i<c.aF)&&decide (o<c.aF)&&(List.range c.lanes).any (iN c s i o)
def sH (f:Frm):List UInt8:=(Dt f).getD []
abbrev kN:=List (Nat×List UInt8)
def vZ (c:Cfg)(o:Nat)(f:Frm):Nat×List UInt8:=(c.by'.getD (o-1) 0,sH f)
def sJ (s:NS)(i k:Nat):Nat->Nat->Rcv:=if i=0 then s.rcv else up2 s.rcv i k (s.rcv i k).tA
def pS (c:Cfg)(s:NS)(i o:Nat):NS×kN:=
 match j9 c.weights (s.whl o) (iN c s i o) with
 |(none,_)=>(s,[])
 |(some k,w)=>
  let x:=(oR s.rL (i,o,k)).headD pk0
  let s1:={s with whl:=up1 s.whl o w,rL:=oF s.rL (i,o,k),rcv:=sJ s i k}
  if o=0 then({s1 with hG:=s1.hG++[x]},[])
  else({s1 with snd:=up2 s1.snd o k (s1.snd o k).nP.2},[vZ c o ⟨1,k,(s1.snd o k).nP.1%65536,(x.src%256).toNat,(x.dst%256).toNat,x.body.toNat⟩])
def tB (c:Cfg)(m:List Int):List Nat->NS×kN->NS×kN
 |[],s=>s
 |i::l,s=>tB c m l (if 0<=m.getD i 0 then((pS c s.1 i (m.getD i 0).toNat).1,s.2++(pS c s.1 i (m.getD i 0).toNat).2) else s)
def sI (c:Cfg)(s:NS):kN:=
 (List.range c.by'.length).flatMap λi=>(List.range c.lanes).flatMap λk=>
  [vZ c (i+1) ⟨3,k,(s.snd (i+1) k).s%65536,0,0,0⟩,vZ c (i+1) ⟨2,k,(s.rcv (i+1) k).lM c.room%65536,0,0,0⟩]
def uJ (c:Cfg)(s:NS):NS×kN:=
 let s1:=vY c s
 let t:=q9 (nQ c s1) c.aF c.rounds s1.g s1.a
 let r:=tB c t.m (List.range c.aF) ({s1 with g:=t.g,a:=t.a},[])
 ({r.1 with ticks:=s.ticks+1},if(s.ticks+1)%c.every=0 then r.2++sI c r.1 else r.2)
end Go.Abs
namespace Go.Proofs.YtmimdleeihjdoaaGreatDoor
open Go.Proofs.Tryz
open Go.Abs
structure Put1 (H:aA)(b:Nat)(y:Blk)(H':aA):Prop where
 le:H.length<=H'.length
 at_:H'[b]? =some y
 keep: ∀c,c<H.length->c≠b->H'[c]? =H[c]?
theorem Put1.uK {H:aA}{b:Nat}{y:Blk}(h:H[b]? =some y):Put1 H b y H:=⟨aME _,h,λ_ _ _=>rfl⟩
theorem Put1.Af {H:aA}{b:Nat}{x y:Blk}(h:H[b]? =some x):Put1 H b y (H.set b y):=⟨by simp,iM h,λc _ hc=>aMA (Ne.symm hc)⟩
theorem Put1.ext {H H':aA}{b:Nat}{y:Blk}(h:H[b]? =some y)(he:Ext H H'):Put1 H b y H':=⟨he.1,by rw[he.2 b (dA h) id,h],λc hc _=>he.2 c hc id⟩
theorem Put1.aIn {H H1 H':aA}{b:Nat}{y:Blk}(he:Ext H H1)(h:Put1 H1 b y H'):Put1 H b y H':=⟨aMP he.1 h.le,h.at_,λc hc hcb=>by rw[h.keep c (aMO hc he.1) hcb,he.2 c hc id]⟩
section
variable {H : aA} {m : Nat}
theorem pU:prog.underlying 83=some (.int .u64):=by kernel_rfl
theorem mJ:prog.underlying 23=some (.int .u16):=by kernel_rfl
theorem iU:prog.underlying 3=some (.int .i64):=by kernel_rfl
theorem u8U:prog.underlying 5=some (.int .u8):=by kernel_rfl
theorem aIr:prog.underlying 331=some (.int .u16):=by kernel_rfl
theorem aIs (hm:0<m)(n:Nat):lvl prog pkN m (.func 247) [.int .u64 n] H=some (.int .u16 ((n%65536:Nat):Int),H):=by
 refine cX (cF rfl) hm ?_;rw[aHQ];simp -implicitDefEqProofs only[gsR,eZ _ _ pU mJ,Ac]
theorem L9 (near s:Nat):dN near s<18446744073709551616:=Nat.mod_lt _ (by omega)
theorem Vv (hm:1<m)(near s:Nat)(hn:near<18446744073709551616)(hs:s<65536):lvl prog pkN m (.func 195) [.int .u64 near,.int .u16 s] H=some (.int .u64 (dN near s),H):=by
 refine cX (cF rfl) (by omega) ?_
 rw[aHG];have e1:IntKind.u64.wrap ((near:Int)-32768)=(((near+18446744073709518848)%18446744073709551616:Nat):Int):=by rw[r9];omega
 have e2:=aIs (H:=H) (m:=m-1) (by omega) ((near+18446744073709518848)%18446744073709551616)
 have e3:=aIj s ((near+18446744073709518848)%18446744073709551616%65536) hs (by omega)
 have e4:=xV ((s+65536-(near+18446744073709518848)%18446744073709551616%65536)%65536) (by omega)
 simp -implicitDefEqProofs only[gsR,gJ,e1,e2,e3,eZ _ _ mJ pU,e4,cH,aIh];rfl
def lN (r:Nat):Blk:= .cells [.int .u16 r] 331 .fix
theorem aIo (hm:0<m){b r:Nat}(hb:H[b]? =some (lN r))(hr:r<65536):lvl prog pkN m (.func 271) [.pointer (some ⟨b,0,none⟩)] H=some (aG [],H.set b (lN (vX r))):=by
 refine cX (cF rfl) hm ?_;rw[aHR];have e1:ld1 (.pointer (some ⟨b,0,none⟩)) H=some (.int .u16 r,H):=cK hb rfl;have e2:bin prog .and 331 (.int .u16 (r:Int)) (.int .u16 32768)=some (.int .u16 ((r&&&32768:Nat):Int)):=vR .u16 rfl _ (a:=r) (b:=32768) hr (by decide)
 have e3:bin prog .shl 331 (.int .u16 (r:Int)) (.int .u64 1)=some (.int .u16 ((r*2%65536:Nat):Int)):=Ca .u16 .u64 rfl _ r 1 (by decide)
 have e4:stN 1 (.pointer (some ⟨b,0,none⟩)) (.int .u16 ((r*2%65536:Nat):Int)) H=some (undef,H.set b (lN (r*2%65536))):=lG hb (by decide) Nat.zero_lt_one
 have e5:ld1 (.pointer (some ⟨b,0,none⟩)) (H.set b (lN (r*2%65536)))=some (.int .u16 ((r*2%65536:Nat):Int),H.set b (lN (r*2%65536))):=cK (iM hb) rfl;have e6:bin prog .xor 331 (.int .u16 ((r*2%65536:Nat):Int)) (.int .u16 4129)=some (.int .u16 (((r*2%65536)^^^4129:Nat):Int)):=Re .u16 rfl _ (a:=r*2%65536) (b:=4129) (by show _<65536;omega) (by decide)
 have e7:stN 1 (.pointer (some ⟨b,0,none⟩)) (.int .u16 (((r*2%65536)^^^4129:Nat):Int)) (H.set b (lN (r*2%65536)))=some (undef,(H.set b (lN (r*2%65536))).set b (lN ((r*2%65536)^^^4129))):=lG (iM hb) (by decide) Nat.zero_lt_one
 by_cases hc:r<32768
 ·have h0:(r&&&32768:Nat)=0:=(Vq hr).mpr hc
  have k1:((((r&&&32768:Nat):Int))!=0)=false:=by rw[h0];rfl
  simp -implicitDefEqProofs only[gsR,e1,e2,e3,e4,k1];rw[vX,if_pos hc,aM7 (by omega)]
 ·have h0: ¬(r&&&32768:Nat)=0:=λh=>hc ((Vq hr).mp h)
  have k1:((((r&&&32768:Nat):Int))!=0)=true:=by simp[h0]
  simp -implicitDefEqProofs only[gsR,e1,e2,e3,e4,e5,e6,e7,k1,L4];rw[vX,if_neg hc,show r*2%65536=r*2-65536 by omega]
theorem aIq {b:Nat}{H0:aA}: ∀(q i k r:Nat)(H:aA),8-i=q->i<=8->q<k->10<m->H=H0.set b (lN r)->b<H0.length->r<65536->
  ∀x1 x2 x3 x4 x5 x6 x7 x8 x9 bI cA aN aL aM aR:Value,aH k (aI prog (lvl prog pkN (m-1)) (aH (m-1)) Lh) (Li (lvl prog pkN (m-1)) (aH (m-1))) [(.pointer (some ⟨b,0,none⟩)),x1,x2,x3,x4,x5,x6,x7,x8,x9,bI,cA,(.int .i64 i),aN,aL,aM,aR] H=some (aG [],H0.set b (lN (Ad (8-i) r))):=by
 intro q;induction q with
 |zero=>
  intro i k r H hq hi hk hm hH hb hr x1 x2 x3 x4 x5 x6 x7 x8 x9 bI cA aN aL aM aR;obtain⟨k,rfl⟩: ∃k',k=k'+1:=⟨k-1,by omega⟩
  have hi8:i=8:=by omega
  subst hi8;have c1:decide (((8:Nat):Int)<8)=false:=by decide
  rw[aH,U9];simp -implicitDefEqProofs only[gsR,c1];rw[aHJ];rw[hH];rfl
 |succ q ih=>
  intro i k r H hq hi hk hm hH hb hr x1 x2 x3 x4 x5 x6 x7 x8 x9 bI cA aN aL aM aR;obtain⟨k,rfl⟩: ∃k',k=k'+1:=⟨k-1,by omega⟩
  have c1:decide ((i:Int)<8)=true:=by rw[decide_eq_true_eq];omega
  have hg:H[b]? =some (lN r):=by rw[hH,aMF hb]
  have e1:=aIo (m:=m-1) (by omega) hg hr
  have e2:IntKind.i64.wrap ((i:Int)+1)=((i+1:Nat):Int):=by rw[dJ (by omega) (by omega)];omega
  rw[aH,U9];simp -implicitDefEqProofs only[gsR,c1,e1,cH,e2];rw[ih (i+1) k (vX r) _ (by omega) (by omega) (by omega) hm (by rw[hH,L4]) hb (Vp hr)]
  rw[show 8-i=(8-(i+1))+1 by omega,Ad]
theorem aIp (hm:10<m){b r:Nat}(hb:H[b]? =some (lN r))(hr:r<65536)(c:UInt8):lvl prog pkN m (.func 233) [.pointer (some ⟨b,0,none⟩),kH c] H=some (aG [],H.set b (lN (s9 r c))):=by
 refine cX (cF rfl) (by omega) ?_
 rw[aHK];have hc:=c.toNat_lt;have e1:ld1 (.pointer (some ⟨b,0,none⟩)) H=some (.int .u16 r,H):=cK hb rfl;have e2:dI prog 5 331 (kH c) H=some (.int .u16 c.toNat,H):=by
  show dI prog 5 331 (.int .u8 c.toNat) H=_
  rw[eZ _ _ u8U aIr,Hv (by omega) (by omega)]
 have e3:bin prog .shl 331 (.int .u16 (c.toNat:Int)) (.int .u64 8)=some (.int .u16 ((c.toNat*256:Nat):Int)):=by
  have:=Ca (P:=prog) .u16 .u64 rfl 331 c.toNat 8 (by decide)
  rw[show c.toNat*2 ^ 8%2 ^ IntKind.u16.bits=c.toNat*256 from by show c.toNat*256%65536=_;omega] at this
  exact this
 have e4:bin prog .xor 331 (.int .u16 (r:Int)) (.int .u16 ((c.toNat*256:Nat):Int))=some (.int .u16 ((r^^^c.toNat*256:Nat):Int)):=Re .u16 rfl _ (a:=r) (b:=c.toNat*256) hr (by show _<65536;omega)
 have e5:stN 1 (.pointer (some ⟨b,0,none⟩)) (.int .u16 ((r^^^c.toNat*256:Nat):Int)) H=some (undef,H.set b (lN (r^^^c.toNat*256))):=lG hb (by decide) Nat.zero_lt_one
 simp -implicitDefEqProofs only[gsR,e1,e2,e3,e4,e5];refine(aIq (m:=m) 8 0 (m-1) (r^^^c.toNat*256) _ rfl (by omega) (by omega) (by omega) rfl (dA hb) (Vs hr c) _ _ _ _ _ _ _ _ _ _ _ _ _ _ _).trans ?_
 unfold s9;rfl
theorem aIt {u:Value}{bs:List UInt8}{H0:aA}(hu:Br H0 u bs): ∀(q i k:Nat)(H:aA),bs.length-i=q->i<=bs.length->q<k->20<m->bs.length<4611686018427387904->H=H0++[lN ((bs.take i).foldl s9 65535)]->
  ∀x0 x1 x2 x4 x5 x9 bI cA aP aN aL aM:Value,aH k (aI prog (lvl prog pkN (m-1)) (aH (m-1)) K6) (K7 (lvl prog pkN (m-1)) (aH (m-1))) [x0,x1,x2,(.pointer (some ⟨H0.length,0,none⟩)),x4,x5,u,(.int .i64 bs.length),(.int .i64 i),x9,bI,cA,aP,aN,aL,aM] H=some (.int .u16 (crc bs),H0++[lN (crc bs)]):=by
 intro q;induction q with
 |zero=>
  intro i k H hq hi hk hm hl hH x0 x1 x2 x4 x5 x9 bI cA aP aN aL aM;obtain⟨k,rfl⟩: ∃k',k=k'+1:=⟨k-1,by omega⟩
  have hi8:i=bs.length:=by omega
  subst hi8;have c1:decide ((bs.length:Int)<(bs.length:Int))=false:=by simp
  have hf:(bs.take bs.length).foldl s9 65535=crc bs:=by rw[List.take_length];unfold crc;rfl
  rw[hf] at hH;have e1:ld1 (.pointer (some ⟨H0.length,0,none⟩)) H=some (.int .u16 (crc bs),H):=by rw[hH];exact cK (dF _ _) rfl
  rw[aH,U4];simp -implicitDefEqProofs only[gsR,c1];rw[aHk];simp -implicitDefEqProofs only[gsR,e1];rw[hH]
 |succ q ih=>
  intro i k H hq hi hk hm hl hH x0 x1 x2 x4 x5 x9 bI cA aP aN aL aM;obtain⟨k,rfl⟩: ∃k',k=k'+1:=⟨k-1,by omega⟩
  have c1:decide ((i:Int)<(bs.length:Int))=true:=by rw[decide_eq_true_eq];omega
  have hx:bs[i]? =some bs[i]:=aMB (by omega)
  have hu':Br H u bs:=hu.ext (by rw[hH];exact Fr.app _ _ _)
  obtain⟨b,o,a1,a2⟩:=hu'.aCL hx .i64;have hg:H[H0.length]? =some (lN ((bs.take i).foldl s9 65535)):=by rw[hH];exact dF _ _
  have e1:=aIp (m:=m-1) (by omega) hg (Vu _ (by decide)) bs[i]
  have e2:IntKind.i64.wrap ((i:Int)+1)=((i+1:Nat):Int):=by rw[dJ (by omega) (by omega)];omega
  rw[aH,U4];simp -implicitDefEqProofs only[gsR,c1,a1,a2,e1,cH,e2];refine ih (i+1) k _ (by omega) (by omega) (by omega) hm hl ?_ _ _ _ _ _ _ _ _ _ _ _ _
  rw[hH,mR,List.take_add_one,hx,List.foldl_append];rfl
theorem L8 {u:Value}{bs:List UInt8}(hu:Br H u bs)(hm:20<m)(hl:bs.length+1<m)(hl2:bs.length<4611686018427387904):lvl prog pkN m (.func 175) [u] H=some (.int .u16 (crc bs),H++[lN (crc bs)]):=by
 refine cX (cF rfl) (by omega) ?_
 rw[aHl];have e1:stN 1 (.pointer (some ⟨H.length,0,none⟩)) (.int .u16 65535) (H++[.cells [.int .u16 0] 331 .fix])=some (undef,H++[lN 65535]):=by
  rw[lG (dF _ _) (by decide) Nat.zero_lt_one,mR]
  rfl
 simp -implicitDefEqProofs only[gsR,e1,hu.aCM];exact aIt hu bs.length 0 (m-1) _ (by omega) (by omega) (by omega) hm hl2 rfl _ _ _ _ _ _ _ _ _ _ _ _
end
def lO (x:Snd):Blk:= .cells [.int .u64 x.s,.int .u64 x.l] 204 .fix
def iR (x:Rcv)(room:Nat):Blk:= .cells [.int .u64 x.n,.int .i64 x.h,.int .i64 room] 225 .fix
structure SndOk (x:Snd):Prop where
 le:x.s<=x.l
 wide:x.l<=x.s+8
 big:x.l<4611686018427387904
structure RcvOk (x:Rcv)(room:Nat):Prop where
 h:x.h<=room
 room:room<=8
 big:x.n<4611686018427387904
section
variable {H : aA} {m : Nat} {b : Nat}
theorem Vy (hm:0<m){x:Snd}(hx:SndOk x):lvl prog pkN m (.func 120) [.agg #[.int .u64 x.s,.int .u64 x.l]] H=some (.int .i64 x.o9,H++[.cells [.int .u64 x.s,.int .u64 x.l] 202 .fix]):=by
 have:=hx.le;have:=hx.wide;have:=hx.big;refine cX (cF rfl) hm ?_;rw[aHf];have e0:(Value.cells (.agg #[.int .u64 x.s,.int .u64 x.l])).toList=[.int .u64 x.s,.int .u64 x.l]:=rfl;have e1:ld1 (.pointer (some ⟨H.length,1,none⟩)) (H++[.cells [.int .u64 x.s,.int .u64 x.l] 202 .fix])=some (.int .u64 x.l,H++[.cells [.int .u64 x.s,.int .u64 x.l] 202 .fix]):=cK (dF _ _) rfl;have e2:ld1 (.pointer (some ⟨H.length,0,none⟩)) (H++[.cells [.int .u64 x.s,.int .u64 x.l] 202 .fix])=some (.int .u64 x.s,H++[.cells [.int .u64 x.s,.int .u64 x.l] 202 .fix]):=cK (dF _ _) rfl;have e3:IntKind.u64.wrap ((x.l:Int)-x.s)=((x.o9:Nat):Int):=by rw[r9,Snd.o9];omega
 have e4:=xW x.o9 (by unfold Snd.o9;omega)
 simp -implicitDefEqProofs only[gsR,e0,e1,e2,gJ,e3,eZ _ _ pU iU,e4]
theorem Ma {x:Snd}(hb:H[b]? =some (lO x)):ldN 2 (.pointer (some ⟨b,0,none⟩)) H=some (.agg #[.int .u64 x.s,.int .u64 x.l],H):=xX hb (aME 2)
theorem aID (hm:1<m){x:Snd}(hb:H[b]? =some (lO x))(hx:SndOk x):lvl prog pkN m (.func 50) [.pointer (some ⟨b,0,none⟩)] H=some (.int .i64 x.o9,H++[.cells [.int .u64 x.s,.int .u64 x.l] 202 .fix]):=by
 refine cX (cF rfl) (by omega) ?_
 rw[aH0];simp -implicitDefEqProofs only[gsR,Ma hb,Vy (H:=H) (m:=m-1) (by omega) hx]
theorem aIC (hm:0<m){x:Snd}(hb:H[b]? =some (lO x)):lvl prog pkN m (.func 47) [.pointer (some ⟨b,0,none⟩)] H=some (.int .u64 x.s,H):=by
 refine cX (cF rfl) (by omega) ?_
 rw[aHZ];have e1:ld1 (.pointer (some ⟨b,0,none⟩)) H=some (.int .u64 x.s,H):=cK hb rfl;simp -implicitDefEqProofs only[gsR,e1]
theorem aIB (hm:1<m){x:Snd}(hb:H[b]? =some (lO x))(hx:SndOk x): ∃H',lvl prog pkN m (.func 188) [.pointer (some ⟨b,0,none⟩)] H=some (.tuple #[.int .u64 x.nP.1,.bool (decide (x.l≠x.s))],H')/\Put1 H b (lO x.nP.2) H':=by
 have:=hx.le;have:=hx.wide;have:=hx.big;refine kJ (cF rfl) (by omega) ?_
 rw[aHD];have e0:=Vy (H:=H) (m:=m-1) (by omega) hx
 have hx1:Ext H (H++[Blk.cells [.int .u64 x.s,.int .u64 x.l] 202 .fix]):=Fr.app _ _ _;have hb1:=nE hb (Blk.cells [.int .u64 x.s,.int .u64 x.l] 202 .fix);by_cases hc:x.l=x.s
 ·have c1:((x.o9:Int)==0)=true:=by simp[Snd.o9,hc]
  have d1:x.nP=(0,x):=by simp[Snd.nP,hc]
  have d2:decide (x.l≠x.s)=false:=by simp[hc]
  simp -implicitDefEqProofs only[gsR,Ma hb,e0,c1,d1,d2]
  exact⟨_,rfl,Put1.ext hb hx1⟩
 ·have c1:((x.o9:Int)==0)=false:=by simp[Snd.o9];omega
  have d1:x.nP=(x.s,⟨x.s+1,x.l⟩):=by simp[Snd.nP,hc]
  have d2:decide (x.l≠x.s)=true:=by simp[hc]
  have e1:ld1 (.pointer (some ⟨b,0,none⟩)) (H++[Blk.cells [.int .u64 x.s,.int .u64 x.l] 202 .fix])=some (.int .u64 x.s,_):=cK hb1 rfl;have e2:IntKind.u64.wrap ((x.s:Int)+1)=((x.s+1:Nat):Int):=by rw[r9];omega
  have e3:stN 1 (.pointer (some ⟨b,0,none⟩)) (.int .u64 ((x.s+1:Nat):Int)) (H++[Blk.cells [.int .u64 x.s,.int .u64 x.l] 202 .fix])=some (undef,(H++[Blk.cells [.int .u64 x.s,.int .u64 x.l] 202 .fix]).set b (lO ⟨x.s+1,x.l⟩)):=lG hb1 (by decide) (by simp)
  simp -implicitDefEqProofs only[gsR,Ma hb,e0,c1,e1,cH,e2,e3,d1,d2]
  exact⟨_,rfl,Put1.aIn hx1 (Put1.Af hb1)⟩
theorem aIz (hm:2<m){x:Snd}(hb:H[b]? =some (lO x))(hx:SndOk x)(limit:Nat)(hl:limit<65536): ∃H' u,lvl prog pkN m (.func 117) [.pointer (some ⟨b,0,none⟩),.int .u16 limit] H=some (u,H')/\Put1 H b (lO (x.qJ limit)) H':=by
 have:=hx.le;have:=hx.wide;have:=hx.big;refine iK (cF rfl) (by omega) ?_
 rw[aHd];have e1:ld1 (.pointer (some ⟨b,1,none⟩)) H=some (.int .u64 x.l,H):=cK hb rfl;have e2:ld1 (.pointer (some ⟨b,0,none⟩)) H=some (.int .u64 x.s,H):=cK hb rfl;have e3:=Vv (H:=H) (m:=m-1) (by omega) x.l limit (by omega) hl
 have e4:IntKind.u64.wrap ((x.s:Int)+8)=((x.s+8:Nat):Int):=by rw[r9];omega
 by_cases c:dN x.l limit<=x.l
 ·have c1:decide ((dN x.l limit:Int)<=(x.l:Int))=true:=by rw[decide_eq_true_eq];omega
  have d:x.qJ limit=x:=by unfold Snd.qJ;rw[if_pos (.inl c)]
  simp -implicitDefEqProofs only[gsR,e1,e3,c1]
  exact⟨_,_,rfl,by rw[d];exact Put1.uK hb⟩
 ·have c1:decide ((dN x.l limit:Int)<=(x.l:Int))=false:=by rw[decide_eq_false_iff_not];omega
  by_cases c':x.s+8<dN x.l limit
  ·have c2:decide (((x.s+8:Nat):Int)<(dN x.l limit:Int))=true:=by rw[decide_eq_true_eq];omega
   have d:x.qJ limit=x:=by unfold Snd.qJ;rw[if_pos (.inr c')]
   simp -implicitDefEqProofs only[gsR,e1,e2,e3,c1,cH,e4,c2]
   exact⟨_,_,rfl,by rw[d];exact Put1.uK hb⟩
  ·have c2:decide (((x.s+8:Nat):Int)<(dN x.l limit:Int))=false:=by rw[decide_eq_false_iff_not];omega
   have d:x.qJ limit=⟨x.s,dN x.l limit⟩:=by unfold Snd.qJ;rw[if_neg (by omega)]
   have e5:stN 1 (.pointer (some ⟨b,1,none⟩)) (.int .u64 (dN x.l limit)) H=some (undef,H.set b (lO ⟨x.s,dN x.l limit⟩)):=lG hb (by decide) (by simp)
   simp -implicitDefEqProofs only[gsR,e1,e2,e3,c1,cH,e4,c2,e5]
   exact⟨_,_,rfl,by rw[d];exact Put1.Af hb⟩
theorem aIA (hm:0<m)(start room:Nat)(h1:start<65536)(h2:1<=room/\room<=8):lvl prog pkN m (.func 89) [.int .u64 start,.int .i64 room] H=some (.pointer (some ⟨H.length,0,none⟩),H++[lO ⟨start,start+room⟩]):=by
 refine cX (cF rfl) (by omega) ?_
 rw[aH4];have c1:decide (4611686018427387904<=(start:Int))=false:=by rw[decide_eq_false_iff_not];omega
 have c2:decide ((room:Int)<1)=false:=by rw[decide_eq_false_iff_not];omega
 have c3:decide (8<(room:Int))=false:=by rw[decide_eq_false_iff_not];omega
 have e1:IntKind.u64.wrap (room:Int)=room:=xV room (by omega)
 have e2:IntKind.u64.wrap ((start:Int)+room)=((start+room:Nat):Int):=by rw[r9];omega
 have e3:bld prog 202 [(0,.int .u64 start),(1,.int .u64 ((start+room:Nat):Int))]=some (.agg #[.int .u64 start,.int .u64 ((start+room:Nat):Int)]):=rfl;have e4:bld prog 204 [(0,.agg #[.int .u64 start,.int .u64 ((start+room:Nat):Int)])]=some (.agg #[.int .u64 start,.int .u64 ((start+room:Nat):Int)]):=rfl;simp -implicitDefEqProofs only[gsR,c1,c2,c3,eZ _ _ iU pU,e1,cH,e2,e3,e4];rfl
theorem aIy (hm:0<m)(start room:Nat)(h1:start<65536)(h2:1<=room/\room<=8):lvl prog pkN m (.func 90) [.int .u64 start,.int .i64 room] H=some (.pointer (some ⟨H.length,0,none⟩),H++[iR ⟨start,0⟩ room]):=by
 refine cX (cF rfl) (by omega) ?_
 rw[aH5];have c1:decide (4611686018427387904<=(start:Int))=false:=by rw[decide_eq_false_iff_not];omega
 have c2:decide ((room:Int)<1)=false:=by rw[decide_eq_false_iff_not];omega
 have c3:decide (8<(room:Int))=false:=by rw[decide_eq_false_iff_not];omega
 have e3:bld prog 225 [(0,.int .u64 start),(2,.int .i64 room)]=some (.agg #[.int .u64 start,.int .i64 0,.int .i64 room]):=rfl;simp -implicitDefEqProofs only[gsR,c1,c2,c3,e3];rfl
section
variable {x : Rcv} {room : Nat}
theorem uL (hb:H[b]? =some (iR x room)):ld1 (.pointer (some ⟨b,0,none⟩)) H=some (.int .u64 x.n,H)/\ld1 (.pointer (some ⟨b,1,none⟩)) H=some (.int .i64 x.h,H)/\ld1 (.pointer (some ⟨b,2,none⟩)) H=some (.int .i64 room,H):=⟨cK hb rfl,cK hb rfl,cK hb rfl⟩
theorem uM (hx:RcvOk x room):IntKind.i64.wrap ((room:Int)-x.h)=((room-x.h:Nat):Int)/\IntKind.u64.wrap ((room-x.h:Nat):Int)=((room-x.h:Nat):Int):=by
 have:=hx.h;have:=hx.room
 exact⟨by rw[dJ (by omega) (by omega)];omega,xV _ (by omega)⟩
theorem aIx (hm:0<m)(hb:H[b]? =some (iR x room))(hx:RcvOk x room):lvl prog pkN m (.func 154) [.pointer (some ⟨b,0,none⟩)] H=some (.int .u64 (x.lM room),H):=by
 have:=hx.h;have:=hx.room;have:=hx.big;refine cX (cF rfl) (by omega) ?_
 rw[aHg];have e:IntKind.u64.wrap ((x.n:Int)+((room-x.h:Nat):Int))=((x.lM room:Nat):Int):=by rw[r9,Rcv.lM];omega
 simp -implicitDefEqProofs only[gsR,(uL hb).1,(uL hb).2.1,(uL hb).2.2,gJ,(uM hx).1,(uM hx).2,eZ _ _ iU pU,cH,e]
def nG (n w:Nat):Nat:=(w+(18446744073709551616-n))%18446744073709551616
theorem Vx (hm:2<m)(hb:H[b]? =some (iR x room))(hx:RcvOk x room)(s:Nat)(hs:s<65536):lvl prog pkN m (.func 196) [.pointer (some ⟨b,0,none⟩),.int .u16 s] H=some (.tuple #[.int .u64 (dN x.n s),.int .u64 (nG x.n (dN x.n s)),.bool (decide (x.n<=dN x.n s))],H):=by
 have:=hx.big;refine cX (cF rfl) (by omega) ?_
 rw[aHH];have e1:=Vv (H:=H) (m:=m-1) (by omega) x.n s (by omega) hs
 have e2:IntKind.u64.wrap ((dN x.n s:Int)-x.n)=((nG x.n (dN x.n s):Nat):Int):=aIk _ _ (L9 _ _) (by omega)
 have e3:decide ((x.n:Int)<=(dN x.n s:Int))=decide (x.n<=dN x.n s):=by simp
 simp -implicitDefEqProofs only[gsR,(uL hb).1,e1,gJ,e2,e3];rfl
theorem Vw {n w:Nat}(hn:n<18446744073709551616)(hw:w<18446744073709551616)(h:n<=w):nG n w=w-n:=by unfold nG;omega
theorem aIu (hm:3<m)(hb:H[b]? =some (iR x room))(hx:RcvOk x room)(s:Nat)(hs:s<65536): ∃H',lvl prog pkN m (.func 197) [.pointer (some ⟨b,0,none⟩),.int .u16 s] H=some (.int .u16 (x.jX room s).1,H')/\Put1 H b (iR (x.jX room s).2 room) H':=by
 have:=hx.h;have:=hx.room;have:=hx.big;have hwl:=L9 x.n s;refine kJ (cF rfl) (by omega) ?_
 rw[aHI];have e1:=Vx (m:=m-1) (by omega) hb hx s hs
 obtain⟨l0,l1,l2⟩:=uL hb;have x0: ∀y,ext 0 (.tuple #[.int .u64 (dN x.n s),.int .u64 (nG x.n (dN x.n s)),.bool y])=some (.int .u64 (dN x.n s)):=λ_=>rfl
 have x1: ∀y,ext 1 (.tuple #[.int .u64 (dN x.n s),.int .u64 (nG x.n (dN x.n s)),.bool y])=some (.int .u64 (nG x.n (dN x.n s))):=λ_=>rfl
 have x2: ∀y,ext 2 (.tuple #[.int .u64 (dN x.n s),.int .u64 (nG x.n (dN x.n s)),.bool y])=some (.bool y):=λ_=>rfl
 by_cases c:x.n<=dN x.n s
 ·have c1:decide (x.n<=dN x.n s)=true:=decide_eq_true c
  have hf:=Vw (by omega) hwl c
  have ef:IntKind.u64.wrap (((room-x.h:Nat)):Int)=_:=(uM hx).2;by_cases c':x.lM room<=dN x.n s
  ·have c2:decide (((room-x.h:Nat):Int)<=(nG x.n (dN x.n s):Int))=true:=by rw[decide_eq_true_eq,hf];unfold Rcv.lM at c';omega
   have d:x.jX room s=(61,x):=by unfold Rcv.jX;rw[if_neg (by omega),if_pos c']
   simp -implicitDefEqProofs only[gsR,e1,x0,x1,x2,c1,l0,l1,l2,gJ,(uM hx).1,eZ _ _ iU pU,ef,c2,d]
   exact⟨_,rfl,Put1.uK hb⟩
  ·have c2:decide (((room-x.h:Nat):Int)<=(nG x.n (dN x.n s):Int))=false:=by rw[decide_eq_false_iff_not,hf];unfold Rcv.lM at c';omega
   have d:x.jX room s=(0,⟨dN x.n s+1,x.h+1⟩):=by unfold Rcv.jX;rw[if_neg (by omega),if_neg c']
   have hlt:dN x.n s<4611686018427387912:=by unfold Rcv.lM at c';omega
   have e2:IntKind.u64.wrap ((dN x.n s:Int)+1)=((dN x.n s+1:Nat):Int):=by rw[r9];omega
   have e3:stN 1 (.pointer (some ⟨b,0,none⟩)) (.int .u64 ((dN x.n s+1:Nat):Int)) H=some (undef,H.set b (iR ⟨dN x.n s+1,x.h⟩ room)):=lG hb (by decide) (by simp)
   have hb1:(H.set b (iR ⟨dN x.n s+1,x.h⟩ room))[b]? =some (iR ⟨dN x.n s+1,x.h⟩ room):=iM hb;have e4:=(uL hb1).2.1;have e5:IntKind.i64.wrap ((x.h:Int)+1)=((x.h+1:Nat):Int):=by rw[dJ (by omega) (by omega)];omega
   have e6:stN 1 (.pointer (some ⟨b,1,none⟩)) (.int .i64 ((x.h+1:Nat):Int)) (H.set b (iR ⟨dN x.n s+1,x.h⟩ room))=some (undef,(H.set b (iR ⟨dN x.n s+1,x.h⟩ room)).set b (iR ⟨dN x.n s+1,x.h+1⟩ room)):=lG hb1 (by decide) (by simp)
   simp -implicitDefEqProofs only[gsR,e1,x0,x1,x2,c1,l0,l1,l2,gJ,(uM hx).1,eZ _ _ iU pU,ef,c2,cH,e2,e3,e4,e5,e6,d,L4]
   exact⟨_,rfl,Put1.Af hb⟩
 ·have c1:decide (x.n<=dN x.n s)=false:=decide_eq_false c
  have d:x.jX room s=(60,x):=by unfold Rcv.jX;rw[if_pos (by omega)]
  simp -implicitDefEqProofs only[gsR,e1,x0,x1,x2,c1,d]
  exact⟨_,rfl,Put1.uK hb⟩
theorem aIv (hm:0<m)(hb:H[b]? =some (iR x room))(hx:RcvOk x room): ∃H' u,lvl prog pkN m (.func 186) [.pointer (some ⟨b,0,none⟩)] H=some (u,H')/\Put1 H b (iR x.tA room) H':=by
 have:=hx.h;have:=hx.room;refine iK (cF rfl) (by omega) ?_
 rw[aHB];obtain⟨l0,l1,l2⟩:=uL hb;by_cases c:x.h=0
 ·have c1:((x.h:Int)==0)=true:=by simp[c]
  simp -implicitDefEqProofs only[gsR,l1,c1];refine⟨_,_,rfl,?_⟩;have d:x.tA=x:=by unfold Rcv.tA;rw[c];cases x;simp at c;subst c;rfl
  rw[d];exact Put1.uK hb
 ·have c1:((x.h:Int)==0)=false:=by simp[c]
  have e5:IntKind.i64.wrap ((x.h:Int)-1)=((x.h-1:Nat):Int):=by rw[dJ (by omega) (by omega)];omega
  have e6:stN 1 (.pointer (some ⟨b,1,none⟩)) (.int .i64 ((x.h-1:Nat):Int)) H=some (undef,H.set b (iR x.tA room)):=lG hb (by decide) (by simp)
  simp -implicitDefEqProofs only[gsR,l1,c1,gJ,e5,e6]
  exact⟨_,_,rfl,Put1.Af hb⟩
theorem aIw (hm:3<m)(hb:H[b]? =some (iR x room))(hx:RcvOk x room)(s:Nat)(hs:s<65536): ∃H' u,lvl prog pkN m (.func 118) [.pointer (some ⟨b,0,none⟩),.int .u16 s] H=some (u,H')/\Put1 H b (iR (x.o8 room s) room) H':=by
 have:=hx.h;have:=hx.room;have:=hx.big;have hwl:=L9 x.n s;refine iK (cF rfl) (by omega) ?_
 rw[aHe];have e1:=Vx (m:=m-1) (by omega) hb hx s hs
 obtain⟨l0,l1,l2⟩:=uL hb;have x0: ∀y,ext 0 (.tuple #[.int .u64 (dN x.n s),.int .u64 (nG x.n (dN x.n s)),.bool y])=some (.int .u64 (dN x.n s)):=λ_=>rfl
 have x1: ∀y,ext 1 (.tuple #[.int .u64 (dN x.n s),.int .u64 (nG x.n (dN x.n s)),.bool y])=some (.int .u64 (nG x.n (dN x.n s))):=λ_=>rfl
 have x2: ∀y,ext 2 (.tuple #[.int .u64 (dN x.n s),.int .u64 (nG x.n (dN x.n s)),.bool y])=some (.bool y):=λ_=>rfl
 by_cases c:x.n<=dN x.n s
 ·have c1:decide (x.n<=dN x.n s)=true:=decide_eq_true c
  have hf:=Vw (by omega) hwl c
  have ef:IntKind.u64.wrap (((room-x.h:Nat)):Int)=_:=(uM hx).2;by_cases c0:dN x.n s=x.n
  ·have c2:((nG x.n (dN x.n s):Int)==0)=true:=by rw[hf,c0];simp
   have d:x.o8 room s=x:=by unfold Rcv.o8;rw[if_pos (by omega)]
   simp -implicitDefEqProofs only[gsR,e1,x0,x1,x2,c1,c2]
   exact⟨_,_,rfl,by rw[d];exact Put1.uK hb⟩
  ·have c2:((nG x.n (dN x.n s):Int)==0)=false:=by rw[hf];simp;omega
   by_cases c':x.lM room<dN x.n s
   ·have c3:decide (((room-x.h:Nat):Int)<(nG x.n (dN x.n s):Int))=true:=by rw[decide_eq_true_eq,hf];unfold Rcv.lM at c';omega
    have d:x.o8 room s=x:=by unfold Rcv.o8;rw[if_pos (by omega)]
    simp -implicitDefEqProofs only[gsR,e1,x0,x1,x2,c1,c2,l0,l1,l2,gJ,(uM hx).1,eZ _ _ iU pU,ef,c3]
    exact⟨_,_,rfl,by rw[d];exact Put1.uK hb⟩
   ·have c3:decide (((room-x.h:Nat):Int)<(nG x.n (dN x.n s):Int))=false:=by rw[decide_eq_false_iff_not,hf];unfold Rcv.lM at c';omega
    have d:x.o8 room s=⟨dN x.n s,x.h⟩:=by unfold Rcv.o8;rw[if_neg (by omega)]
    have e3:stN 1 (.pointer (some ⟨b,0,none⟩)) (.int .u64 (dN x.n s)) H=some (undef,H.set b (iR ⟨dN x.n s,x.h⟩ room)):=lG hb (by decide) (by simp)
    simp -implicitDefEqProofs only[gsR,e1,x0,x1,x2,c1,c2,l0,l1,l2,gJ,(uM hx).1,eZ _ _ iU pU,ef,c3,e3]
    exact⟨_,_,rfl,by rw[d];exact Put1.Af hb⟩
 ·have c1:decide (x.n<=dN x.n s)=false:=decide_eq_false c
  have d:x.o8 room s=x:=by unfold Rcv.o8;rw[if_pos (by omega)]
  simp -implicitDefEqProofs only[gsR,e1,x0,x1,x2,c1]
  exact⟨_,_,rfl,by rw[d];exact Put1.uK hb⟩
end
end
def frC (f:Frm):List Value:=[.int .u8 f.kind,.int .u8 f.lane,.int .u16 f.seq,.int .u8 f.src,.int .u8 f.dst,.int .u32 f.body]
def frV (f:Frm):Value:= .agg ⟨frC f⟩
def frB (f:Frm):Blk:= .cells (frC f) 71 .fix
def byC (b:UInt8):List Value:=[kH b]
theorem Du (b:UInt8):(byC b).length=1:=rfl
theorem Vz (b:UInt8):dK (byC b)=true:=rfl
theorem tC: ∀bs:List UInt8,(bs.map byC).flatten=bs.map kH
 |[]=>rfl
 |b::bs=>by simp[byC,tC bs]
abbrev By (H:aA)(v:Value)(bs:List UInt8):Prop:=Rw byC 5 1 H v bs
theorem By.br {H:aA}{v:Value}{bs:List UInt8}(h:By H v bs):Br H v bs:=by
 rcases h.rs with⟨h1,h2⟩|⟨b,o,cap,h1,h2,h3⟩
 ·exact .inl ⟨h2,.inl h1⟩
 ·by_cases hb:bs=[]
  ·exact .inl ⟨hb,.inr ⟨b,o,cap,by rw[h1,hb];rfl⟩⟩
  ·obtain⟨e',k,pre,post,h4,_,h5⟩:=h3 hb
   refine .inr ⟨b,o,cap,_,e',k,h1,List.length_pos_iff.mpr hb,h5,?_,?_⟩
   ·rw[tC]
    simp;omega
   ·rw[tC,<-h4,aMG,List.drop_left]
    have:bs.length=(bs.map kH).length:=by simp
    rw[this,List.take_left]
section
variable {H : aA} {m : Nat}
theorem pB:prog.underlying 29=some (.int .u32):=by kernel_rfl
theorem kFr:rH prog 71=some [true,true,true,true,true,true]:=by kernel_rfl
def Dv (x y:Frm):Bool:=((x.kind:Int)==y.kind)&&(((x.lane:Int)==y.lane)&&(((x.seq:Int)==y.seq)&&(((x.src:Int)==y.src)&&(((x.dst:Int)==y.dst)&&(((x.body:Int)==y.body)&&true)))))
theorem eFr (x y:Frm):bin prog .eql 71 (frV x) (frV y)=some (.bool (Dv x y)):=by
 simp[bin,frV,dP,oL,kFr,eqT,frC,Dv]
theorem wA (a b:Int):lJ prog true [.int .u8 a,.int .u8 b]=some (.int .u8 (max a b)):=by
 simp[lJ,dP,gN,pur,Builtin.max_,Builtin.max2,pure,bind,Sem.bind]
 split<;>omega
theorem nT {b:Nat}{f:Frm}(hb:H[b]? =some (frB f)):ld1 (.pointer (some ⟨b,0,none⟩)) H=some (.int .u8 f.kind,H)/\ld1 (.pointer (some ⟨b,1,none⟩)) H=some (.int .u8 f.lane,H)/\ld1 (.pointer (some ⟨b,2,none⟩)) H=some (.int .u16 f.seq,H)/\
  ld1 (.pointer (some ⟨b,3,none⟩)) H=some (.int .u8 f.src,H)/\ld1 (.pointer (some ⟨b,4,none⟩)) H=some (.int .u8 f.dst,H)/\ld1 (.pointer (some ⟨b,5,none⟩)) H=some (.int .u32 f.body,H)/\ldN 6 (.pointer (some ⟨b,0,none⟩)) H=some (frV f,H):=
 ⟨cK hb rfl,cK hb rfl,cK hb rfl,cK hb rfl,cK hb rfl,cK hb rfl,xX hb (aME 6)⟩
theorem wB (a b:Nat):((a:Int)==(b:Int))=decide (a=b):=by
 by_cases h:a=b
 ·simp[h]
 ·simp[h];omega
theorem Ag (a b:Nat):((a:Int)!=(b:Int))=decide (a≠b):=by
 by_cases h:a=b
 ·simp[h]
 ·simp[h];omega
theorem V0 (hm:0<m)(f:Frm):lvl prog pkN m (.func 172) [frV f] H=some (.bool (fL f),H++[frB f]):=by
 refine cX (cF rfl) hm ?_;rw[aHh];have e0:(Blk.cells (Value.cells (frV f)).toList 71 .fix)=frB f:=rfl;obtain⟨l0,l1,l2,l3,l4,l5,l6⟩:=nT (dF H (frB f));have k1:((f.kind:Int)==1)=decide (f.kind=1):=wB f.kind 1;have k2:((f.kind:Int)==2)=decide (f.kind=2):=wB f.kind 2;have k3:((f.kind:Int)==3)=decide (f.kind=3):=wB f.kind 3;have k4:decide ((f.lane:Int)<3)=decide (f.lane<=2):=by congr 1;exact propext (by omega)
 have k5:decide (max (f.src:Int) (f.dst:Int)<6)=decide (f.src<=5/\f.dst<=5):=by congr 1;exact propext (by omega)
 have k6:((f.src:Int)!=(f.dst:Int))=decide (f.src≠f.dst):=Ag _ _;have b1:bld prog 71 [(0,.int .u8 f.kind),(1,.int .u8 f.lane),(2,.int .u16 f.seq)]=some (frV ⟨f.kind,f.lane,f.seq,0,0,0⟩):=rfl;have b2:Dv f ⟨f.kind,f.lane,f.seq,0,0,0⟩=decide (f.src=0/\f.dst=0/\f.body=0):=by
  simp only[Dv,wB,decide_true,aMW,Bool.and_true];rw[<-Bool.decide_and,<-Bool.decide_and]
 by_cases p1:f.kind=1
 ·by_cases p2:f.lane<=2
  ·by_cases p3:f.src<=5/\f.dst<=5
   ·by_cases p4:f.src≠f.dst
    ·have hs:fL f=true:=by unfold fL;simp[p1,p2,p3.1,p3.2,p4]
     simp -implicitDefEqProofs only[gsR,e0,l0,l1,l3,l4,wA,k1,k4,k5,k6,decide_eq_true p1,decide_eq_true p2,decide_eq_true p3,decide_eq_true p4,hs]
    ·have hs:fL f=false:=by unfold fL;simp[p1,p4]
     simp -implicitDefEqProofs only[gsR,e0,l0,l1,l3,l4,wA,k1,k4,k5,k6,decide_eq_true p1,decide_eq_true p2,decide_eq_true p3,decide_eq_false p4,hs]
   ·have hs:fL f=false:=by unfold fL;simp[p1];omega
    simp -implicitDefEqProofs only[gsR,e0,l0,l1,l3,l4,wA,k1,k4,k5,k6,decide_eq_true p1,decide_eq_true p2,decide_eq_false p3,hs]
  ·have hs:fL f=false:=by unfold fL;simp[p2]
   simp -implicitDefEqProofs only[gsR,e0,l0,l1,l3,l4,wA,k1,k4,k5,k6,decide_eq_true p1,decide_eq_false p2,hs]
 ·by_cases p2:f.kind=2
  ·by_cases p3:f.lane<=2
   ·by_cases p4:f.src=0/\f.dst=0/\f.body=0
    ·have hs:fL f=true:=by unfold fL;simp[p2,p3,p4.1,p4.2.1,p4.2.2]
     simp -implicitDefEqProofs only[gsR,e0,l0,l1,l2,l6,k1,k2,k4,b1,eFr,b2,decide_eq_false p1,decide_eq_true p2,decide_eq_true p3,decide_eq_true p4,hs]
    ·have hs:fL f=false:=by unfold fL;simp[p2];omega
     simp -implicitDefEqProofs only[gsR,e0,l0,l1,l2,l6,k1,k2,k4,b1,eFr,b2,decide_eq_false p1,decide_eq_true p2,decide_eq_true p3,decide_eq_false p4,hs]
   ·have hs:fL f=false:=by unfold fL;simp[p3]
    simp -implicitDefEqProofs only[gsR,e0,l0,l1,l2,l6,k1,k2,k4,b1,eFr,b2,decide_eq_false p1,decide_eq_true p2,decide_eq_false p3,hs]
  ·by_cases p2':f.kind=3
   ·by_cases p3:f.lane<=2
    ·by_cases p4:f.src=0/\f.dst=0/\f.body=0
     ·have hs:fL f=true:=by unfold fL;simp[p2',p3,p4.1,p4.2.1,p4.2.2]
      simp -implicitDefEqProofs only[gsR,e0,l0,l1,l2,l6,k1,k2,k3,k4,b1,eFr,b2,decide_eq_false p1,decide_eq_false p2,decide_eq_true p2',decide_eq_true p3,decide_eq_true p4,hs]
     ·have hs:fL f=false:=by unfold fL;simp[p2'];omega
      simp -implicitDefEqProofs only[gsR,e0,l0,l1,l2,l6,k1,k2,k3,k4,b1,eFr,b2,decide_eq_false p1,decide_eq_false p2,decide_eq_true p2',decide_eq_true p3,decide_eq_false p4,hs]
    ·have hs:fL f=false:=by unfold fL;simp[p3]
     simp -implicitDefEqProofs only[gsR,e0,l0,l1,l2,l6,k1,k2,k3,k4,b1,eFr,b2,decide_eq_false p1,decide_eq_false p2,decide_eq_true p2',decide_eq_false p3,hs]
   ·have hs:fL f=false:=by unfold fL;simp[p1,p2,p2']
    simp -implicitDefEqProofs only[gsR,e0,l0,l1,l2,l6,k1,k2,k3,k4,decide_eq_false p1,decide_eq_false p2,decide_eq_false p2',hs]
theorem Mb (n:Nat):kH (by8 n)= .int .u8 ((n%256:Nat):Int):=by rw[kH,Dr]
theorem Ah (hm:0<m){H0:aA}{v:Value}{bs:List UInt8}(n:Nat)(hn:n<65536)(h:By H v bs)(hv:New H0 v)(he:Ext H0 H)(hr:iZ (bs.length+2) 1=true):
  ∃H' v',lvl prog pkN m (.func 173) [v,.int .u16 n] H=some (v',H')/\By H' v' (bs++jV n)/\New H0 v'/\Ext H0 H':=by
 refine iK (cF rfl) hm ?_;rw[aHi];have e1:bin prog .shr 23 (.int .u16 (n:Int)) (.int .u64 8)=some (.int .u16 ((n/256:Nat):Int)):=by
  have:=Cb (P:=prog) .u16 .u64 23 n 8 (by decide)
  rw[Nat.shiftRight_eq_div_pow] at this;exact this
 have e2:dL 5 1 2 [.int .u8 0] [(0,.int .u8 ((n/256%256:Nat):Int)),(1,.int .u8 ((n%256:Nat):Int))] H=some (.slice (some ⟨H.length,0,none⟩) 2 2,H++[.cells ((jV n).map byC).flatten 5 .row]):=by
  rw[tC];simp only[jV,aM4,List.map_nil,Mb];rfl
 have hw:Rs byC 5 (H++[.cells ((jV n).map byC).flatten 5 .row]) (.slice (some ⟨H.length,0,none⟩) 2 2) (jV n):=
  .inr ⟨H.length,0,2,rfl,aME 2,λ_=>⟨5,.row,[],[],rfl,λ_=>rfl,by simp⟩⟩
 obtain⟨v',H',g1,g2,g3,g4⟩:=(h.tX [.cells ((jV n).map byC).flatten 5 .row]).xK Du Vz (by decide) (by':=1) hw hv (he.tr (Fr.app _ _ _)) hr
 simp -implicitDefEqProofs only[gsR,e1,eZ _ _ mJ u8U,aIi,e2,g1]
 exact⟨_,_,rfl,g2,g3,g4⟩
theorem aIE (hm:1<m){H0:aA}{v:Value}{bs:List UInt8}(n:Nat)(hn:n<4294967296)(h:By H v bs)(hv:New H0 v)(he:Ext H0 H)(hr:iZ (bs.length+4) 1=true):
  ∃H' v',lvl prog pkN m (.func 174) [v,.int .u32 n] H=some (v',H')/\By H' v' (bs++(jV (n/65536)++jV n))/\New H0 v'/\Ext H0 H':=by
 refine iK (cF rfl) (by omega) ?_
 rw[aHj];have e1:bin prog .shr 29 (.int .u32 (n:Int)) (.int .u64 16)=some (.int .u32 ((n/65536:Nat):Int)):=by
  have:=Cb (P:=prog) .u32 .u64 29 n 16 (by decide)
  rw[Nat.shiftRight_eq_div_pow] at this;exact this
 have e2:IntKind.u16.wrap ((n/65536:Nat):Int)=((n/65536:Nat):Int):=Hv (by omega) (by omega)
 obtain⟨H1,v1,g1,g2,g3,g4⟩:=Ah (m:=m-1) (by omega) (n/65536) (by omega) h hv he (jI hr (by omega))
 obtain⟨H2,v2,g5,g6,g7,g8⟩:=Ah (m:=m-1) (by omega) (n%65536) (by omega) g2 g3 g4 (jI hr (by simp[jV]))
 have e3:jV (n%65536)=jV n:=by
  simp only[jV];rw[Vo (n:=n%65536/256) (c:=by8 (n/256)) (by rw[Dr];omega),Vo (n:=n%65536) (c:=by8 n) (by rw[Dr];omega)]
 rw[e3,aMG] at g6;simp -implicitDefEqProofs only[gsR,e1,eZ _ _ pB mJ,e2,g1,Ac,g5]
 exact⟨_,_,rfl,g6,g7,g8⟩
end
section
variable {H : aA} {m : Nat}
theorem By.V1 (H:aA)(bs:List UInt8):By (H++[.cells ((bs.map byC).flatten) 5 .row]) (.slice (some ⟨H.length,0,none⟩) bs.length bs.length) bs:=by
 refine⟨by rw[tC];simp,.inr ⟨H.length,bs.length,[],rfl,aME _,by simp,by simp⟩⟩
theorem By.ext {H':aA}{v:Value}{bs:List UInt8}(h:By H v bs)(he:Ext H H'):By H' v bs:=h.fP λb hb=>he.2 b (h.iT hb) id
theorem aIG (H0:aA){H:aA}(he:Ext H0 H)(n c:Nat):New H0 (.slice (some ⟨H.length,0,none⟩) n c):=λb ⟨_,_,_,h⟩=>by
 cases h;exact he.1
theorem Mc {n:Nat}(h:n<=100):iZ n 1=true:=jI (n:=100) (by decide) h
theorem aIF (hm:100<m)(f:Frm)(hf:f.ok): ∃H' v,lvl prog pkN m (.func 97) [frV f] H=some (.tuple #[v,.int .u16 (if fL f=true then 0 else 1)],H')/\Ext H H'/\By H' v (sH f)/\New H v:=by
 have main: ∃H' r,lvl prog pkN m (.func 97) [frV f] H=some (r,H')/\ ∃v,r= .tuple #[v,.int .u16 (if fL f=true then 0 else 1)]/\Ext H H'/\By H' v (sH f)/\New H v:=by
  refine iK (cF rfl) (by omega) ?_
  rw[aIa];have e0:(Blk.cells (Value.cells (frV f)).toList 71 .fix)=frB f:=rfl;obtain⟨l0,l1,l2,l3,l4,l5,l6⟩:=nT (dF H (frB f));have s1:=V0 (H:=H++[frB f]) (m:=m-1) (by omega) f
  have x0:Ext H (H++[frB f]):=Fr.app _ _ _;have x1:Ext H (H++[frB f]++[frB f]):=x0.tr (Fr.app _ _ _);by_cases hs:fL f=true
  ·rw[hs] at s1
   have hb2:=nE (dF H (frB f)) (frB f);obtain⟨q0,q1,q2,q3,q4,q5,q6⟩:=nT hb2;have e2: ∀G:aA,dL 5 1 2 [.int .u8 0] [(0,.int .u8 (f.kind:Int)),(1,.int .u8 (f.lane:Int))] G=some (.slice (some ⟨G.length,0,none⟩) 2 2,G++[.cells (([by8 f.kind,by8 f.lane].map byC).flatten) 5 .row]):=λG=>by
    rw[tC];simp only[aM4,List.map_nil,Mb,aM7 hf.kind,aM7 hf.lane];rfl
   obtain⟨G2,hG2⟩: ∃G2,H++[frB f]++[frB f]=G2:=⟨_,rfl⟩;rw[hG2] at s1 x1 hb2 q0 q1 q2 q3 q4 q5 q6;obtain⟨G3,hG3⟩: ∃G3,G2++[Blk.cells (([by8 f.kind,by8 f.lane].map byC).flatten) 5 .row]=G3:=⟨_,rfl⟩;have b3:By G3 (.slice (some ⟨G2.length,0,none⟩) 2 2) [by8 f.kind,by8 f.lane]:=by rw[<-hG3];exact By.V1 G2 [by8 f.kind,by8 f.lane]
   have x3:Ext H G3:=by rw[<-hG3];exact x1.tr (Fr.app _ _ _)
   have hb3:G3[H.length]? =some (frB f):=by rw[<-hG3];exact nE hb2 _
   obtain⟨p0,p1,p2,p3,p4,p5,p6⟩:=nT hb3;have x3':Ext G2 G3:=by rw[<-hG3];exact Fr.app _ _ _
   obtain⟨G4,v4,g1,b4,n4',x4'⟩:=Ah (m:=m-1) (by omega) (H0:=G2) f.seq hf.seq b3 (aIG G2 (Fr.mZ _ _) 2 2) x3' (Mc (by simp))
   have nk:((f.kind:Int)==1)=decide (f.kind=1):=wB f.kind 1;have hb4:G4[H.length]? =some (frB f):=by rw[x4'.2 _ (dA hb2) id,hb2]
   obtain⟨t0,t1,t2,t3,t4,t5,t6⟩:=nT hb4;by_cases hk:f.kind=1
   ·have e5:dL 5 1 2 [.int .u8 0] [(0,.int .u8 (f.src:Int)),(1,.int .u8 (f.dst:Int))] G4=some (.slice (some ⟨G4.length,0,none⟩) 2 2,G4++[.cells (([by8 f.src,by8 f.dst].map byC).flatten) 5 .row]):=by
     rw[tC];simp only[aM4,List.map_nil,Mb,aM7 hf.src,aM7 hf.dst];rfl
    have w5:Rs byC 5 (G4++[.cells (([by8 f.src,by8 f.dst].map byC).flatten) 5 .row]) (.slice (some ⟨G4.length,0,none⟩) 2 2) [by8 f.src,by8 f.dst]:=(By.V1 G4 [by8 f.src,by8 f.dst]).rs;obtain⟨v6,G6,g6,b6,n6,x6⟩:=(b4.tX [.cells (([by8 f.src,by8 f.dst].map byC).flatten) 5 .row]).xK Du Vz (by decide) (by':=1) w5 n4' (x4'.tr (Fr.app _ _ _)) (Mc (by simp[jV]))
    have hb6:G6[H.length]? =some (frB f):=by rw[x6.2 _ (dA hb2) id,hb2]
    obtain⟨r0,r1,r2,r3,r4,r5,r6⟩:=nT hb6;have hb5:(G4++[Blk.cells (([by8 f.src,by8 f.dst].map byC).flatten) 5 .row])[H.length]? =some (frB f):=nE hb4 _;have r5':=(nT hb5).2.2.2.2.2.1;have ck:chk (some (Value.int .u32 (f.body:Int),G4++[Blk.cells (([by8 f.src,by8 f.dst].map byC).flatten) 5 .row])) (.int .u32 (f.body:Int))=true:=by simp[chk,veq]
    obtain⟨G7,v7,g7,b7,n7,x7⟩:=aIE (m:=m-1) (by omega) f.body hf.body b6 n6 x6 (Mc (by simp[jV]))
    have hbody:qH f=[by8 f.kind,by8 f.lane]++jV f.seq++[by8 f.src,by8 f.dst]++(jV (f.body/65536)++jV f.body):=by
     unfold qH L7;rw[if_pos hk];simp[jV]
    rw[<-hbody] at b7;have hl7:(qH f).length=10:=by rw[hbody];simp[jV]
    have s7:=L8 (H:=G7) (m:=m-1) b7.br (by omega) (by omega) (by omega)
    obtain⟨G8,v8,g8,b8,n8,x8⟩:=Ah (H:=G7++[lN (crc (qH f))]) (m:=m-1) (by omega) (crc (qH f)) (L5 _) (b7.ext (Fr.app _ _ _)) n7 (x7.tr (Fr.app _ _ _)) (by rw[hl7];decide)
    simp -implicitDefEqProofs only[gsR,e0,l6,hG2,s1,q0,q1,e2,hG3,p2,g1,t0,nk,decide_eq_true hk,t3,t4,e5,g6,r5,r5',ck,g7,s7,g8];refine⟨_,_,rfl,_,by simp[hs],x1.tr x8,?_,λb hb=>aMP x1.1 (n8 b hb)⟩
    unfold sH Dt L6;rw[if_pos hs];exact b8
   ·have hbody:qH f=[by8 f.kind,by8 f.lane]++jV f.seq:=by
     unfold qH L7;rw[if_neg hk];simp[jV]
    rw[<-hbody] at b4;have hl7:(qH f).length=4:=by rw[hbody];simp[jV]
    have s7:=L8 (H:=G4) (m:=m-1) b4.br (by omega) (by omega) (by omega)
    obtain⟨G8,v8,g8,b8,n8,x8⟩:=Ah (H:=G4++[lN (crc (qH f))]) (m:=m-1) (by omega) (crc (qH f)) (L5 _) (b4.ext (Fr.app _ _ _)) n4' (x4'.tr (Fr.app _ _ _)) (by rw[hl7];decide)
    simp -implicitDefEqProofs only[gsR,e0,l6,hG2,s1,q0,q1,e2,hG3,p2,g1,t0,nk,decide_eq_false hk,s7,g8];refine⟨_,_,rfl,_,by simp[hs],x1.tr x8,?_,λb hb=>aMP x1.1 (n8 b hb)⟩
    unfold sH Dt L6;rw[if_pos hs];exact b8
  ·have hs':fL f=false:=by simpa using hs
   rw[hs'] at s1;simp -implicitDefEqProofs only[gsR,e0,l6,s1];refine⟨_,_,rfl,_,by simp[hs],x1,?_,New.nB H⟩
   unfold sH Dt;rw[if_neg hs];exact Rw.lD
 obtain⟨H',r,h1,v,rfl,h2⟩:=main
 exact⟨H',v,h1,h2⟩
end
section
variable {H : aA} {m : Nat}
abbrev Bs (H:aA)(v:Value)(bs:List UInt8):Prop:=Rs byC 5 H v bs
theorem aIH {v:Value}{bs:List UInt8}(h:Bs H v bs):Br H v bs:=by
 rcases h with⟨h1,h2⟩|⟨b,o,cap,h1,h2,h3⟩
 ·exact .inl ⟨h2,.inl h1⟩
 ·by_cases hb:bs=[]
  ·exact .inl ⟨hb,.inr ⟨b,o,cap,by rw[h1,hb];rfl⟩⟩
  ·obtain⟨e',k,pre,post,h4,_,h5⟩:=h3 hb
   refine .inr ⟨b,o,cap,_,e',k,h1,List.length_pos_iff.mpr hb,h5,?_,?_⟩
   ·rw[tC]
    simp;omega
   ·rw[tC,<-h4,aMG,List.drop_left]
    have:bs.length=(bs.map kH).length:=by simp
    rw[this,List.take_left]
theorem Ai {v:Value}{bs:List UInt8}(h:Bs H v bs){i:Nat}{x:UInt8}(hx:bs[i]? =some x)(k:IntKind): ∃a,aQ 1 v (.int k i)=some a/\ ∀H',Ext H H'->ld1 a H'=some (kH x,H'):=by
 obtain⟨b,o,h1,h2,h3⟩:=h.iQ Du hx k;obtain⟨e',hr⟩:=h.rr (λh=>by subst h;simp at hx)
 exact⟨_,h1,λH' he=>(h3 H' (he.2 b (hr.aCZ h2) id)).2.1 0 (kH x) rfl⟩
theorem V3 (bs:List UInt8)(c:UInt8):fV (bs++[c])=fV bs*256+c.toNat:=by simp[fV]
theorem Md: ∀(n:Nat)(bs:List UInt8),bs.length=n->fV bs<256 ^ n:=by
 intro n;induction n with
 |zero=>intro bs h;rw[aMR.mp h];decide
 |succ n ih=>
  intro bs h;have hne:bs≠[]:=λhh=>by rw[hh] at h;simp at h
  rw[<-List.dropLast_concat_getLast hne,V3,Nat.pow_succ];have h1:=ih bs.dropLast (by simp[h])
  have h2:=(bs.getLast hne).toNat_lt;omega
theorem aIK (n c:Nat)(hc:c<256):n*256|||c=n*256+c:=by
 have:=Nat.shiftLeft_add_eq_or_of_lt (i:=8) (b:=c) hc n;rw[Nat.shiftLeft_eq] at this;exact this.symm
theorem aIL {u:Value}{bs:List UInt8}(hu:Bs H u bs)(h4:bs.length<=4): ∀(q i k:Nat),bs.length-i=q->i<=bs.length->q<k->
  ∀x0 x1 x2 x4 x5 x9 bI cA aP aN aL aM aR aS aO:Value,aH k (aI prog (lvl prog pkN m) (aH m) Lf) (Lg (lvl prog pkN m) (aH m)) [x0,x1,x2,(.int .u32 (fV (bs.take i))),x4,x5,u,(.int .i64 bs.length),(.int .i64 i),x9,bI,cA,aP,aN,aL,aM,aR,aS,aO] H=some (.int .u32 (fV bs),H):=by
 intro q;induction q with
 |zero=>
  intro i k hq hi hk x0 x1 x2 x4 x5 x9 bI cA aP aN aL aM aR aS aO;obtain⟨k,rfl⟩: ∃k',k=k'+1:=⟨k-1,by omega⟩
  have hi8:i=bs.length:=by omega
  subst hi8;have c1:decide ((bs.length:Int)<(bs.length:Int))=false:=by simp
  rw[aH,U8];simp -implicitDefEqProofs only[gsR,c1];rw[aHE];simp -implicitDefEqProofs only[gsR,List.take_length]
 |succ q ih=>
  intro i k hq hi hk x0 x1 x2 x4 x5 x9 bI cA aP aN aL aM aR aS aO;obtain⟨k,rfl⟩: ∃k',k=k'+1:=⟨k-1,by omega⟩
  have c1:decide ((i:Int)<(bs.length:Int))=true:=by rw[decide_eq_true_eq];omega
  have hx:bs[i]? =some bs[i]:=aMB (by omega)
  obtain⟨a,a1,a2⟩:=Ai hu hx .i64;have a2:=a2 H (Fr.mZ _ _);have hb:=Md i (bs.take i) (by simp;omega)
  have hb3:fV (bs.take i)<16777216:=aMO hb (Nat.pow_le_pow_right (n:=256) (i:=i) (j:=3) (by omega) (by omega))
  have hc:=bs[i].toNat_lt;have e1:bin prog .shl 29 (.int .u32 (fV (bs.take i):Int)) (.int .u64 8)=some (.int .u32 ((fV (bs.take i)*256:Nat):Int)):=by
   have:=Ca (P:=prog) .u32 .u64 rfl 29 (fV (bs.take i)) 8 (by decide)
   rw[show fV (bs.take i)*2 ^ 8%2 ^ IntKind.u32.bits=fV (bs.take i)*256 from by show fV (bs.take i)*256%4294967296=_;omega] at this
   exact this
  have e2:dI prog 5 29 (kH bs[i]) H=some (.int .u32 (bs[i].toNat:Int),H):=by
   show dI prog 5 29 (.int .u8 bs[i].toNat) H=_
   rw[eZ _ _ u8U pB,Vm _ (by omega)]
  have e3:bin prog .or 29 (.int .u32 ((fV (bs.take i)*256:Nat):Int)) (.int .u32 (bs[i].toNat:Int))=some (.int .u32 (fV (bs.take (i+1)):Int)):=by
   rw[Hu .u32 rfl _ (a:=fV (bs.take i)*256) (b:=bs[i].toNat) (by show _<4294967296;omega) (by show _<4294967296;omega),aIK _ _ hc,List.take_add_one,hx]
   rw[show(some bs[i]).toList=[bs[i]] from rfl,V3]
  have e4:IntKind.i64.wrap ((i:Int)+1)=((i+1:Nat):Int):=by rw[dJ (by omega) (by omega)];omega
  rw[aH,U8];simp -implicitDefEqProofs only[gsR,c1,a1,a2,e1,e2,e3,cH,e4];exact ih (i+1) k (by omega) (by omega) (by omega) _ _ _ _ _ _ _ _ _ _ _ _ _ _ _
theorem Me {u:Value}{bs:List UInt8}(hu:Bs H u bs)(h4:bs.length<=4)(hm:10<m):lvl prog pkN m (.func 194) [u] H=some (.int .u32 (fV bs),H):=by
 refine cX (cF rfl) (by omega) ?_
 rw[aHF];simp -implicitDefEqProofs only[gsR,hu.jQ];exact aIL hu h4 bs.length 0 (m-1) (by omega) (by omega) (by omega) _ _ _ _ _ _ _ _ _ _ _ _ _ _ _
def zfB:Blk:=frB Frm.nO
def mS (bs:List UInt8):Value:=match o7 bs with
 |some f=> .tuple #[frV f,.int .u16 0]
 |none=> .tuple #[frV Frm.nO,.int .u16 30]
theorem aII:prog.cellsOf 5=1:=by kernel_rfl
theorem Dw {b:Nat}{f:Frm}(g:Frm)(hb:H[b]? =some (frB f)):stN 6 (.pointer (some ⟨b,0,none⟩)) (frV g) H=some (undef,H.set b (frB g)):=xY hb (by decide) rfl rfl (aME 6) rfl
theorem yB (a b:Bool):bin prog .neq 4 (.bool a) (.bool b)=some (.bool (a !=b)):=by
 cases a<;>cases b<;>rfl
theorem yC {H G:aA}{b:Nat}(he:Ext H G)(hb:H.length<=b)(y:Blk):Ext H (G.set b y):=⟨by simp[he.1],λc hc _=>by rw[aMA (by omega),he.2 c hc id]⟩
theorem V2 {G:aA}(he:Ext H G)(h0:G[H.length]? =some zfB)(h1:G[H.length+1]? =some zfB):ldN 6 (.pointer (some ⟨H.length+1,0,none⟩)) G=some (frV Frm.nO,G)/\
  stN 6 (.pointer (some ⟨H.length,0,none⟩)) (frV Frm.nO) G=some (undef,G.set H.length zfB)/\ldN 6 (.pointer (some ⟨H.length,0,none⟩)) (G.set H.length zfB)=some (frV Frm.nO,G.set H.length zfB)/\Ext H (G.set H.length zfB):=
 ⟨(nT h1).2.2.2.2.2.2,Dw Frm.nO h0,(nT (iM h0)).2.2.2.2.2.2,yC he (aME _) _⟩
theorem V4 (H:aA)(X:aA):(H++[zfB]++[zfB]++X)[H.length]? =some zfB/\(H++[zfB]++[zfB]++X)[H.length+1]? =some zfB:=by
 constructor
 ·simp
 ·rw[aMG,aMG,aMT (by omega)]
  simp
theorem aIJ (hm:100<m){u:Value}{bs:List UInt8}(hu:Bs H u bs)(h6:bs.length≠6)(h12:bs.length≠12): ∃H',lvl prog pkN m (.func 116) [u] H=some (mS bs,H')/\Ext H H':=by
 refine kJ (cF rfl) (by omega) ?_
 rw[U2];have hd:mS bs= .tuple #[frV Frm.nO,.int .u16 30]:=by
  unfold mS o7;rw[if_neg (by omega),if_neg (by omega)]
 have e0:(Blk.cells [.int .u8 0,.int .u8 0,.int .u16 0,.int .u8 0,.int .u8 0,.int .u32 0] 71 .fix)=zfB:=rfl;have c1:((bs.length:Int)!=6)=true:=by simp;omega
 have c2:((bs.length:Int)!=12)=true:=by simp;omega
 have b2:=V4 H [];rw[List.append_nil] at b2;have x2:Ext H (H++[zfB]++[zfB]):=by rw[aMG];exact Fr.app _ _ _
 have hl2:(H++[zfB]).length=H.length+1:=by simp
 obtain⟨o1,o2,o3,o4⟩:=V2 x2 b2.1 b2.2;simp -implicitDefEqProofs only[gsR,e0,hl2,hu.jQ,c1,c2,o1,o2,o3,hd]
 exact⟨_,rfl,o4⟩
end
section
variable {H : aA} {m : Nat}
theorem aIM {bs:List UInt8}(h:bs.length=6∨bs.length=12):(bs.take 4).drop 2=[bs.getD 2 0,bs.getD 3 0]:=by
 rcases h with h|h
 ·match bs,h with
  |[a,b,c,d,e,f],_=>rfl
 ·match bs,h with
  |[a,b,c,d,e,f,g,h,i,j,k,l],_=>rfl
theorem aIN {bs:List UInt8}(h:bs.length=12):(bs.take 10).drop 6=[bs.getD 6 0,bs.getD 7 0,bs.getD 8 0,bs.getD 9 0]:=by
 match bs,h with
 |[a,b,c,d,e,f,g,h,i,j,k,l],_=>rfl
theorem Dx {bs:List UInt8}{i:Nat}(h:i<bs.length):bs[i]? =some (bs.getD i 0):=by
 rw[aMD,aMB h];rfl
theorem aIO (a:Option Addr)(n c:Nat)(G:aA):chk (some (Value.slice a n c,G)) (.slice a n c)=true:=by simp[chk,veq]
theorem Dy (x:UInt8)(G:aA):chk (some (kH x,G)) (kH x)=true:=by simp[chk,veq,kH]
theorem aIQ (x:UInt8)(n:Nat)(z:Int)(hz:z=n):bin prog .eql 5 (kH x) (.int .u8 z)=some (.bool (decide (x.toNat=n))):=by
 rw[kH,b_eql,hz,wB]
theorem aIR (a b:UInt8):fV [a,b]<65536:=by
 have:=a.toNat_lt;have:=b.toNat_lt;rw[aIm];omega
theorem bff:(false !=false)=false:=rfl
theorem btt:(true !=true)=false:=rfl
theorem V6 (hm:0<m){G:aA}{f:Frm}(he:Ext H G)(h0:G[H.length]? =some zfB)(h1:G[H.length+1]? =some (frB f)):
  ldN 6 (.pointer (some ⟨H.length+1,0,none⟩)) G=some (frV f,G)/\lvl prog pkN m (.func 172) [frV f] G=some (.bool (fL f),G++[frB f])/\
  ldN 6 (.pointer (some ⟨H.length+1,0,none⟩)) (G++[frB f])=some (frV f,G++[frB f])/\
  (∀g,stN 6 (.pointer (some ⟨H.length,0,none⟩)) (frV g) (G++[frB f])=some (undef,(G++[frB f]).set H.length (frB g))/\ldN 6 (.pointer (some ⟨H.length,0,none⟩)) ((G++[frB f]).set H.length (frB g))=some (frV g,(G++[frB f]).set H.length (frB g))/\Ext H ((G++[frB f]).set H.length (frB g))):=by
 have hx:Ext H (G++[frB f]):=he.tr (Fr.app _ _ _);have h0':(G++[frB f])[H.length]? =some (frB Frm.nO):=nE h0 _
 exact⟨(nT h1).2.2.2.2.2.2,V0 hm f,(nT (nE h1 _)).2.2.2.2.2.2,λg=>⟨Dw g h0',(nT (iM h0')).2.2.2.2.2.2,yC hx (aME _) _⟩⟩
theorem V5 (hm:200<m){u:Value}{bs:List UInt8}(hu:Bs H u bs)(hl:bs.length=6∨bs.length=12): ∃H',lvl prog pkN m (.func 116) [u] H=some (mS bs,H')/\Ext H H':=by
  have hne:bs≠[]:=λhh=>by rw[hh] at hl;simp at hl
  obtain⟨sb,so,cap,rfl,hcap,hs⟩:=hu.aIg Du aII hne;refine kJ (cF rfl) (by omega) ?_
  rw[U2];have e0:(Blk.cells [.int .u8 0,.int .u8 0,.int .u16 0,.int .u8 0,.int .u8 0,.int .u32 0] 71 .fix)=zfB:=rfl;have hl2:(H++[zfB]).length=H.length+1:=by simp
  have x2:Ext H (H++[zfB]++[zfB]):=by rw[aMG];exact Fr.app _ _ _
  have b2:=V4 H [];rw[List.append_nil] at b2;obtain⟨G2,hG2⟩: ∃G2,H++[zfB]++[zfB]=G2:=⟨_,rfl⟩;rw[hG2] at x2 b2;have w1:IntKind.i64.wrap ((bs.length:Int)-2)=((bs.length-2:Nat):Int):=by rw[dJ (by omega) (by omega)];omega
  have f1: ∀G,Ext H G->slc prog 1 (.slice (some ⟨sb,so,none⟩) bs.length cap) none (some (.int .i64 ((bs.length-2:Nat):Int))) (some (.int .i64 ((bs.length-2:Nat):Int))) G=some (.slice (some ⟨sb,so+0*1,none⟩) (bs.length-2-0) (bs.length-2-0),G)/\Bs G (.slice (some ⟨sb,so+0*1,none⟩) (bs.length-2-0) (bs.length-2-0)) (bs.take (bs.length-2)):=λG he=>by
    have:=hs G (hu.ext he) 0 (bs.length-2) none _ _ (bs.length-2) rfl (nA _ .i64 _) (nA _ .i64 _) (by omega) (by omega) (by omega) (by omega)
    rw[List.drop_zero] at this;exact this
  have f2: ∀G,Ext H G->slc prog 1 (.slice (some ⟨sb,so,none⟩) bs.length cap) (some (.int .i64 ((bs.length-2:Nat):Int))) none none G=some (.slice (some ⟨sb,so+(bs.length-2)*1,none⟩) (bs.length-(bs.length-2)) (cap-(bs.length-2)),G)/\Bs G (.slice (some ⟨sb,so+(bs.length-2)*1,none⟩) (bs.length-(bs.length-2)) (cap-(bs.length-2))) (bs.drop (bs.length-2)):=λG he=>by
    have:=hs G (hu.ext he) (bs.length-2) bs.length _ none none cap (nA _ .i64 _) rfl rfl (by omega) (by omega) (by omega) (by omega)
    rw[List.take_length] at this;exact this
  have f3: ∀G,Ext H G->slc prog 1 (.slice (some ⟨sb,so,none⟩) bs.length cap) (some (.int .i64 2)) (some (.int .i64 4)) none G=some (.slice (some ⟨sb,so+2*1,none⟩) (4-2) (cap-2),G)/\Bs G (.slice (some ⟨sb,so+2*1,none⟩) (4-2) (cap-2)) [bs.getD 2 0,bs.getD 3 0]:=λG he=>by
    have:=hs G (hu.ext he) 2 4 (some (.int .i64 2)) (some (.int .i64 4)) none cap (nA _ .i64 2) (nA _ .i64 4) rfl (by omega) (by omega) (by omega) (by omega)
    rw[aIM hl] at this;exact this
  have q1:=(f1 G2 x2).1;have s1:=L8 (H:=G2) (m:=m-1) (aIH (f1 G2 x2).2) (by omega) (by simp;omega) (by simp;omega)
  obtain⟨G3,hG3⟩: ∃G3,G2++[lN (crc (bs.take (bs.length-2)))]=G3:=⟨_,rfl⟩;rw[hG3] at s1;have x3:Ext H G3:=by rw[<-hG3];exact x2.tr (Fr.app _ _ _)
  have b30:G3[H.length]? =some zfB:=by rw[<-hG3];exact nE b2.1 _
  have b31:G3[H.length+1]? =some zfB:=by rw[<-hG3];exact nE b2.2 _
  have q2:=(f2 G3 x3).1;have q2':=(f2 G2 x2).1;have s2:=Me (H:=G3) (m:=m-1) (f2 G3 x3).2 (by simp;omega) (by omega)
  have cv1:IntKind.u32.wrap (crc (bs.take (bs.length-2)):Int)=(crc (bs.take (bs.length-2)):Int):=Vm _ (by have:=L5 (bs.take (bs.length-2));omega)
  obtain⟨o1,o2,o3,o4⟩:=V2 x3 b30 b31;have ck2:chk (some (Value.slice (some ⟨sb,so+(bs.length-2)*1,none⟩) (bs.length-(bs.length-2)) (cap-(bs.length-2)),G2)) (.slice (some ⟨sb,so+(bs.length-2)*1,none⟩) (bs.length-(bs.length-2)) (cap-(bs.length-2)))=true:=aIO _ _ _ _;have c1: ∀z:Bool,((bs.length:Int)!=6)=z->z=decide (bs.length≠6):=λz hz=>by rw[<-hz];exact Ag bs.length 6
  have nn6:((bs.length:Int)!=6)=decide (bs.length≠6):=Ag bs.length 6;have nn12:((bs.length:Int)!=12)=decide (bs.length≠12):=Ag bs.length 12;have ne12:((bs.length:Int)==12)=decide (bs.length=12):=wB bs.length 12;have hlen:bJ (Value.slice (some ⟨sb,so,none⟩) bs.length cap)=some (.int .i64 bs.length):=rfl;have ncr:((crc (bs.take (bs.length-2)):Int)!=(fV (bs.drop (bs.length-2)):Int))=decide (crc (bs.take (bs.length-2))≠fV (bs.drop (bs.length-2))):=Ag _ _;obtain⟨a0,i0,l0⟩:=Ai hu (Dx (bs:=bs) (i:=0) (by omega)) .i64
  obtain⟨a1,i1,l1⟩:=Ai hu (Dx (bs:=bs) (i:=1) (by omega)) .i64
  have i0':aQ 1 (.slice (some ⟨sb,so,none⟩) bs.length cap) (.int .i64 0)=some a0:=i0;have i1':aQ 1 (.slice (some ⟨sb,so,none⟩) bs.length cap) (.int .i64 1)=some a1:=i1;have k0:=aIQ (bs.getD 0 0) 1 1 rfl;have hdn:crc (bs.take (bs.length-2))≠fV (bs.drop (bs.length-2))∨decide ((bs.getD 0 0).toNat=1)≠decide (bs.length=12)->mS bs= .tuple #[frV Frm.nO,.int .u16 30]:=λhh=>by
    have:o7 bs=none:=by
      unfold o7 xZ;rcases hl with h6|h12
      · by_cases hk:(bs.getD 0 0).toNat=1
        · rw[if_neg (by omega),if_neg (by omega)]
        · rw[if_pos ⟨h6,hk⟩,if_neg]
          rintro ⟨h1,_⟩
          rcases hh with hh|hh
          · rw[h6] at hh
            exact hh h1
          · rw[decide_eq_false hk,decide_eq_false (show¬bs.length=12 by omega)] at hh
            exact hh rfl
      · by_cases hk:(bs.getD 0 0).toNat=1
        · rw[if_neg (by omega),if_pos ⟨h12,hk⟩,if_neg]
          rintro ⟨h1,_⟩
          rcases hh with hh|hh
          · rw[h12] at hh
            exact hh h1
          · rw[decide_eq_true hk,decide_eq_true h12] at hh
            exact hh rfl
        · rw[if_neg (by omega),if_neg (by omega)]
    unfold mS;rw[this]
  -- up to the second test
  by_cases hc:crc (bs.take (bs.length-2))=fV (bs.drop (bs.length-2))
  rotate_left
  · have hd:=hdn (.inl hc)
    rcases hl with h6|h12
    · have d6:decide (bs.length≠6)=false:=by simp[h6]
      simp -implicitDefEqProofs only[gsR,e0,hl2,hG2,hlen,nn6,d6,gJ,w1,q1,s1,eZ _ _ mJ pB,cv1,q2,q2',ck2,s2,ncr,decide_eq_true hc,o1,o2,o3,hd]
      exact⟨_,rfl,o4⟩
    · have d6:decide (bs.length≠6)=true:=by simp[h12]
      have d12:decide (bs.length≠12)=false:=by simp[h12]
      simp -implicitDefEqProofs only[gsR,e0,hl2,hG2,hlen,nn6,nn12,d6,d12,gJ,w1,q1,s1,eZ _ _ mJ pB,cv1,q2,q2',ck2,s2,ncr,decide_eq_true hc,o1,o2,o3,hd]
      exact⟨_,rfl,o4⟩
  have nz:decide (crc (bs.take (bs.length-2))≠fV (bs.drop (bs.length-2)))=false:=by simp[hc]
  have l0':=l0 G3 x3;have l1':=l1 G3 x3;by_cases hk:decide ((bs.getD 0 0).toNat=1)=decide (bs.length=12)
  rotate_left
  · have hd:=hdn (.inr hk)
    have hkb:(decide ((bs.getD 0 0).toNat=1)!=decide (bs.length=12))=true:=by simpa using hk
    rcases hl with h6|h12
    · have d6:decide (bs.length≠6)=false:=by simp[h6]
      simp -implicitDefEqProofs only[gsR,e0,hl2,hG2,hlen,nn6,d6,gJ,w1,q1,s1,eZ _ _ mJ pB,cv1,q2,q2',ck2,s2,ncr,nz,i0',l0',k0,ne12,yB,hkb,o1,o2,o3,hd]
      exact⟨_,rfl,o4⟩
    · have d6:decide (bs.length≠6)=true:=by simp[h12]
      have d12:decide (bs.length≠12)=false:=by simp[h12]
      simp -implicitDefEqProofs only[gsR,e0,hl2,hG2,hlen,nn6,nn12,d6,d12,gJ,w1,q1,s1,eZ _ _ mJ pB,cv1,q2,q2',ck2,s2,ncr,nz,i0',l0',k0,ne12,yB,hkb,o1,o2,o3,hd]
      exact⟨_,rfl,o4⟩
  have hkb:(decide ((bs.getD 0 0).toNat=1)!=decide (bs.length=12))=false:=by simpa using hk
  have q3:=(f3 G3 x3).1;have s3:=Me (H:=G3) (m:=m-1) (f3 G3 x3).2 (by simp) (by omega)
  have w3:IntKind.u16.wrap (fV [bs.getD 2 0,bs.getD 3 0]:Int)=(fV [bs.getD 2 0,bs.getD 3 0]:Int):=Hv (by omega) (by have:=aIR (bs.getD 2 0) (bs.getD 3 0);omega)
  have bF:bld prog 71 [(0,kH (bs.getD 0 0)),(1,kH (bs.getD 1 0)),(2,.int .u16 (fV [bs.getD 2 0,bs.getD 3 0]))]=some (frV (mI bs)):=rfl;have bZ:bld prog 71 []=some (frV Frm.nO):=rfl;have st1:=Dw (mI bs) b31;obtain⟨G4,hG4⟩: ∃G4,G3.set (H.length+1) (frB (mI bs))=G4:=⟨_,rfl⟩;rw[hG4] at st1;have x4:Ext H G4:=by rw[<-hG4];exact yC x3 (by omega) _
  have b40:G4[H.length]? =some zfB:=by rw[<-hG4,aMA (by omega)];exact b30
  have b41:G4[H.length+1]? =some (frB (mI bs)):=by rw[<-hG4];exact iM b31
  rcases hl with h6|h12
  · have d6:decide (bs.length≠6)=false:=by simp[h6]
    have d12:decide (bs.length=12)=false:=by simp[h6]
    have hk1: ¬(bs.getD 0 0).toNat=1:=by rw[d12] at hk;simpa using hk
    have hdec:o7 bs=if fL (mI bs)=true then some (mI bs) else none:=by
      unfold o7 xZ;rw[if_pos ⟨h6,hk1⟩];rw[h6] at hc;by_cases hs:fL (mI bs)=true
      · rw[if_pos ⟨hc,hs⟩,if_pos hs]
      · rw[if_neg λh=>hs h.2,if_neg hs]
    obtain⟨t1,t2,t3,t4⟩:=V6 (m:=m-1) (by omega) x4 b40 b41
    by_cases hs:fL (mI bs)=true
    · obtain⟨u1,u2,u3⟩:=t4 (mI bs)
      have hd:mS bs= .tuple #[frV (mI bs),.int .u16 0]:=by unfold mS;rw[hdec,if_pos hs]
      rw[hs] at t2;simp -implicitDefEqProofs only[gsR,e0,hl2,hG2,hlen,nn6,d6,gJ,w1,q1,s1,eZ _ _ mJ pB,eZ _ _ pB mJ,cv1,q2,q2',ck2,s2,ncr,nz,i0',l0',i1',l1',k0,ne12,yB,decide_eq_false hk1,bff,q3,s3,Dy,w3,bF,st1,d12,t1,t2,t3,u1,u2,hd]
      exact⟨_,rfl,u3⟩
    · obtain⟨u1,u2,u3⟩:=t4 Frm.nO
      have hs':fL (mI bs)=false:=by simpa using hs
      have hd:mS bs= .tuple #[frV Frm.nO,.int .u16 30]:=by unfold mS;rw[hdec,if_neg hs]
      rw[hs'] at t2;simp -implicitDefEqProofs only[gsR,e0,hl2,hG2,hlen,nn6,d6,gJ,w1,q1,s1,eZ _ _ mJ pB,eZ _ _ pB mJ,cv1,q2,q2',ck2,s2,ncr,nz,i0',l0',i1',l1',k0,ne12,yB,decide_eq_false hk1,bff,q3,s3,Dy,w3,bF,st1,d12,t1,t2,bZ,u1,u2,hd]
      exact⟨_,rfl,u3⟩
  · have d6:decide (bs.length≠6)=true:=by simp[h12]
    have d12':decide (bs.length≠12)=false:=by simp[h12]
    have d12:decide (bs.length=12)=true:=by simp[h12]
    have hk1:(bs.getD 0 0).toNat=1:=by rw[d12] at hk;simpa using hk
    have hdec:o7 bs=if fL (qI bs)=true then some (qI bs) else none:=by
      unfold o7 xZ;rw[if_neg (by omega),if_pos ⟨h12,hk1⟩]
      rw[h12] at hc;by_cases hs:fL (qI bs)=true
      · rw[if_pos ⟨hc,hs⟩,if_pos hs]
      · rw[if_neg λh=>hs h.2,if_neg hs]
    obtain⟨a4,i4,l4⟩:=Ai hu (Dx (bs:=bs) (i:=4) (by omega)) .i64
    obtain⟨a5,i5,l5⟩:=Ai hu (Dx (bs:=bs) (i:=5) (by omega)) .i64
    have i4':aQ 1 (.slice (some ⟨sb,so,none⟩) bs.length cap) (.int .i64 4)=some a4:=i4;have i5':aQ 1 (.slice (some ⟨sb,so,none⟩) bs.length cap) (.int .i64 5)=some a5:=i5;have f4:slc prog 1 (.slice (some ⟨sb,so,none⟩) bs.length cap) (some (.int .i64 6)) (some (.int .i64 10)) none G4=some (.slice (some ⟨sb,so+6*1,none⟩) (10-6) (cap-6),G4)/\Bs G4 (.slice (some ⟨sb,so+6*1,none⟩) (10-6) (cap-6)) [bs.getD 6 0,bs.getD 7 0,bs.getD 8 0,bs.getD 9 0]:=by
      have:=hs G4 (hu.ext x4) 6 10 (some (.int .i64 6)) (some (.int .i64 10)) none cap (nA _ .i64 6) (nA _ .i64 10) rfl (by omega) (by omega) (by omega) (by omega)
      rw[aIN h12] at this;exact this
    have q4:=f4.1;have s4:=Me (H:=G4) (m:=m-1) f4.2 (by simp) (by omega)
    have st3:stN 1 (.pointer (some ⟨H.length+1,3,none⟩)) (kH (bs.getD 4 0)) G4=some (undef,G4.set (H.length+1) (frB {mI bs with src:=(bs.getD 4 0).toNat})):=lG b41 (by decide) (by simp[frC])
    obtain⟨G5,hG5⟩: ∃G5,G4.set (H.length+1) (frB {mI bs with src:=(bs.getD 4 0).toNat})=G5:=⟨_,rfl⟩;rw[hG5] at st3;have x5:Ext H G5:=by rw[<-hG5];exact yC x4 (by omega) _
    have b50:G5[H.length]? =some zfB:=by rw[<-hG5,aMA (by omega)];exact b40
    have b51:G5[H.length+1]? =some (frB {mI bs with src:=(bs.getD 4 0).toNat}):=by rw[<-hG5];exact iM b41
    have st4:stN 1 (.pointer (some ⟨H.length+1,4,none⟩)) (kH (bs.getD 5 0)) G5=some (undef,G5.set (H.length+1) (frB {mI bs with src:=(bs.getD 4 0).toNat,dst:=(bs.getD 5 0).toNat})):=lG b51 (by decide) (by simp[frC])
    obtain⟨G6,hG6⟩: ∃G6,G5.set (H.length+1) (frB {mI bs with src:=(bs.getD 4 0).toNat,dst:=(bs.getD 5 0).toNat})=G6:=⟨_,rfl⟩;rw[hG6] at st4;have x6:Ext H G6:=by rw[<-hG6];exact yC x5 (by omega) _
    have b60:G6[H.length]? =some zfB:=by rw[<-hG6,aMA (by omega)];exact b50
    have b61:G6[H.length+1]? =some (frB {mI bs with src:=(bs.getD 4 0).toNat,dst:=(bs.getD 5 0).toNat}):=by rw[<-hG6];exact iM b51
    have st5:stN 1 (.pointer (some ⟨H.length+1,5,none⟩)) (.int .u32 (fV [bs.getD 6 0,bs.getD 7 0,bs.getD 8 0,bs.getD 9 0]:Int)) G6=some (undef,G6.set (H.length+1) (frB (qI bs))):=lG b61 (by decide) (by simp[frC])
    obtain⟨G7,hG7⟩: ∃G7,G6.set (H.length+1) (frB (qI bs))=G7:=⟨_,rfl⟩;rw[hG7] at st5;have x7:Ext H G7:=by rw[<-hG7];exact yC x6 (by omega) _
    have b70:G7[H.length]? =some zfB:=by rw[<-hG7,aMA (by omega)];exact b60
    have b71:G7[H.length+1]? =some (frB (qI bs)):=by rw[<-hG7];exact iM b61
    have l44:=l4 G4 x4;have l54:=l5 G4 x4;have l55:=l5 G5 x5;obtain⟨t1,t2,t3,t4⟩:=V6 (m:=m-1) (by omega) x7 b70 b71
    by_cases hs:fL (qI bs)=true
    · obtain⟨u1,u2,u3⟩:=t4 (qI bs)
      have hd:mS bs= .tuple #[frV (qI bs),.int .u16 0]:=by unfold mS;rw[hdec,if_pos hs]
      rw[hs] at t2;simp -implicitDefEqProofs only[gsR,e0,hl2,hG2,hlen,nn6,nn12,d6,d12',gJ,w1,q1,s1,eZ _ _ mJ pB,eZ _ _ pB mJ,cv1,q2,q2',ck2,s2,ncr,nz,i0',l0',i1',l1',k0,ne12,yB,decide_eq_true hk1,btt,q3,s3,Dy,w3,bF,st1,d12,i4',i5',l44,l54,l55,q4,s4,st3,st4,st5,t1,t2,t3,u1,u2,hd]
      exact⟨_,rfl,u3⟩
    · obtain⟨u1,u2,u3⟩:=t4 Frm.nO
      have hs':fL (qI bs)=false:=by simpa using hs
      have hd:mS bs= .tuple #[frV Frm.nO,.int .u16 30]:=by unfold mS;rw[hdec,if_neg hs]
      rw[hs'] at t2;simp -implicitDefEqProofs only[gsR,e0,hl2,hG2,hlen,nn6,nn12,d6,d12',gJ,w1,q1,s1,eZ _ _ mJ pB,eZ _ _ pB mJ,cv1,q2,q2',ck2,s2,ncr,nz,i0',l0',i1',l1',k0,ne12,yB,decide_eq_true hk1,btt,q3,s3,Dy,w3,bF,st1,d12,i4',i5',l44,l54,l55,q4,s4,st3,st4,st5,t1,t2,bZ,u1,u2,hd]
      exact⟨_,rfl,u3⟩
theorem aIP (hm:200<m){u:Value}{bs:List UInt8}(hu:Bs H u bs): ∃H',lvl prog pkN m (.func 116) [u] H=some (mS bs,H')/\Ext H H':=by
 by_cases h6:bs.length=6
 ·exact V5 hm hu (.inl h6)
 ·by_cases h12:bs.length=12
  ·exact V5 hm hu (.inr h12)
  ·exact aIJ (by omega) hu h6 h12
end
end Go.Proofs.YtmimdleeihjdoaaGreatDoor
namespace Go.Abs
def Rq {α:Type}(el:α->List Value)(e:TypeId)(sz:Nat)(H:aA)(v:Value)(xs:List α):Prop:=
 (v= .slice none 0 0/\xs=[])∨ ∃c pre rest cap,v= .slice (some ⟨c,pre.length,none⟩) xs.length cap/\xs.length<=cap/\rest.length=(cap-xs.length)*sz/\H[c]? =some (.cells (pre++(xs.map el).flatten++rest) e .row)
section
variable {α : Type} {el : α → List Value} {e : TypeId} {sz : Nat} {H H' : aA} {v w : Value} {xs ys : List α}
theorem Rq.V7:Rq el e sz H (.slice none 0 0) ([]:List α):= .inl ⟨rfl,rfl⟩
theorem Rq.Mf (h:Rq el e sz H v xs):bJ v=some (.int .i64 xs.length):=by
 rcases h with⟨rfl,rfl⟩|⟨c,pre,rest,cap,rfl,_⟩<;>rfl
theorem Rq.blk (h:Rq el e sz H v xs){b:Nat}(hb:cG v b): ∃cs,H[b]? =some (.cells cs e .row):=by
 rcases h with⟨rfl,rfl⟩|⟨c,pre,rest,cap,rfl,_,_,h3⟩
 ·obtain⟨_,_,_,hh⟩:=hb
  cases hh
 ·obtain⟨_,_,_,hh⟩:=hb
  cases hh
  exact⟨_,h3⟩
theorem Rq.uN (h:Rq el e sz H v xs){b:Nat}(hb:cG v b):b<H.length:=by
 obtain⟨cs,hc⟩:=h.blk hb;exact dA hc
theorem Rq.wC (h:Rq el e sz H v xs)(hk: ∀b,cG v b->H'[b]? =H[b]?):Rq el e sz H' v xs:=by
 rcases h with h|⟨c,pre,rest,cap,rfl,h1,h2,h3⟩
 ·exact .inl h
 ·exact .inr ⟨c,pre,rest,cap,rfl,h1,h2,by rw[hk c ⟨_,_,_,rfl⟩,h3]⟩
theorem Rq.ext (h:Rq el e sz H v xs)(he:Ext H H'):Rq el e sz H' v xs:=h.wC λb hb=>he.2 b (h.uN hb) id
theorem Rq.rs (h:Rq el e sz H v xs):Rs el e H v xs:=by
 rcases h with h|⟨c,pre,rest,cap,rfl,h1,h2,h3⟩
 ·exact .inl h
 ·exact .inr ⟨c,_,cap,rfl,h1,λ_=>⟨e,.row,pre,rest,rfl,λ_=>rfl,h3⟩⟩
theorem Rq.yD (h:Rq el e sz H v xs):v.cells.toList=[v]/\dK [v]=true:=by
 rcases h with⟨rfl,rfl⟩|⟨c,pre,rest,cap,rfl,_⟩<;>exact⟨rfl,rfl⟩
theorem Rq.aIS {P:Program}{x:α}(hsz: ∀x,(el x).length=sz)(he:P.cellsOf e=sz)(h:Rq el e sz H v (x::xs)): ∃v',(∀H',Rq el e sz H' v (x::xs)->slc P sz v (some (.int .i64 1)) none none H'=some (v',H'))/\Rq el e sz H v' xs/\ ∀b,cG v' b->cG v b:=by
 rcases h with⟨_,h⟩|⟨c,pre,rest,cap,rfl,h1,h2,h3⟩
 ·cases h
 ·simp only[aMV] at h1 h2
  refine⟨.slice (some ⟨c,pre.length+1*sz,none⟩) ((x::xs).length-1) (cap-1),λH' h'=> ?_,.inr ⟨c,pre++el x,rest,cap-1,by simp[hsz],by omega,by rw[h2];congr 1;omega,by rw[h3];simp⟩,?_⟩
  ·rcases h' with⟨_,h⟩|⟨c',pre',rest',cap',heq,_,_,h3'⟩
   ·cases h
   ·injection heq with a1 a2 a3
    injection a1 with a1;injection a1 with b1 b2;subst b1 a3;rw[b2];exact sV (P:=P) (H:=H') (sz:=sz) (o:=pre'.length) h3' (λ_=>he) (len:=(x::xs).length) (cap:=cap) (hi:=none) (mx:=none) (nA 0 .i64 1) rfl rfl (by simp) (by simpa using h1) (aME _)
  ·rintro b ⟨o,n,k,hh⟩
   cases hh
   exact⟨_,_,_,rfl⟩
theorem Rq.V8 (hsz: ∀x,(el x).length=sz)(hall: ∀x,dK (el x)=true)(h0:0<sz){by':Nat}(h:Rq el e sz H v xs)(x:α)(hr:iZ (xs.length+1) by'=true):
  ∃v' H',Go.Abs.app e sz by' v (.slice (some ⟨H.length,0,none⟩) 1 1) (H++[.cells (el x) e .row])=some (v',H')/\Rq el e sz H' v' (xs++[x])/\Fr (cG v) H H'/\ ∀b,cG v' b->cG v b∨(H.length<=b/\b<H'.length):=by
 have hw:Rr el e (H++[.cells (el x) e .row]) (.slice (some ⟨H.length,0,none⟩) 1 1) [x]:=vN (el:=el) x H;have hs:iS sz (.slice (some ⟨H.length,0,none⟩) 1 1) 1 (H++[.cells (el x) e .row])=some (el x):=by
  have:=hw.Q2 hsz;simpa using this
 have hl:lT (.slice (some ⟨H.length,0,none⟩) 1 1)=some 1:=rfl;have hne:el x≠[]:=λhh=>by have:=hsz x;rw[hh] at this;simp at this;omega
 have hle:(H++[Blk.cells (el x) e .row]).length=H.length+1:=by simp
 unfold Go.Abs.app;rw[hl];simp only;rw[hs];simp only;rcases h with⟨rfl,rfl⟩|⟨c,pre,rest,cap,rfl,h1,h2,h3⟩
 ·simp only
  rw[if_neg (by decide),if_pos (show iZ 1 by'=true from hr)]
  refine⟨_,_,rfl,.inr ⟨_,[],[],1,rfl,by simp,by simp,by rw[dF];simp⟩,⟨by simp,λb hb _=>by rw[aMG,aMC hb]⟩,?_⟩
  rintro b ⟨o,n,k,hh⟩
  cases hh;exact .inr ⟨by simp,by simp⟩
 ·have hc:=dA h3
  have hg:(H++[Blk.cells (el x) e .row])[c]? =some (.cells (pre++(xs.map el).flatten++rest) e .row):=nE h3 _;have hf:=rT (xs.map el) (sU hsz);rw[aMN] at hf;simp only;rw[hg];simp only;by_cases hroom:xs.length+1<=cap
  ·rw[if_pos hroom,if_neg hne]
   have hrl:sz<=rest.length:=by
    rw[h2]
    calc sz=1*sz:=(Nat.one_mul sz).symm
     _<=(cap-xs.length)*sz:=Nat.mul_le_mul_right sz (by omega)
   rw[if_pos ⟨by decide,by simp only[aML,hf];omega,hall x⟩]
   have hset:eD (pre++(xs.map el).flatten++rest) (pre.length+xs.length*sz) (el x)=pre++((xs++[x]).map el).flatten++rest.drop sz:=by
    have:=tW (el x) (rest.take sz) (pre++(xs.map el).flatten) (rest.drop sz) (by rw[List.length_take,hsz];omega)
    rw[aMG _ (rest.take sz),List.take_append_drop,aML,hf] at this;rw[this];simp
   rw[hset];refine⟨_,_,rfl,.inr ⟨c,pre,rest.drop sz,cap,by simp,by simpa using hroom,?_,iM hg⟩,⟨by simp,λb hb hh=> ?_⟩,?_⟩
   ·rw[List.length_drop,h2,aML,List.length_singleton,show cap-xs.length=(cap-(xs.length+1))+1 by omega,Nat.succ_mul]
    omega
   ·rw[aMA (λhx=>hh (by subst hx;exact⟨_,_,_,rfl⟩)),aMC hb]
   ·rintro b ⟨o,n,k,hh⟩
    cases hh;exact .inl ⟨_,_,_,rfl⟩
  ·rw[if_neg hroom,if_pos ⟨trivial,trivial,by simp only[aML,hf];omega,hr,hall x⟩]
   have hcut:((pre++(xs.map el).flatten++rest).drop pre.length).take (xs.length*sz)=(xs.map el).flatten:=by
    rw[aMG,List.drop_left,<-hf,List.take_left]
   rw[hcut];have hlen:((H++[Blk.cells (el x) e .row]).set c .dead).length=H.length+1:=by simp
   refine⟨_,_,rfl,.inr ⟨H.length+1,[],[],xs.length+1,by simp,by simp,by simp,by rw[<-hlen,dF];simp⟩,⟨by simp;omega,λb hb hh=> ?_⟩,?_⟩
   ·rw[aMC (by rw[hlen];omega),aMA (λhx=>hh (by subst hx;exact⟨_,_,_,rfl⟩)),aMC hb]
   ·rintro b ⟨o,n,k,hh⟩
    cases hh;exact .inr ⟨by simp,by simp⟩
end
end Go.Abs
namespace Go.Proofs.YtmimdleeihjdoaaGreatDoor
open Go.Proofs.Tryz
open Go.Abs
theorem D0 (n sz b o:Nat)(k:IntKind)(i:Nat)(h1:i<n):pW n sz (.pointer (some ⟨b,o,none⟩)) (.int k (i:Int))=some (.pointer (some ⟨b,o+i*sz,none⟩)):=by
 simp[pW,adr,h1]
abbrev Pq (H:aA)(v:Value)(xs:List Pkt):Prop:=Rq Pkt.oE 31 4 H v xs
theorem yE (x:Pkt):x.oE.length=4:=rfl
theorem Mh (x:Pkt):dK x.oE=true:=rfl
def Aj (w0 w1 w2 cv:Value)(lanes queue:Nat):Blk:= .cells [w0,w1,w2,cv,.int .i64 lanes,.int .i64 queue] 178 .fix
def w3 (w0 w1 w2:Value)(k:Nat):Value:=if k=0 then w0 else if k=1 then w1 else w2
structure HostI (D:aA)(a:Nat)(L G:List Pkt)(lanes queue:Nat)(w0 w1 w2 cv:Value):Prop where
 blk:D[a]? =some (Aj w0 w1 w2 cv lanes queue)
 lanes:1<=lanes/\lanes<=3
 queue:1<=queue/\queue<=8
 q: ∀k,k<3->Pq D (w3 w0 w1 w2 k) (fA L k)
 came:Pq D cv G
 apart: ∀k j,k<3->j<3->k≠j-> ∀b,cG (w3 w0 w1 w2 k) b-> ¬cG (w3 w0 w1 w2 j) b
 apartC: ∀k,k<3-> ∀b,cG (w3 w0 w1 w2 k) b-> ¬cG cv b
def HostAt (D:aA)(a:Nat)(L G:List Pkt)(lanes queue:Nat):Prop:= ∃w0 w1 w2 cv,HostI D a L G lanes queue w0 w1 w2 cv
section
variable {D : aA} {m a lanes queue : Nat} {L G : List Pkt} {w0 w1 w2 cv : Value}
theorem HostAt.ext {D':aA}(h:HostAt D a L G lanes queue)(he:Ext D D'):HostAt D' a L G lanes queue:=by
 obtain⟨w0,w1,w2,cv,h⟩:=h
 exact⟨w0,w1,w2,cv,by rw[he.2 a (dA h.blk) id,h.blk],h.lanes,h.queue,λk hk=>(h.q k hk).ext he,h.came.ext he,h.apart,h.apartC⟩
theorem Dz (h:HostI D a L G lanes queue w0 w1 w2 cv)(hm:0<m)(k:Int):lvl prog pkN m (.func 95) [.pointer (some ⟨a,0,none⟩),.int .i64 k] D=some (.bool (decide (0<=k/\k<lanes)),D):=by
 refine cX (cF rfl) hm ?_;rw[aH8];have l4:ld1 (.pointer (some ⟨a,4,none⟩)) D=some (.int .i64 lanes,D):=cK h.blk rfl;by_cases h0:0<=k
 ·by_cases h1:k<lanes
  ·simp -implicitDefEqProofs only[gsR,decide_eq_true h0,l4,decide_eq_true h1,decide_eq_true (show 0<=k/\k<lanes from⟨h0,h1⟩)]
  ·simp -implicitDefEqProofs only[gsR,decide_eq_true h0,l4,decide_eq_false h1,decide_eq_false (show¬(0<=k/\k<lanes) from λh=>h1 h.2)]
 ·simp -implicitDefEqProofs only[gsR,decide_eq_false h0,decide_eq_false (show¬(0<=k/\k<lanes) from λh=>h0 h.1)]
theorem Ak (h:HostI D a L G lanes queue w0 w1 w2 cv){k:Nat}(hk:k<3):ld1 (.pointer (some ⟨a,k,none⟩)) D=some (w3 w0 w1 w2 k,D):=by
 match k,hk with
 |0,_=>exact cK h.blk rfl
 |1,_=>exact cK h.blk rfl
 |2,_=>exact cK h.blk rfl
theorem Mg (h:HostI D a L G lanes queue w0 w1 w2 cv)(hm:1<m)(k:Nat)(hk:k<lanes):lvl prog pkN m (.func 40) [.pointer (some ⟨a,0,none⟩),.int .i64 k] D=some (.int .i64 (fA L k).length,D):=by
 have h3:k<3:=aMO hk h.lanes.2;refine cX (cF rfl) (by omega) ?_
 rw[aHW];have e1:=Dz h (m:=m-1) (by omega) (k:Int)
 have c:decide (0<=(k:Int)/\(k:Int)<lanes)=true:=by rw[decide_eq_true_eq];omega
 have e2:=D0 3 1 a 0 .i64 k h3;rw[Nat.mul_one,aMU] at e2;simp -implicitDefEqProofs only[gsR,e1,c,e2,Ak h h3,(h.q k h3).Mf]
theorem aIT (hm:0<m)(lanes queue:Nat)(h1:1<=lanes/\lanes<=3)(h2:1<=queue/\queue<=8): ∃a H',lvl prog pkN m (.func 86) [.int .i64 lanes,.int .i64 queue] D=some (.pointer (some ⟨a,0,none⟩),H')/\HostAt H' a [] [] lanes queue/\Ext D H'/\D.length<=a:=by
 have main:lvl prog pkN m (.func 86) [.int .i64 lanes,.int .i64 queue] D=some (.pointer (some ⟨D.length,0,none⟩),D++[Aj (.slice none 0 0) (.slice none 0 0) (.slice none 0 0) (.slice none 0 0) lanes queue]):=by
  refine cX (cF rfl) hm ?_;rw[aH3];have c1:decide ((lanes:Int)<1)=false:=by rw[decide_eq_false_iff_not];omega
  have c2:decide (3<(lanes:Int))=false:=by rw[decide_eq_false_iff_not];omega
  have c3:decide ((queue:Int)<1)=false:=by rw[decide_eq_false_iff_not];omega
  have c4:decide (8<(queue:Int))=false:=by rw[decide_eq_false_iff_not];omega
  have e3:bld prog 178 [(2,.int .i64 lanes),(3,.int .i64 queue)]=some (.agg #[.slice none 0 0,.slice none 0 0,.slice none 0 0,.slice none 0 0,.int .i64 lanes,.int .i64 queue]):=rfl;simp -implicitDefEqProofs only[gsR,c1,c2,c3,c4,e3];rfl
 have hn: ∀k b,¬cG (w3 (.slice none 0 0) (.slice none 0 0) (.slice none 0 0) k) b:=λk b hh=>by
  have:w3 (.slice none 0 0) (.slice none 0 0) (.slice none 0 0) k= .slice none 0 0:=by unfold w3;split<;>(try split)<;>rfl
  rw[this] at hh;obtain⟨_,_,_,hh⟩:=hh;cases hh
 refine⟨_,_,main,⟨_,_,_,_,dF _ _,h1,h2,λk hk=> ?_,Rq.V7,λk j _ _ _ b hb=>absurd hb (hn k b),λk _ b hb=>absurd hb (hn k b)⟩,Fr.app _ _ _,aME _⟩
 have:w3 (.slice none 0 0) (.slice none 0 0) (.slice none 0 0) k= .slice none 0 0:=by unfold w3;split<;>(try split)<;>rfl
 rw[this];exact Rq.V7
end
def dM (x:Pkt):Blk:= .cells x.oE 31 .fix
theorem aIX (w0 w1 w2:Value){k:Nat}(hk:k<3)(v:Value): ∃u0 u1 u2,(∀a b c:Value,([w0,w1,w2,a,b,c]:List Value).set k v=[u0,u1,u2,a,b,c])/\ ∀j,j<3->w3 u0 u1 u2 j=if j=k then v else w3 w0 w1 w2 j:=by
 match k,hk with
 |0,_=>exact⟨v,w1,w2,λ_ _ _=>rfl,λj hj=>by match j,hj with|0,_=>rfl|1,_=>rfl|2,_=>rfl⟩
 |1,_=>exact⟨w0,v,w2,λ_ _ _=>rfl,λj hj=>by match j,hj with|0,_=>rfl|1,_=>rfl|2,_=>rfl⟩
 |2,_=>exact⟨w0,w1,v,λ_ _ _=>rfl,λj hj=>by match j,hj with|0,_=>rfl|1,_=>rfl|2,_=>rfl⟩
theorem Wa (L:List Pkt)(x:Pkt)(k:Int):fA (L++[x]) k=if x.lane=k then fA L k++[x] else fA L k:=by
 unfold fA;rw[List.filter_append];by_cases h:x.lane=k<;>simp[h]
section
variable {D : aA} {m a lanes queue : Nat} {L G : List Pkt} {w0 w1 w2 cv : Value}
theorem HostI.V9 {D':aA}(h:HostI D a L G lanes queue w0 w1 w2 cv){k:Nat}(hk:k<3){v:Value}{L':List Pkt}(hf:Fr (cG (w3 w0 w1 w2 k)) D D')(hv:Pq D' v (fA L' k))(hn: ∀b,cG v b->cG (w3 w0 w1 w2 k) b∨(D.length<=b/\b<D'.length))
  (hL: ∀j:Nat,j<3->j≠k->fA L' j=fA L j):HostAt (D'.set a (.cells (([w0,w1,w2,cv,.int .i64 lanes,.int .i64 queue]:List Value).set k v) 178 .fix)) a L' G lanes queue:=by
 obtain⟨u0,u1,u2,e1,e2⟩:=aIX w0 w1 w2 hk v;have hna: ∀w,(∃xs:List Pkt,Pq D w xs)-> ¬cG w a:=λw ⟨xs,hw⟩ hh=>by
  obtain⟨cs,hc⟩:=hw.blk hh;rw[h.blk] at hc;cases hc
 have ha:D'[a]? =D[a]? :=hf.2 a (dA h.blk) (hna _ ⟨_,h.q k hk⟩);have hva: ¬cG v a:=λhh=>by
  obtain⟨cs,hc⟩:=hv.blk hh;rw[ha,h.blk] at hc;cases hc
 have hlt:a<D'.length:=aMO (dA h.blk) hf.1;rw[e1];have out: ∀w (xs:List Pkt),Pq D w xs->(∀b,cG w b-> ¬cG (w3 w0 w1 w2 k) b)->Pq (D'.set a (.cells [u0,u1,u2,cv,.int .i64 lanes,.int .i64 queue] 178 .fix)) w xs:=λw xs hw hd=>hw.wC λb hb=>by
  rw[aMA (λhx=>by subst hx;exact hna w ⟨xs,hw⟩ hb),hf.2 b (hw.uN hb) (hd b hb)]
 refine⟨u0,u1,u2,cv,aMF hlt,h.lanes,h.queue,λj hj=> ?_,out cv G h.came λb hb hh=>h.apartC k hk b hh hb,λi j hi hj hij b hb hb'=> ?_,λi hi b hb hb'=> ?_⟩
 ·rw[e2 j hj]
  by_cases hjk:j=k
  ·subst hjk
   rw[if_pos rfl];exact hv.wC λb hb=>aMA (λhx=>hva (by subst hx;exact hb))
  ·rw[if_neg hjk,hL j hj hjk]
   exact out _ _ (h.q j hj) (h.apart j k hj hk hjk)
 ·rw[e2 i hi] at hb
  rw[e2 j hj] at hb';by_cases hik:i=k
  ·rw[if_pos hik] at hb
   rw[if_neg (λhh=>hij (hik.trans hh.symm))] at hb'
   rcases hn b hb with h1|h1
   ·exact h.apart k j hk hj (λhh=>hij (hik.trans hh)) b h1 hb'
   ·have:=(h.q j hj).uN hb'
    omega
  ·rw[if_neg hik] at hb
   by_cases hjk:j=k
   ·rw[if_pos hjk] at hb'
    rcases hn b hb' with h1|h1
    ·exact h.apart i k hi hk hik b hb h1
    ·have:=(h.q i hi).uN hb
     omega
   ·rw[if_neg hjk] at hb'
    exact h.apart i j hi hj hij b hb hb'
 ·rw[e2 i hi] at hb
  by_cases hik:i=k
  ·rw[if_pos hik] at hb
   rcases hn b hb with h1|h1
   ·exact h.apartC k hk b h1 hb'
   ·have:=h.came.uN hb'
    omega
  ·rw[if_neg hik] at hb
   exact h.apartC i hi b hb hb'
theorem pC {H:aA}{b:Nat}{x:Pkt}(hb:H[b]? =some (dM x)):ld1 (.pointer (some ⟨b,2,none⟩)) H=some (.int .i64 x.lane,H)/\ldN 4 (.pointer (some ⟨b,0,none⟩)) H=some (x.dB,H):=⟨cK hb rfl,xX hb (aME 4)⟩
theorem aIV (h:HostI D a L G lanes queue w0 w1 w2 cv)(hm:2<m)(x:Pkt)(hx: ¬(0<=x.lane/\x.lane<lanes)):lvl prog pkN m (.func 94) [.pointer (some ⟨a,0,none⟩),x.dB] D=some (.int .u16 1,D++[dM x]):=by
 refine cX (cF rfl) (by omega) ?_
 rw[Lt];have e0:(Blk.cells (Value.cells x.dB).toList 31 .fix)=dM x:=rfl;obtain⟨l2,l4⟩:=pC (dF D (dM x));obtain⟨u0,u1,u2,cu,h'⟩:HostAt (D++[dM x]) a L G lanes queue:=HostAt.ext ⟨w0,w1,w2,cv,h⟩ (Fr.app _ _ _);have e1:=Dz h' (m:=m-1) (by omega) x.lane
 simp -implicitDefEqProofs only[gsR,e0,l2,e1,decide_eq_false hx]
theorem aIU (h:HostI D a L G lanes queue w0 w1 w2 cv)(hm:2<m)(x:Pkt)(hx:0<=x.lane/\x.lane<lanes)(hq:(fA L x.lane).length=queue):lvl prog pkN m (.func 94) [.pointer (some ⟨a,0,none⟩),x.dB] D=some (.int .u16 150,D++[dM x]):=by
 refine cX (cF rfl) (by omega) ?_
 rw[Lt];have e0:(Blk.cells (Value.cells x.dB).toList 31 .fix)=dM x:=rfl;obtain⟨l2,l4⟩:=pC (dF D (dM x));obtain⟨u0,u1,u2,cu,h'⟩:HostAt (D++[dM x]) a L G lanes queue:=HostAt.ext ⟨w0,w1,w2,cv,h⟩ (Fr.app _ _ _);have e1:=Dz h' (m:=m-1) (by omega) x.lane
 obtain⟨k,hk⟩: ∃k:Nat,x.lane=k:=⟨x.lane.toNat,by omega⟩
 have h3:k<3:=by have:=h.lanes.2;omega
 have e2:=D0 3 1 a 0 .i64 k h3;rw[Nat.mul_one,aMU,<-hk] at e2;have e3:=(h'.q k h3).Mf;rw[<-hk,hq] at e3;have l5:ld1 (.pointer (some ⟨a,5,none⟩)) (D++[dM x])=some (.int .i64 queue,D++[dM x]):=cK h'.blk rfl;have c:((queue:Int)==(queue:Int))=true:=by simp
 simp -implicitDefEqProofs only[gsR,e0,l2,e1,decide_eq_true hx,e2,Ak h' h3,e3,l5,c]
theorem aIW (h:HostI D a L G lanes queue w0 w1 w2 cv)(hm:2<m)(x:Pkt)(hx:0<=x.lane/\x.lane<lanes)(hq:(fA L x.lane).length≠queue)(hr:iZ ((fA L x.lane).length+1) 32=true): ∃H',lvl prog pkN m (.func 94) [.pointer (some ⟨a,0,none⟩),x.dB] D=some (.int .u16 0,H')/\HostAt H' a (L++[x]) G lanes queue:=by
 refine kJ (cF rfl) (by omega) ?_
 rw[Lt];have e0:(Blk.cells (Value.cells x.dB).toList 31 .fix)=dM x:=rfl;obtain⟨l2,l4⟩:=pC (dF D (dM x));have hb1:=dF D (dM x);obtain⟨u0,u1,u2,cu,h'⟩:HostAt (D++[dM x]) a L G lanes queue:=HostAt.ext ⟨w0,w1,w2,cv,h⟩ (Fr.app _ _ _);have e1:=Dz h' (m:=m-1) (by omega) x.lane
 obtain⟨k,hk⟩: ∃k:Nat,x.lane=k:=⟨x.lane.toNat,by omega⟩
 have h3:k<3:=by have:=h.lanes.2;omega
 have e2:=D0 3 1 a 0 .i64 k h3;rw[Nat.mul_one,aMU,<-hk] at e2;have e3:=(h'.q k h3).Mf;have l5:ld1 (.pointer (some ⟨a,5,none⟩)) (D++[dM x])=some (.int .i64 queue,D++[dM x]):=cK h'.blk rfl;have c:(((fA L (k:Int)).length:Int)==(queue:Int))=false:=by rw[<-hk];simp;omega
 obtain⟨D1,hD1⟩: ∃D1,D++[dM x]=D1:=⟨_,rfl⟩;rw[hD1] at l2 l4 h' e1 l5 hb1;have eb:dL 31 4 1 [.int .i64 0,.int .i64 0,.int .i64 0,.int .u32 0] [(0,x.dB)] D1=some (.slice (some ⟨D1.length,0,none⟩) 1 1,D1++[.cells x.oE 31 .row]):=rfl;obtain⟨v',H',g1,g2,g3,g4⟩:=(h'.q k h3).V8 yE Mh (by decide) (by':=32) x (by rw[<-hk];exact hr)
 have hnp: ¬cG (w3 u0 u1 u2 k) D.length:=λhh=>by
  obtain⟨cs,hc⟩:=(h'.q k h3).blk hh;rw[hb1] at hc;cases hc
 have hb2:H'[D.length]? =some (dM x):=by rw[g3.2 _ (dA hb1) hnp,hb1]
 have l2':=(pC hb2).1;have hna: ¬cG (w3 u0 u1 u2 k) a:=λhh=>by
  obtain⟨cs,hc⟩:=(h'.q k h3).blk hh;rw[h'.blk] at hc;cases hc
 have ha':H'[a]? =some (Aj u0 u1 u2 cu lanes queue):=by rw[g3.2 _ (dA h'.blk) hna,h'.blk]
 have st:stN 1 (.pointer (some ⟨a,k,none⟩)) v' H'=some (undef,H'.set a (.cells (([u0,u1,u2,cu,.int .i64 lanes,.int .i64 queue]:List Value).set k v') 178 .fix)):=sG ha' (by decide) (by simp;omega) g2.yD.1 g2.yD.2
 have ck:chk (some (Value.int .i64 x.lane,H')) (.int .i64 x.lane)=true:=by simp[chk,veq]
 simp -implicitDefEqProofs only[gsR,e0,hD1,l2,e1,decide_eq_true hx,e2,Ak h' h3,e3,l5,c,l4,eb,g1,l2',ck,st];refine⟨_,rfl,h'.V9 h3 g3 ?_ g4 λj hj hjk=> ?_⟩
 ·rw[Wa,if_pos hk]
  exact g2
 ·rw[Wa,if_neg (by omega)]
end
section
variable {D : aA} {m a lanes queue : Nat} {L G : List Pkt} {w0 w1 w2 cv : Value}
theorem aIY (h:HostI D a L G lanes queue w0 w1 w2 cv)(hm:0<m)(x:Pkt)(hr:iZ (G.length+1) 32=true): ∃H',lvl prog pkN m (.func 187) [.pointer (some ⟨a,0,none⟩),x.dB] D=some (aG [],H')/\HostAt H' a L (G++[x]) lanes queue:=by
 refine kJ (cF rfl) (by omega) ?_
 rw[aHC];have e0:(Blk.cells (Value.cells x.dB).toList 31 .fix)=dM x:=rfl;obtain⟨l2,l4⟩:=pC (dF D (dM x));obtain⟨u0,u1,u2,cu,h'⟩:HostAt (D++[dM x]) a L G lanes queue:=HostAt.ext ⟨w0,w1,w2,cv,h⟩ (Fr.app _ _ _);obtain⟨D1,hD1⟩: ∃D1,D++[dM x]=D1:=⟨_,rfl⟩;rw[hD1] at l2 l4 h';have l3:ld1 (.pointer (some ⟨a,3,none⟩)) D1=some (cu,D1):=cK h'.blk rfl;have eb:dL 31 4 1 [.int .i64 0,.int .i64 0,.int .i64 0,.int .u32 0] [(0,x.dB)] D1=some (.slice (some ⟨D1.length,0,none⟩) 1 1,D1++[.cells x.oE 31 .row]):=rfl;obtain⟨v',H',g1,g2,g3,g4⟩:=h'.came.V8 yE Mh (by decide) (by':=32) x hr
 have hna: ¬cG cu a:=λhh=>by
  obtain⟨cs,hc⟩:=h'.came.blk hh;rw[h'.blk] at hc;cases hc
 have ha':H'[a]? =some (Aj u0 u1 u2 cu lanes queue):=by rw[g3.2 _ (dA h'.blk) hna,h'.blk]
 have st:stN 1 (.pointer (some ⟨a,3,none⟩)) v' H'=some (undef,H'.set a (Aj u0 u1 u2 v' lanes queue)):=sG ha' (by decide) (by simp) g2.yD.1 g2.yD.2
 have hva: ¬cG v' a:=λhh=>by
  obtain⟨cs,hc⟩:=g2.blk hh;rw[ha'] at hc;cases hc
 simp -implicitDefEqProofs only[gsR,e0,hD1,l3,l4,eb,g1,st];refine⟨_,rfl,u0,u1,u2,v',iM ha',h'.lanes,h'.queue,λj hj=>(h'.q j hj).wC λb hb=> ?_,g2.wC λb hb=>aMA (λhx=>hva (by subst hx;exact hb)),h'.apart,λi hi b hb hb'=> ?_⟩
 ·have hab:a≠b:=λhx=>by
   subst hx;obtain⟨cs,hc⟩:=(h'.q j hj).blk hb;rw[h'.blk] at hc;cases hc
  rw[aMA hab,g3.2 b ((h'.q j hj).uN hb) (h'.apartC j hj b hb)]
 ·rcases g4 b hb' with h1|h1
  ·exact h'.apartC i hi b hb h1
  ·have:=(h'.q i hi).uN hb
   omega
end
end Go.Proofs.YtmimdleeihjdoaaGreatDoor
namespace Go.Abs
structure PkN (c:Cfg)(x:Pkt):Prop where
 src:0<=x.src/\x.src<c.nodes
 dst:0<=x.dst/\x.dst<c.nodes
 lane:0<=x.lane/\x.lane<c.lanes
 body:0<=x.body/\x.body<4294967296
structure SndI (t:Nat)(x:Snd):Prop where
 le:x.s<=x.l
 wide:x.l<=x.s+8
 big:x.s<=65536+t
structure RcvI (room t:Nat)(x:Rcv):Prop where
 h:x.h<=room
 big:x.n<=65536+9*t
structure WhlI (lanes:Nat)(x:Whl):Prop where
 len:x.l.length=lanes
 wt: ∀y∈x.l,0<=y/\y<=5
 fr:x.fr<lanes
structure NInv (c:Cfg)(t:Nat)(s:NS):Prop where
 snd: ∀i k,SndI t (s.snd i k)
 rcv: ∀i k,RcvI c.room t (s.rcv i k)
 hG:s.hG.length<=t
 ticks:s.ticks<=t
 hL: ∀x∈s.hL,PkN c x
 hQ: ∀k:Int,(fA s.hL k).length<=c.queue
 rL: ∀e∈s.rL,PkN c e.2
 rN:s.rL.length<=c.aF*c.lanes*c.room
 gl:s.g.length=c.aF
 al:s.a.length=c.aF
 g: ∀x∈s.g,x<c.aF
 a: ∀x∈s.a,x<c.aF
 whl: ∀i,WhlI c.lanes (s.whl i)
theorem SndI.Mk {t t':Nat}{x:Snd}(h:SndI t x)(ht:t<=t'):SndI t' x:=⟨h.le,h.wide,aMP h.big (by omega)⟩
theorem RcvI.Mj {room t t':Nat}{x:Rcv}(h:RcvI room t x)(ht:t<=t'):RcvI room t' x:=⟨h.h,aMP h.big (by omega)⟩
theorem NInv.rB {c:Cfg}{t t':Nat}{s:NS}(h:NInv c t s)(ht:t<=t'):NInv c t' s:=
 {h with snd:=λi k=>(h.snd i k).Mk ht,rcv:=λi k=>(h.rcv i k).Mj ht,hG:=aMP h.hG ht,ticks:=aMP h.ticks ht}
theorem SndI.aI7 {t:Nat}{x:Snd}(h:SndI t x)(limit:Nat):SndI t (x.qJ limit):=by
 unfold Snd.qJ;simp only;split
 ·exact h
 ·have:=h.le
  have:=h.big
  exact⟨by simp only;omega,by simp only;omega,h.big⟩
theorem SndI.aI8 {t:Nat}{x:Snd}(h:SndI t x):SndI (t+1) x.nP.2:=by
 unfold Snd.nP;split
 ·exact h.Mk (by omega)
 ·have:=h.le
  have:=h.wide;have:=h.big
  exact⟨by simp only;omega,by simp only;omega,by simp only;omega⟩
theorem RcvI.aI6 {room t:Nat}{x:Rcv}(h:RcvI room t x)(hr:room<=8)(s:Nat):RcvI room (t+1) (x.o8 room s):=by
 have h1:=h.h;have h2:=h.big;unfold Rcv.o8;simp only;split
 ·exact h.Mj (by omega)
 ·rename_i hc
  unfold Rcv.lM at hc
  exact⟨h.h,by simp only;omega⟩
theorem aJb (room:Nat)(x:Rcv)(s:Nat):(x.jX room s).2=x∨ ∃w,x.n<=w/\w<x.lM room/\(x.jX room s).2=⟨w+1,x.h+1⟩:=by
 unfold Rcv.jX
 generalize dN x.n s=w
 by_cases c1:w<x.n
 ·left
  simp only[if_pos c1]
 ·by_cases c2:x.lM room<=w
  ·left
   simp only[if_neg c1,if_pos c2]
  ·right
   refine⟨w,Nat.le_of_not_lt c1,Nat.lt_of_not_le c2,?_⟩;simp only[if_neg c1,if_neg c2]
theorem aJa {n h room t w:Nat}(h1:h<=room)(h2:n<=65536+9*t)(hr:room<=8)(h3:n<=w)(h4:w<n+(room-h)):h+1<=room/\w+1<=65536+9*(t+1):=by
 generalize 65536=z at*
 omega
theorem RcvI.Wd {room t:Nat}{x:Rcv}(h:RcvI room t x)(hr:room<=8)(s:Nat):RcvI room (t+1) (x.jX room s).2:=by
 rcases aJb room x s with h0|⟨w,h3,h4,h0⟩
 ·rw[h0]
  exact h.Mj (Nat.le_succ t)
 ·rw[h0]
  obtain⟨e1,e2⟩:=aJa h.h h.big hr h3 h4
  exact⟨e1,e2⟩
theorem RcvI.aI5 {room t:Nat}{x:Rcv}(h:RcvI room t x):RcvI room t x.tA:=⟨by have:=h.h;unfold Rcv.tA;simp only;omega,h.big⟩
theorem yF {α:Type}{P:α->Prop}{f:Nat->Nat->α}{i k:Nat}{x:α}(h: ∀i k,P (f i k))(hx:P x)(j l:Nat):P (up2 f i k x j l):=by
 unfold up2;split
 ·exact hx
 ·exact h j l
theorem aJf {α:Type}{P:α->Prop}{f:Nat->α}{i:Nat}{x:α}(h: ∀i,P (f i))(hx:P x)(j:Nat):P (up1 f i x j):=by
 unfold up1;split
 ·exact hx
 ·exact h j
theorem aJi (L:List Pkt)(x:Pkt)(k:Int):fA (L++[x]) k=if x.lane=k then fA L k++[x] else fA L k:=by
 unfold fA;rw[List.filter_append];by_cases h:x.lane=k<;>simp[h]
theorem We {L:List Pkt}{k:Int}{x:Pkt}(h:x∈qL L k):x∈L:=List.mem_of_mem_eraseP h
theorem D4 (L:List Pkt)(k j:Int):fA (qL L k) j=if j=k then(fA L k).tail else fA L j:=by
 induction L with
 |nil=>simp[fA,qL]
 |cons x L ih=>
  unfold fA qL at*;by_cases hx:x.lane=k
  ·subst hx
   rw[List.eraseP_cons_of_pos (by simp)]
   by_cases hj:j=x.lane
   ·rw[if_pos hj,hj]
    simp
   ·rw[if_neg hj,List.filter_cons_of_neg (by simp;omega)]
  ·rw[List.eraseP_cons_of_neg (by simp[hx])]
   by_cases hj:j=k
   ·subst hj
    rw[if_pos rfl,List.filter_cons_of_neg (by simp[hx]),List.filter_cons_of_neg (by simp[hx]),ih,if_pos rfl]
   ·rw[if_neg hj] at ih⊢
    rw[List.filter_cons,List.filter_cons,ih]
theorem aJd {L:List (fM×Pkt)}{w:fM}{e:fM×Pkt}(h:e∈oF L w):e∈L:=List.mem_of_mem_eraseP h
theorem aJc (L:List (fM×Pkt))(w:fM):(oF L w).length<=L.length:=(List.eraseP_sublist).length_le
theorem Wg {c:Cfg}{L:List (fM×Pkt)}{w:fM}{x:Pkt}{e:fM×Pkt}(h:e∈sK c L w x):e∈L∨e.2=x:=by
 unfold sK at h
 split at h
 ·rcases List.mem_append.mp h with h|h
  ·exact .inl h
  ·simp at h
   exact .inr (by rw[h])
 ·exact .inl h
theorem Wf {c:Cfg}{L:List (fM×Pkt)}{w:fM}{x:Pkt}(h:L.length<=c.aF*c.lanes*c.room):(sK c L w x).length<=c.aF*c.lanes*c.room:=by
 unfold sK;split
 ·rename_i hc
  simp;omega
 ·exact h
theorem aJe {L:List (fM×Pkt)}{w:fM}{x:Pkt}(h:x∈oR L w): ∃e∈L,e.2=x/\e.1=w:=by
 unfold oR at h;obtain⟨e,h1,h2⟩:=aNc.mp h;obtain⟨h3,h4⟩:=List.mem_filter.mp h1
 exact⟨e,h3,h2,by simpa using h4⟩
section
variable {c : Cfg} {t : Nat} {s : NS}
theorem NInv.aI3 (hc:c.ok):NInv c 0 (NS.jK c) where
 snd:=λi k=>⟨by simp[NS.jK],by have:=hc.room;simp[NS.jK];omega,by have:=hc.start;simp[NS.jK];omega⟩
 rcv:=λi k=>⟨by simp[NS.jK],by have:=hc.start;simp[NS.jK];omega⟩
 hG:=aME _
 ticks:=aME _
 hL:=λx hx=>by simp[NS.jK] at hx
 hQ:=λk=>by simp[NS.jK,fA]
 rL:=λx hx=>by simp[NS.jK] at hx
 rN:=by simp[NS.jK]
 gl:=by simp[NS.jK]
 al:=by simp[NS.jK]
 g:=λx hx=>by
  simp[NS.jK] at hx;unfold Cfg.aF;omega
 a:=λx hx=>by
  simp[NS.jK] at hx;unfold Cfg.aF;omega
 whl:=λi=>⟨hc.wlen,λy hy=>by have:=hc.wts y hy;omega,by have:=hc.lanes;simp[NS.jK];omega⟩
theorem NInv.aI4 (h:NInv c t s){x:Pkt}(hx:0<=x.lane/\x.lane<c.lanes->PkN c x):NInv c t (pT c x s).2:=by
 unfold Go.Abs.pT;split
 ·exact h
 ·rename_i hl
  split
  ·exact h
  ·rename_i hq
   have hl':0<=x.lane/\x.lane<c.lanes:=by omega
   refine {h with hL:=λy hy=> ?_,hQ:=λk=> ?_}
   ·rcases List.mem_append.mp hy with hy|hy
    ·exact h.hL y hy
    ·simp at hy
     rw[hy];exact hx hl'
   ·rw[aJi]
    split
    ·rename_i he
     subst he;have:=h.hQ x.lane;simp;omega
    ·exact h.hQ k
theorem NInv.aI2 (hc:c.ok)(h:NInv c t s){x:Pkt}(hb:0<=x.body/\x.body<4294967296):NInv c t (nF c x s).2:=by
 unfold Go.Abs.nF;split
 ·exact h
 ·rename_i hn
  refine h.aI4 λhl=>⟨?_,?_,hl,hb⟩
  ·have:=hc.me
   omega
  ·omega
theorem NInv.aI0 (hc:c.ok)(h:NInv c t s)(i:Nat)(f:Frm)(hl:f.lane<c.lanes)(hb:f.body<4294967296):NInv c (t+1) (qK c i f s).2:=by
 unfold qK;split
 ·exact h.rB (by omega)
 ·rename_i hm
  have hm2:=h.rB (t':=t+1) (by omega)
  have hr:=(h.rcv i f.lane).Wd hc.room.2 f.seq;split
  ·rename_i r he
   rw[he] at hr;refine {hm2 with rcv:=yF hm2.rcv hr,rL:=λe he=> ?_,rN:=Wf h.rN}
   rcases Wg he with he|he
   ·exact h.rL e he
   ·rw[he]
    exact⟨⟨by simp only;omega,by simp only;omega⟩,⟨by simp only;omega,by simp only;omega⟩,⟨by simp only;omega,by simp only;omega⟩,⟨by simp only;omega,by simp only;omega⟩⟩
  ·exact hm2
theorem NInv.aI1 (hc:c.ok)(h:NInv c t s)(k:Nat):NInv c t (nR c s k):=by
 unfold Go.Abs.nR;split
 ·exact h
 ·split
  ·exact h
  ·rename_i x xs hx
   have hxm:x∈s.hL:=by
    have:x∈fA s.hL k:=by rw[hx];exact aMI ..
    exact(List.mem_filter.mp this).1
   refine {h with hL:=λy hy=>h.hL y (We hy),hQ:=λj=> ?_,rL:=λe he=> ?_,rN:=Wf h.rN}
   ·rw[D4]
    split
    ·have:=h.hQ k
     simp;omega
    ·exact h.hQ j
   ·rcases Wg he with he|he
    ·exact h.rL e he
    ·rw[he]
     exact h.hL x hxm
theorem aJh (hc:c.ok){w:Whl}(hw:WhlI c.lanes w)(may:Nat->Bool):WhlI c.lanes (j9 c.weights w may).2:=by
 unfold j9;split
 ·rename_i ha
  split
  ·rename_i i hi
   have hfull:(lE c.weights w may).length=c.lanes/\ ∀y∈lE c.weights w may,0<=y/\y<=5:=by
    unfold lE;split
    ·exact⟨hw.len,hw.wt⟩
    ·exact⟨hc.wlen,λy hy=>by have:=hc.wts y hy;omega⟩
   have hp:=tZ hi;unfold mG at hp;rw[aMH,decide_eq_true_eq] at hp;refine⟨by simp[hfull.1],λy hy=> ?_,?_⟩
   ·rcases List.mem_or_eq_of_mem_set hy with hy|hy
    ·exact hfull.2 y hy
    ·have hi2:i<(lE c.weights w may).length:=by rw[hfull.1,<-hc.wlen];exact hp.1
     have:=hfull.2 _ (List.getElem_mem hi2);have e:(lE c.weights w may).getD i 0=(lE c.weights w may)[i]:=by rw[aMD,aMB hi2,aM2]
     rw[e] at hp hy;omega
   ·simp only
    rw[hc.wlen];exact Nat.mod_lt _ (by have:=hc.lanes;omega)
  ·exact hw
 ·exact hw
theorem aJg {c:Cfg}{w:Whl}{may:Nat->Bool}{k:Nat}{w':Whl}(h:j9 c.weights w may=(some k,w')):k<c.weights.length/\may k=true:=by
 unfold j9 at h
 split at h
 ·split at h
  ·rename_i i hi
   cases h;have:=tZ hi;unfold mG at this;rw[aMH] at this
   exact⟨this.1,this.2.1⟩
  ·cases h
 ·cases h
theorem aI9 {gr:Nat->Option Nat}{n:Nat}{first:Bool}{s:Mat}(i:Nat)(hn:0<n)(hm: ∀x∈s.m,x= -1∨0<=x/\x<(n:Int))(hg: ∀x∈s.g,x<n)(ha: ∀x∈s.a,x<n):
  (∀x∈(acc gr n first s i).m,x= -1∨0<=x/\x<(n:Int))/\(∀x∈(acc gr n first s i).g,x<n)/\(∀x∈(acc gr n first s i).a,x<n):=by
 unfold acc;split
 ·split
  ·exact⟨hm,hg,ha⟩
  ·rename_i k hk
   have:=(tZ hk).1;refine⟨λx hx=> ?_,λx hx=> ?_,λx hx=> ?_⟩
   ·rcases List.mem_or_eq_of_mem_set hx with hx|hx
    ·exact hm x hx
    ·right
     omega
   ·dsimp only at hx
    split at hx
    ·rcases List.mem_or_eq_of_mem_set hx with hx|hx
     ·exact hg x hx
     ·rw[hx]
      exact Nat.mod_lt _ hn
    ·exact hg x hx
   ·dsimp only at hx
    split at hx
    ·rcases List.mem_or_eq_of_mem_set hx with hx|hx
     ·exact ha x hx
     ·rw[hx]
      exact Nat.mod_lt _ hn
    ·exact ha x hx
 ·exact⟨hm,hg,ha⟩
structure MatI (n:Nat)(s:Mat):Prop where
 ml:s.m.length=n
 gl:s.g.length=n
 al:s.a.length=n
 m: ∀x∈s.m,x= -1∨0<=x/\x<(n:Int)
 g: ∀x∈s.g,x<n
 a: ∀x∈s.a,x<n
theorem MatI.acc {gr:Nat->Option Nat}{n:Nat}{first:Bool}{s:Mat}(h:MatI n s)(hn:0<n)(i:Nat):MatI n (acc gr n first s i):=by
 obtain⟨h1,h2,h3⟩:=aDe gr n first s i
 obtain⟨h4,h5,h6⟩:=aI9 (gr:=gr) (first:=first) i hn h.m h.g h.a
 exact⟨h1.trans h.ml,h2.trans h.gl,h3.trans h.al,h4,h5,h6⟩
theorem MatI.Mi {gr:Nat->Option Nat}{n:Nat}{first:Bool}(hn:0<n): ∀(l:List Nat){s:Mat},MatI n s->MatI n (l.foldl (Go.Abs.acc gr n first) s)
 |[],_,h=>h
 |i::l,_,h=>by
  rw[List.foldl_cons];exact MatI.Mi hn l (h.acc hn i)
theorem MatI.rnd {req:Nat->Nat->Bool}{n:Nat}{first:Bool}{s:Mat}(h:MatI n s)(hn:0<n):MatI n (rnd req n first s):=MatI.Mi hn _ h
theorem MatI.Wb {req:Nat->Nat->Bool}{n:Nat}(hn:0<n): ∀(k:Nat){s:Mat},MatI n s->MatI n (vS req n k s)
 |0,_,h=>h
 |k+1,_,h=>MatI.Wb hn k (h.rnd hn)
theorem MatI.Wc {n:Nat}{g a:List Nat}(hg:g.length=n)(ha:a.length=n)(h1: ∀x∈g,x<n)(h2: ∀x∈a,x<n):MatI n ⟨List.replicate n (-1),g,a⟩:=
 ⟨by simp,hg,ha,λx hx=>by simp at hx;exact .inl hx.2,h1,h2⟩
theorem MatI.aIZ {req:Nat->Nat->Bool}{n rounds:Nat}{g a:List Nat}(hn:0<n)(hg:g.length=n)(ha:a.length=n)(h1: ∀x∈g,x<n)(h2: ∀x∈a,x<n):MatI n (q9 req n rounds g a):=
 MatI.Wb hn _ ((MatI.Wc hg ha h1 h2).rnd hn)
end
end Go.Abs
