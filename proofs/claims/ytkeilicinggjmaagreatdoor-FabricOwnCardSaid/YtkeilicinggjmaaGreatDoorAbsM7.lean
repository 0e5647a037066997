/-
  PARTS OF THIS CLAIM'S PROOF, laid together by a program of mine.
-/
import Derived.Test.YtkeilicinggjmaaGreatDoorAbsM6
set_option linter.unusedVariables false
set_option linter.unusedSimpArgs false
set_option linter.unusedSectionVars false
set_option maxRecDepth 100000
namespace Go.Proofs.YtkeilicinggjmaaGreatDoor
open Go.Proofs.Tryz
open Go.Abs Go.Abs.M
open Classical
theorem aCR (c:Cfg)(m:List Int): ∀(l1 l2:List Nat)(s:NS×kJ),pX c m (l1++l2) s=pX c m l2 (pX c m l1 s)
 |[],_,_=>rfl
 |i::l1,l2,s=>by rw[List.cons_append,pX,pX,aCR c m l1 l2]
def gZ (c:Cfg)(m:List Int)(s:NS)(i:Nat):NS×kJ:=pX c m (List.range i) (s,[])
theorem Sr (c:Cfg)(m:List Int)(s:NS)(i:Nat):gZ c m s (i+1)=if 0<=m.getD i 0 then((pF c (gZ c m s i).1 i (m.getD i 0).toNat).1,(gZ c m s i).2++(pF c (gZ c m s i).1 i (m.getD i 0).toNat).2) else gZ c m s i:=by
 unfold gZ;rw[aSt,aCR];rfl
theorem aPP (c:Cfg)(s:NS)(i o:Nat):(pF c s i o).2.length<=1:=by
 unfold pF;split
 ·simp
 ·simp only
  split<;>simp
theorem aPQ (c:Cfg)(s:NS)(i o:Nat):(pF c s i o).1.ticks=s.ticks:=by
 unfold pF;split
 ·rfl
 ·simp only
  split<;>rfl
theorem Sq (c:Cfg)(m:List Int)(s:NS): ∀i,(gZ c m s i).2.length<=i
 |0=>by simp[gZ,pX]
 |i+1=>by
  have:=Sq c m s i;have:=aPP c (gZ c m s i).1 i (m.getD i 0).toNat;rw[Sr];split
  ·simp only[aR6]
   omega
  ·omega
theorem Ss (c:Cfg)(m:List Int)(s:NS): ∀i,(gZ c m s i).1.ticks=s.ticks
 |0=>rfl
 |i+1=>by
  rw[Sr];split
  ·simp only
   rw[aPQ,Ss c m s i]
  ·exact Ss c m s i
theorem aPN (c:Cfg)(s:NS)(k:Nat):(nS c s k).ticks=s.ticks:=by
 unfold nS;split
 ·rfl
 ·split<;>rfl
theorem aPO (c:Cfg)(s:NS):(lD c s).ticks=s.ticks:=by
 unfold lD;have: ∀(l:List Nat)(s:NS),(l.foldl (nS c) s).ticks=s.ticks:=by
  intro l;induction l with
  |nil=>intro s;rfl
  |cons k l ih=>intro s;rw[List.foldl_cons,ih,aPN]
 exact this _ _
theorem aPM (i:Nat)(hi:i<1000000000):IntKind.i64.wrap ((i:Int)+1)=((i+1:Nat):Int):=by rw[dL U U];omega
section
variable {H0 Hs H : aF} {Fs F : Part → Nat → Prop} {y : Lay} {p : PlanD} {ev wv nv : Value} {c : Cfg} {t : Nat} {s : NS} {m : Nat} {vb cb : Nat} {outs : kJ}
def Sp (H0 Hs:aF)(Fs:Part->Nat->Prop)(y:Lay)(p:PlanD)(ev wv nv:Value)(c:Cfg)(t:Nat)(s':NS)(vb cb:Nat)(outs:kJ)(H':aF)(v:Value):Prop:=
 ∃F' us,TickS H0 Hs H' Fs F' y p ev wv nv c t s' vb cb outs/\OutR H' (λb=>Hs.length<=b/\ ¬Un F' b) v us outs
theorem NodeAt.aPL (h:NodeAt H0 H F y p ev wv nv c t s)(hi:NInv c t {s with ticks:=s.ticks+1}):
  NodeAt H0 (H.set y.nb (xX p.bag ev wv nv y c (s.ticks+1))) F y p ev wv nv c t {s with ticks:=s.ticks+1}/\Mv (Un F) (Un F) H (H.set y.nb (xX p.bag ev wv nv y c (s.ticks+1))):=by
 have hB:=h.sep.see .node rfl zX;refine h.D5 .node (l:=nJ p.bag ev wv nv y c s.ticks) (l':=nJ p.bag ev wv nv y c (s.ticks+1)) rfl zX ?_ ?_ ?_ hi rfl ?_
 ·intro q hq
  simp only[nJ,aSd,aSx] at hq;rcases hq with rfl|rfl|⟨j,hj,rfl⟩
  ·exact⟨_,aR3 ..,rfl⟩
  ·exact⟨_,aSb _ (aR3 ..),rfl⟩
  ·exact⟨(y.lb (j+1),pK y c (j+1)),by simp only[nJ,aSd,aSx];exact .inr (.inr ⟨j,hj,rfl⟩),rfl⟩
 ·exact⟨by simp,λb hb hn=>aRV λhh=>hn ⟨_,aR3 ..,hh⟩⟩
 ·intro q hq
  have hnb:=h.nbB;simp only[nJ,aSd,aSx] at hq;rcases hq with rfl|rfl|⟨j,hj,rfl⟩
  ·exact fW hnb
  ·have h2:H[y.pb]? =some (zY y c):=hB (y.pb,zY y c) (by simp[nJ])
   simp only;rw[aRV (λhh=> ?_),h2]
   rw[<-hh,hnb] at h2;injection h2 with h2;injection h2 with _ h2 _
   revert h2
   decide
  ·have h2:H[y.lb (j+1)]? =some (pK y c (j+1)):=hB (y.lb (j+1),pK y c (j+1)) (by simp only[nJ,aSd,aSx];exact .inr (.inr ⟨j,hj,rfl⟩))
   simp only;rw[aRV (λhh=> ?_),h2]
   rw[<-hh,hnb] at h2;injection h2 with h2;injection h2 with _ h2 _
   revert h2
   decide
 ·intro j hj
  cases j with
  |node=>exact absurd rfl hj
  |_=>rfl
theorem aPR (h:TickS H0 Hs H Fs F y p ev wv nv c t s vb cb outs)(ht:t<10000000)(hol:outs.length<700)(hm:500<m)(htk:s.ticks+1<=t+1):
  ∀(x0 x2 x5 x6 x7 x8 x9 bS cE aV aR aS aQ aW aX aU bA bP bQ bO bK aY bC bE bG bH bI bJ bM bN bU cK cL cD bV bX bY b9 cA cF cM cO cP cT dB dE dF cU cV cW cY dJ dG dH cZ:Value),∃H2 r,Ii (lvl prog pkN m) (aM m) x0 (pt cb) x2 (pt vb) (uB vb cb) x5 x6 x7 x8 x9 bS cE aV aR aS aQ aW aX aU bA bP bQ bO bK aY bC bE bG bH bI bJ bM bN bU cK cL cD bV bX bY b9 cA cF cM cO cP cT dB dE dF cU cV cW cY dJ dG dH cZ H=some (r,H2)/\
   Sp H0 Hs Fs y p ev wv nv c (t+1) {s with ticks:=s.ticks+1} vb cb (if(s.ticks+1)%c.every=0 then outs++oO c s else outs) H2 r:=by
 intros;have lc:ld1 (pt cb) H=some (pt y.nb,H):=dI h.cell rfl;have l16:=h.node.ld 16 (.I s.ticks) rfl;have e1:=aPM s.ticks U
 have hi:NInv c (t+1) {s with ticks:=s.ticks+1}:={h.node.inv.tA (Nat.le_succ t) with ticks:=htk};have hn:NodeAt H0 H F y p ev wv nv c (t+1) s:={h.node with inv:=h.node.inv.tA (Nat.le_succ t)};obtain⟨H1,hH1⟩:=aD (H.set y.nb (xX p.bag ev wv nv y c (s.ticks+1)));have st:stN 1 (.Q y.nb 16) (.I ((s.ticks+1:Nat):Int)) H=some (undef,H1):=by rw[hH1];exact lN h.node.nbB aC (by simp[Se])
 obtain⟨g1,mv1⟩:=hn.aPL hi;rw[<-hH1] at g1 mv1;have h1:=h.wL g1 mv1;have lc1:ld1 (pt cb) H1=some (pt y.nb,H1):=dI h1.cell rfl;have l16':=h1.node.ld 16 (.I (s.ticks+1:Nat)) rfl;have l7:=h1.node.ld 7 (.I c.every) rfl;have hev:=h.node.ok.every;have r1:bin prog .rem 3 (.I ((s.ticks+1:Nat):Int)) (.I c.every)=some (.I (((s.ticks+1)%c.every:Nat):Int)):=zD (s.ticks+1) c.every _ rfl U
 unfold Ii;by_cases hz:(s.ticks+1)%c.every=0
 ·have c1:((((s.ticks+1)%c.every:Nat):Int)==0)=true:=by rw[hz];rfl
  obtain⟨H2,x1,h2⟩:=aPJ h1 (m:=m) U U U
  obtain⟨v,us,r,hr⟩:=h2.rows;have lv:ld1 (pt vb) H2=some (v,H2):=dI r rfl;simp -implicitDefEqProofs only[gsR,lc,l16,cR,e1,st,lc1,l16',l7,r1,c1,x1,lv];refine⟨_,_,rfl,F,us,?_,?_⟩
  ·rw[if_pos hz]
   exact h2
  ·rw[if_pos hz]
   exact hr
 ·have c1:((((s.ticks+1)%c.every:Nat):Int)==0)=false:=by rw[beq_eq_false_iff_ne];omega
  obtain⟨v,us,r,hr⟩:=h1.rows;have lv:ld1 (pt vb) H1=some (v,H1):=dI r rfl;simp -implicitDefEqProofs only[gsR,lc,l16,cR,e1,st,lc1,l16',l7,r1,c1,lv];refine⟨_,_,rfl,F,us,?_,?_⟩
  ·rw[if_neg hz]
   exact h1
  ·rw[if_neg hz]
   exact hr
theorem aPS {mt:List Int}{mb:Nat}{Q:aF->Value->Prop}(hml:mt.length=c.aK)(hmr: ∀z∈mt,z= -1∨0<=z/\z<(c.aK:Int))(ht:t<9000000)(h6:c.aK<=6)(hmv:mb≠vb)(hm:500<m)
  (hK: ∀(H':aF)(F':Part->Nat->Prop),TickS H0 Hs H' Fs F' y p ev wv nv c (t+c.aK) (gZ c mt s c.aK).1 vb cb (gZ c mt s c.aK).2-> ∀(x0 x2 x5 x6 x7 x8 x9 bS cE aV aR aS aQ aW aX aU bA bP bQ bO bK aY bC bE bG bH bI bJ bM bN bU cK cL cD bV bX bY b9 cA cF cM cO cP cT dB dE dF cU cV cW cY dJ dG dH cZ:Value),∃H2 r,Ii (lvl prog pkN m) (aM m) x0 (pt cb) x2 (pt vb) (uB vb cb) x5 x6 x7 x8 x9 bS cE aV aR aS aQ aW aX aU bA bP bQ bO bK aY bC bE bG bH bI bJ bM bN bU cK cL cD bV bX bY b9 cA cF cM cO cP cT dB dE dF cU cV cW cY dJ dG dH cZ H'=some (r,H2)/\Q H2 r):
  ∀(q i l:Nat)(H:aF)(F:Part->Nat->Prop),c.aK-i=q->i<=c.aK->q<l->TickS H0 Hs H Fs F y p ev wv nv c (t+i) (gZ c mt s i).1 vb cb (gZ c mt s i).2->H[mb]? =some (fD mt [])-> ¬Un F mb-> ∀(x0 x2 x5 x6 x7 x8 x9 bS cE aV aR aS aQ aW aX aU bA bP aY bC bE bG bH bI bJ bM bN bU cK cL cD bV bX bY b9 cA cF cM cO cP cT dB dE dF cU cV cW cY dJ dG dH cZ:Value),
  ∃H2 r,aM l (aN prog (lvl prog pkN m) (aM m) P1) (P2 (lvl prog pkN m) (aM m)) [x0,(pt cb),x2,(pt vb),(uB vb cb),x5,x6,x7,x8,x9,bS,cE,aV,aR,aS,aQ,aW,aX,aU,bA,bP,(eQ mb c.aK),(.I c.aK),(.I (i:Nat)),aY,bC,bE,bG,bH,bI,bJ,bM,bN,bU,cK,cL,cD,bV,bX,bY,b9,cA,cF,cM,cO,cP,cT,dB,dE,dF,cU,cV,cW,cY,dJ,dG,dH,cZ] H=some (r,H2)/\Q H2 r:=by
 intro q;induction q with
 |zero=>
  intro i l H F hq hi hl h hmb hmF;intros;obtain⟨l,rfl⟩: ∃l',l=l'+1:=⟨l-1,by omega⟩
  have hie:i=c.aK:=U
  subst hie;have c1:decide ((c.aK:Int)<(c.aK:Int))=false:=by simp
  rw[aM,aAE];simp -implicitDefEqProofs only[gsR,c1];rw[aLq];exact hK H F h ..
 |succ q ih=>
  intro i l H F hq hi hl h hmb hmF;intros;obtain⟨l,rfl⟩: ∃l',l=l'+1:=⟨l-1,by omega⟩
  have hil:i<c.aK:=U
  have c1:decide ((i:Int)<(c.aK:Int))=true:=by rw[decide_eq_true_eq];omega
  obtain⟨a1,a2⟩:=Bx (c:=c.aK) hmb hml hil;have a1:aT 1 (eQ mb c.aK) (.I (i:Int))=some (.Q mb i):=a1;have lc:ld1 (pt cb) H=some (pt y.nb,H):=dI h.cell rfl;have e9:=pI i U
  have hup:=Sr c mt s i;have hul:=Sq c mt s i;have hz:mt.getD i 0= -1∨0<=mt.getD i 0/\mt.getD i 0<(c.aK:Int):=by
   rw[aRY,aRW U,aSn]
   exact hmr _ (List.getElem_mem _)
  rw[aM,aAE];by_cases hneg:0<=mt.getD i 0
  ·obtain⟨o,ho⟩: ∃o:Nat,mt.getD i 0=o:=⟨(mt.getD i 0).toNat,by omega⟩
   have c2:decide ((0:Int)<=(o:Int))=true:=by rw[decide_eq_true_eq];omega
   rw[if_pos hneg,ho,aSm] at hup;rw[ho] at a2 hz;obtain⟨H1,v,g1,rfl,g2,F1,g3,g4⟩:=aPE h (m:=m) (i:=i) (o:=o) U U hil U U hmb hmF hmv
   simp -implicitDefEqProofs only[gsR,c1,a1,a2,c2,lc,g1,cR,e9];refine ih (i+1) l H1 F1 U U U ?_ g2 g4 ..
   rw[hup];exact g3
  ·have c2:decide ((0:Int)<=mt.getD i 0)=false:=aSF hneg
   rw[if_neg hneg] at hup;simp -implicitDefEqProofs only[gsR,c1,a1,a2,c2,cR,e9];refine ih (i+1) l H F U U U ?_ hmb hmF ..
   rw[hup];exact {h with node:={h.node with inv:=h.node.inv.tA U}}
end
section
variable {H0 Hs H : aF} {Fs F : Part → Nat → Prop} {y : Lay} {p : PlanD} {ev wv nv : Value} {c : Cfg} {t : Nat} {s : NS} {m : Nat}
theorem NodeAt.aPT {H':aF}{g' a':List Nat}(h:NodeAt H0 H F y p ev wv nv c t s)(hg:g'.length=s.g.length)(hf:Fr (λb=>b=y.ga∨b=y.aa) H H')(hB:Blks (kE y.ab y.ga y.aa g' a') H')(hi:NInv c t {s with g:=g',a:=a'}):
  NodeAt H0 H' F y p ev wv nv c t {s with g:=g',a:=a'}/\Mv (Un F) (Un F) H H':=by
 refine h.D5 .arb (l:=kE y.ab y.ga y.aa s.g s.a) (l':=kE y.ab y.ga y.aa g' a') rfl aCu ?_ ?_ hB hi rfl ?_
 ·intro q hq
  simp only[kE,aSd,aSk,or_false] at hq;rcases hq with rfl|rfl|rfl
  ·exact⟨_,aR3 ..,rfl⟩
  ·exact⟨_,aSb _ (aR3 ..),rfl⟩
  ·exact⟨_,aSb _ (aSb _ (aR3 ..)),rfl⟩
 ·refine hf.Cu λb hb=> ?_
  rcases hb with rfl|rfl
  ·exact⟨_,aSb _ (aR3 ..),rfl⟩
  ·exact⟨_,aSb _ (aSb _ (aR3 ..)),rfl⟩
 ·intro j hj
  cases j with
  |arb=>exact absurd rfl hj
  |_=>rfl
theorem aPU (h:NodeAt H0 H F y p ev wv nv c t s)(ht:t<8000000)(hm:600<m):
  ∃H' F' v us,lvl prog pkN m (.func 13) [pt y.nb] H=some (v,H')/\NodeAt H0 H' F' y p ev wv nv c (t+7) (qA c s).1/\Mv (Un F) (Un F') H H'/\OutR H' (λb=>H.length<=b/\ ¬Un F' b) v us (qA c s).2:=by
 have h6:c.aK<=6:=by have:=h.ok.by';unfold Cfg.aK;omega
 have hp1:1<=c.aK:=by unfold Cfg.aK;omega
 obtain⟨H1,hH1⟩:=aD (H++[pnB y.nb]);obtain⟨H2,hH2⟩:=aD (H1++[yA (.slice none 0 0)]);have e1:H++[Blk.cells (Value.cells (pt y.nb)).toList 30 .fix]=H1:=by rw[hH1];rfl
 have e2:H1++[Blk.cells [Value.slice none 0 0] 35 .fix]=H2:=by rw[hH2];rfl
 have x1:Ext H H1:=by rw[hH1];exact Fr.app _ _ _
 have x2:Ext H1 H2:=by rw[hH2];exact Fr.app _ _ _
 have h1l:H1.length=H.length+1:=by rw[hH1];simp
 have bc:H2[H.length]? =some (pnB y.nb):=by
  have:H1[H.length]? =some (pnB y.nb):=by rw[hH1];exact eD _ _
  rw[x2.2 _ (dO this) id,this]
 have bv:H2[H1.length]? =some (yA (.slice none 0 0)):=by rw[hH2];exact eD _ _
 have hnew: ∀b,H.length<=b-> ¬Un F b:=λb hb hu=>by have:=h.sep.rD b hu;omega
 have g2:=(h.lH x1).lH x2;have T2:TickS H0 H H2 F F y p ev wv nv c t s H1.length H.length []:=
  ⟨g2,Mv.rB (x1.tr x2) _,h.ext.1,bc,hnew _ (aRZ _),hnew _ U,by omega,.slice none 0 0,[],bv,⟨Rw.kP,λb ⟨_,_,_,hh⟩=>(by cases hh),rfl,λi u o hu _=>(by cases hu)⟩⟩
 have lc2:ld1 (pt H.length) H2=some (pt y.nb,H2):=dI T2.cell rfl;obtain⟨H3,F3,f1,f2,f3⟩:=aPl g2 (m:=m-1) U
 have T3:=T2.wL f2 f3;obtain⟨s1,hs1⟩:=aD (lD c s);rw[<-hs1] at T3;have lc3:ld1 (pt H.length) H3=some (pt y.nb,H3):=dI T3.cell rfl;have n0:=T3.node.ld 0 (pt y.ab) rfl;obtain⟨H4,k1,k2,x4⟩:=aPg T3.node (m:=m-1) U U
 have T4:=T3.ext x4;have lc4:ld1 (pt H.length) H4=some (pt y.nb,H4):=dI T4.cell rfl;have n0':=T4.node.ld 0 (pt y.ab) rfl;have n6:=T4.node.ld 6 (.I c.rounds) rfl;have n6':=T3.node.ld 6 (.I c.rounds) rfl;have hI:=T4.node.inv;have hr:=T4.node.ok.rounds;obtain⟨H5,mb,r1,r2,r3,r4,r5⟩:=aOE (m:=m-1) (H:=H4) (ab:=y.ab) (ga:=y.ga) (aa:=y.aa) (g:=s1.g) (a:=s1.a) (n:=c.aK) (rows:=lQ c s1 c.aK 0) (qb:=H3.length) (rounds:=c.rounds)
  (T4.node.sep.see .arb rfl aCu) h.lay.ga hI.gl hI.al hI.g hI.a hp1 U k2 (wJ _ _ _ _) (aPd U) hr.1 U U
 rw[aPe] at r2 r5;obtain⟨mt,hmt⟩:=aD (oV (lX c s1) c.aK c.rounds s1.g s1.a);rw[<-hmt] at r2 r5;have hM:MatI c.aK mt:=by rw[hmt];exact MatI.aBq U hI.gl hI.al hI.g hI.a
 have hi5:NInv c t {s1 with g:=mt.g,a:=mt.a}:={hI with gl:=hM.gl,al:=hM.al,g:=hM.g,a:=hM.a};obtain⟨g5,mv5⟩:=T4.node.aPT (hM.gl.trans hI.gl.symm) r4 r5 hi5;have T5:=T4.wL g5 mv5;obtain⟨s2,hs2⟩: ∃s2:NS,s2={s1 with g:=mt.g,a:=mt.a}:=⟨_,rfl⟩;rw[<-hs2] at T5;have hmbF: ¬Un F3 mb:=λhu=>by have:=T4.node.sep.rD mb hu;omega
 have hmbv:mb≠H1.length:=λhh=>by
  obtain⟨v,us,r,_⟩:=T4.rows;have:=dO r;omega
 have e5:aZ (eQ mb c.aK)=some (.I c.aK):=rfl;have hut:=Ss c mt.m s2 c.aK;have hst:s2.ticks=s.ticks:=by rw[hs2];show s1.ticks=_;rw[hs1,aPO]
 have hres:qA c s=({(gZ c mt.m s2 c.aK).1 with ticks:=(gZ c mt.m s2 c.aK).1.ticks+1},if((gZ c mt.m s2 c.aK).1.ticks+1)%c.every=0 then(gZ c mt.m s2 c.aK).2++oO c (gZ c mt.m s2 c.aK).1 else(gZ c mt.m s2 c.aK).2):=by
  rw[hut,hst];unfold qA gZ;simp only;rw[hs2,hmt,hs1]
 have main: ∃H' v,lvl prog pkN m (.func 13) [pt y.nb] H=some (v,H')/\
   Sp H0 H F y p ev wv nv c (t+c.aK+1) {(gZ c mt.m s2 c.aK).1 with ticks:=(gZ c mt.m s2 c.aK).1.ticks+1} H1.length H.length (if((gZ c mt.m s2 c.aK).1.ticks+1)%c.every=0 then(gZ c mt.m s2 c.aK).2++oO c (gZ c mt.m s2 c.aK).1 else(gZ c mt.m s2 c.aK).2) H' v:=by
  refine gN (cH rfl) U ?_
  rw[aLr];have e4:(Value.func (.func _) #[] #[pt H1.length,pt H.length])=uB H1.length H.length:=rfl;simp -implicitDefEqProofs only[gsR,e1,e2,lc2,f1,lc3,n0,k1,n0',xZ,lc4,n6,n6',D4,r1,e5];have T5':TickS H0 H H5 F F3 y p ev wv nv c (t+0) (gZ c mt.m s2 0).1 H1.length H.length (gZ c mt.m s2 0).2:=T5;refine aPS (Q:=λH' v=>Sp H0 H F y p ev wv nv c (t+c.aK+1) {(gZ c mt.m s2 c.aK).1 with ticks:=(gZ c mt.m s2 c.aK).1.ticks+1} H1.length H.length (if((gZ c mt.m s2 c.aK).1.ticks+1)%c.every=0 then(gZ c mt.m s2 c.aK).2++oO c (gZ c mt.m s2 c.aK).1 else(gZ c mt.m s2 c.aK).2) H' v)
   hM.ml hM.m U h6 hmbv U ?_ c.aK 0 (m-1) H5 F3 U U U T5' r2 hmbF ..
  intro H' F' h';intros;have hul:=Sq c mt.m s2 c.aK;refine aPR h' U U U ?_ ..
  rw[hut,hst];have:=h.inv.ticks;omega
 obtain⟨H',v,q1,F',us,q2,q3⟩:=main;rw[hres];refine⟨H',F',v,us,q1,{q2.node with inv:=q2.node.inv.tA U},q2.mv,q3⟩
end
theorem aCS: ∀zs:List Int,(zs.map inC).flatten=zs.map λz:Int=>Value.I z
 |[]=>rfl
 |z::zs=>by
  rw[aSp,aSu,aCS zs];rfl
theorem aCT {H:aF}{u:Value}{zs:List Int}(h:Iw H u zs)(hne:zs≠[]): ∃b cap rest,u=lG b zs.length cap/\H[b]? =some (fD zs rest):=by
 obtain⟨_,⟨rfl,h0⟩|⟨c,cap,rest,rfl,h1,h2,h3⟩⟩:=h
 ·exact absurd (aSc.mp h0) hne
 ·refine⟨c,cap,rest,rfl,?_⟩
  rw[h3,aCS];rfl
section
variable {H : aF} {m : Nat}
theorem aCU {v:Value}{ws:List Int}(hw:Is H v ws)(hok:wOk ws=true)(hm:ws.length+100<m)(hm2:m<=72057594037927936):
  ∃H' wh ww wl wc lc wr lr,lvl prog pkN m (.func 36) [v] H=some (pt wh,H')/\Ext H H'/\Blks (mF wh ww wl wc lc wr lr ws ⟨ws,0⟩) H'/\ww≠wl/\H.length<=wh/\H.length<=ww/\H.length<=wl:=by
 have hlen:=hw.gW;have hcf:lvl prog pkN (m-1) (.func 80) [v,.func (.func 79) #[] #[]] H=some (.bool (ws.any sV),H):=by
  have:=Yo (H:=H) (m:=m-1) (v:=v) (fv:= .func (.func 79) #[] #[]) (n:=ws.length) (λi=>(ws[i]?.map sV).getD false) hlen U U (λi hi=>by
   have hx:ws[i]? =some ws[i]:=aRW hi;obtain⟨b,o,g1,g2,g3⟩:=hw.fS gV hx .i64;have l1:=(g3 H rfl).2.1 0 _ rfl;refine⟨_,_,g1,l1,?_⟩;have:=Yt (m:=m-1-1-1) U ws[i] H
   rw[hx];exact this)
  rw[this,C6 ws sV _ λi x h=>by rw[h];rfl]
 unfold wOk at hok;simp only[Bool.not_eq_true',Bool.or_eq_false_iff,decide_eq_false_iff_not] at hok;obtain⟨c1,c2,c3⟩:=hok;have e1:((ws.length:Int)==0)=false:=by simpa using c1
 rw[c3] at hcf;have hne:ws≠[]:=λh=>c1 (by rw[h];rfl)
 obtain⟨H1,u1,g1,g2,g3,g4⟩:=Gy (m:=m-1) hw hne U U
 obtain⟨H2,u2,q1,q2,q3,q4⟩:=Gy (m:=m-1) (hw.ext g2) hne U U
 obtain⟨ww,wc,wr,rfl,b1⟩:=aCT g3 hne;obtain⟨wl,lc,lr,rfl,b2⟩:=aCT q3 hne;have n1:=g4 ww ⟨_,_,_,rfl⟩;have n2:=q4 wl ⟨_,_,_,rfl⟩;have hb:bld prog 171 [(0,lG ww ws.length wc),(1,lG wl ws.length lc)]=some (.agg #[lG ww ws.length wc,lG wl ws.length lc,.int .i64 0]):=rfl;have e6:H2++[Blk.cells (Value.cells (.agg #[lG ww ws.length wc,lG wl ws.length lc,.int .i64 0])).toList 171 .fix]=H2++[tD ww wl wc lc ws.length 0]:=rfl;have x3:Ext H2 (H2++[tD ww wl wc lc ws.length 0]):=Fr.app _ _ _;have l1:=dO b1;have l2:=g2.1;have l3:=q2.1;refine⟨H2++[tD ww wl wc lc ws.length 0],H2.length,ww,wl,wc,lc,wr,lr,cS (cH rfl) U ?_,(g2.tr q2).tr x3,λq hq=> ?_,by omega,by omega,n1,by omega⟩
 ·rw[C4]
  simp -implicitDefEqProofs only[gsR,hlen,e1,c2,decide_false,hcf,g1,q1,hb,e6]
 ·simp only[mF,aSd,aSk,or_false] at hq
  rcases hq with rfl|rfl|rfl
  ·exact eD _ _
  ·simp only
   rw[x3.2 _ U id,q2.2 _ l1 id,b1]
  ·simp only
   rw[x3.2 _ (dO b2) id,b2]
end
theorem aCW (y:Lay)(c:Cfg)(i:Nat):dV (fV y c i)=true:=by unfold fV nU;split<;>rfl
theorem aPV (y:Lay)(i k:Nat):dV (nI y i k)=true:=rfl
def DnB (c:Cfg)(n x i k:Nat):Prop:=(1<=i/\i<n/\k<c.lanes)∨(i=n/\k<x)
def nK (y:Lay)(c:Cfg)(n nw cs cr:Nat):Part->aF->Prop
 | .host=>λD=>HostAt D y.hb [] [] c.lanes c.queue
 | .whl i=>Blks (if i<nw then mF (y.wh i) (y.ww i) (y.wl i) (y.wc i) (y.lc i) (y.wr i) (y.lr i) c.weights ⟨c.weights,0⟩ else [])
 | .snd i k=>Blks (if DnB c n cs i k then [(y.sb i k,nH ⟨c.start,c.start+c.room⟩)] else [])
 | .rcv i k=>Blks (if DnB c n cr i k then [(y.rb i k,kK ⟨c.start,0⟩ c.room)] else [])
 |_=>Blks []
def tF (bag:Int)(ev wv nv:Value)(y:Lay)(c:Cfg)(pv:Value):Blk:=
 .cells [.pointer none,.I c.nodes,ev,.I c.lanes,.I c.room,.I c.queue,.I c.rounds,.I c.every,.I bag,wv,.int .u16 c.start,nv,.I c.me,pv,pt y.hb,.pointer none,.I 0] 89 .fix
structure BN (Hs H:aF)(F:Part->Nat->Prop)(bag:Int)(ev wv nv:Value)(y:Lay)(c:Cfg)(n nw cs cr:Nat)(pv:Value):Prop where
 ext:Ext Hs H
 sep:Sep (nK y c n nw cs cr) F H
 new: ∀b,Un F b->Hs.length<=b
 nb:H[y.nb]? =some (tF bag ev wv nv y c pv)
 nbF: ¬Un F y.nb
 nb0:Hs.length<=y.nb
 ports:Rw (fV y c) 94 3 H pv (List.range n)
 pvF: ∀b,cJ pv b->Hs.length<=b/\ ¬Un F b
 lanes: ∀i,1<=i->i<n->H[y.lb i]? =some (pK y c i)/\Hs.length<=y.lb i/\ ¬Un F (y.lb i)/\c.lanes<=y.lcap i
 lne: ∀i j,1<=i->i<n->1<=j->j<n->y.lb i=y.lb j->i=j
 ww: ∀i,i<nw->y.ww i≠y.wl i
theorem Ec (y:Lay)(c:Cfg)(n nw cs cr:Nat)(i:Part):DX (nK y c n nw cs cr i):=by
 cases i with
 |host=>exact λD D' h he=>h.ext he
 |_=>exact Blks.dx _
theorem vK {F:Part->Nat->Prop}{i:Part}{G:Nat->Prop}{b:Nat}(h:Un (updI F i G) b):Un F b∨G b:=by
 obtain⟨j,hj⟩:=h;by_cases hji:j=i
 ·rw[hji,iK] at hj
  exact .inr hj
 ·rw[eI _ _ hji] at hj
  exact .inl ⟨j,hj⟩
section
variable {Hs H : aF} {F : Part → Nat → Prop} {bag : Int} {ev wv nv : Value} {y : Lay} {c : Cfg} {n nw cs cr : Nat} {pv : Value}
theorem BN.aCV {H':aF}(h:BN Hs H F bag ev wv nv y c n nw cs cr pv)(he:Ext H H'):BN Hs H' F bag ev wv nv y c n nw cs cr pv:=by
 refine {h with ext:=h.ext.tr he,sep:=h.sep.ext (Ec _ _ _ _ _ _) he,nb:=by rw[he.2 _ (dO h.nb) id,h.nb],ports:=h.ports.eY λb hb=>he.2 b (h.ports.gU hb) id,lanes:=λi h1 h2=> ?_}
 obtain⟨q1,q2⟩:=h.lanes i h1 h2
 exact⟨by rw[he.2 _ (dO q1) id,q1],q2⟩
theorem BN.Su {H':aF}{y':Lay}{nw' cs' cr':Nat}(h:BN Hs H F bag ev wv nv y c n nw cs cr pv)(i:Part){l:List (Nat×Blk)}(hB:Blks l H')(he:Ext H H')(hn: ∀q∈l,H.length<=q.1)(hi: ∀b,¬F i b)
  (hcon: ∀j D,updI (nK y c n nw cs cr) i (Blks l) j D->nK y' c n nw' cs' cr' j D)(e1:y'.nb=y.nb)(e2:y'.hb=y.hb)(e3: ∀i,i<n->fV y' c i=fV y c i)(e4:y'.lb=y.lb)(e5:y'.lcap=y.lcap)(e6: ∀i,1<=i->i<n->pK y' c i=pK y c i)(e7: ∀i,i<nw'->y'.ww i≠y'.wl i):
  BN Hs H' (updI F i (InB l)) bag ev wv nv y' c n nw' cs' cr' pv:=by
 have hlt: ∀b,InB l b->b<H'.length:=λb hb=>by
  obtain⟨q,hq,rfl⟩:=hb;exact dO (hB q hq)
 have hge: ∀b,InB l b->H.length<=b:=λb hb=>by
  obtain⟨q,hq,rfl⟩:=hb;exact hn q hq
 have hhas:Has (Blks l) (InB l) H':=Has.Ja hB (λq hq=>⟨q,hq,rfl⟩) hlt
 have hs:=h.sep.Jb i (Ec _ _ _ _ _ _) hi hhas he hge;have hun: ∀b,b<H.length-> ¬Un F b-> ¬Un (updI F i (InB l)) b:=λb hb hF hu=>(vK hu).elim hF λhg=>by have:=hge b hg;omega
 refine⟨h.ext.tr he,hs.yZ hcon,λb hb=> ?_,?_,?_,by rw[e1];exact h.nb0,?_,λb hb=>⟨(h.pvF b hb).1,hun b (h.ports.gU hb) (h.pvF b hb).2⟩,λj h1 h2=> ?_,λi j=>by rw[e4];exact h.lne i j,e7⟩
 ·rcases vK hb with hb|hb
  ·exact h.new b hb
  ·exact aSa h.ext.1 (hge b hb)
 ·rw[e1,he.2 _ (dO h.nb) id,h.nb]
  unfold tF;rw[e2]
 ·rw[e1]
  exact hun _ (dO h.nb) h.nbF
 ·have hk:=h.ports.eY (H':=H') λb hb=>he.2 b (h.ports.gU hb) id
  have em:(List.range n).map (fV y' c)=(List.range n).map (fV y c):=List.map_congr_left λi hi=>e3 i (aSy.mp hi)
  unfold Rw at hk⊢;rw[em];exact hk
 ·obtain⟨q1,q2,q3,q4⟩:=h.lanes j h1 h2
  rw[e4,e5,e6 j h1 h2]
  exact⟨by rw[he.2 _ (dO q1) id,q1],q2,hun _ (dO q1) q3,q4⟩
theorem o5 {α:Type}(f:Nat->α)(i:Nat)(x:α):up1 f i x i=x:=if_pos rfl
theorem oS {α:Type}(f:Nat->α){i j:Nat}(x:α)(h:j≠i):up1 f i x j=f j:=if_neg h
theorem Jn {α:Type}(f:Nat->Nat->α)(i k:Nat)(x:α):up2 f i k x i k=x:=if_pos ⟨rfl,rfl⟩
theorem B4 {α:Type}(f:Nat->Nat->α){i k j l:Nat}(x:α)(h: ¬(j=i/\l=k)):up2 f i k x j l=f j l:=if_neg h
theorem BN.whl {H':aF}(h:BN Hs H F bag ev wv nv y c n n 0 0 pv)(hF: ∀i,n<=i-> ∀b,¬F (.whl i) b){wh ww wl wc lc:Nat}{wr lr:List Value}(hB:Blks (mF wh ww wl wc lc wr lr c.weights ⟨c.weights,0⟩) H')(he:Ext H H')(hne:ww≠wl)(h1:H.length<=wh)(h2:H.length<=ww)(h3:H.length<=wl):
  BN Hs H' (updI F (.whl n) (InB (mF wh ww wl wc lc wr lr c.weights ⟨c.weights,0⟩))) bag ev wv nv {y with wh:=up1 y.wh n wh,ww:=up1 y.ww n ww,wl:=up1 y.wl n wl,wc:=up1 y.wc n wc,lc:=up1 y.lc n lc,wr:=up1 y.wr n wr,lr:=up1 y.lr n lr} c n (n+1) 0 0 pv:=by
 refine h.Su (.whl n) hB he (λq hq=> ?_) (hF n (aRZ _)) (λj D hD=> ?_) rfl rfl (λi hi=> ?_) rfl rfl (λ_ _ _=>rfl) λi hi=> ?_
 ·simp only[mF,aSd,aSk,or_false] at hq
  rcases hq with rfl|rfl|rfl
  ·exact h1
  ·exact h2
  ·exact h3
 ·cases j with
  |whl i=>
   by_cases hi:i=n
   ·subst hi
    rw[iK] at hD;simp only[nK];rw[if_pos (Nat.lt_succ_self _),o5,o5,o5,o5,o5,o5,o5];exact hD
   ·rw[eI _ _ (λhh=>hi (by injection hh))] at hD
    simp only[nK] at hD⊢;rw[oS _ _ hi,oS _ _ hi,oS _ _ hi,oS _ _ hi,oS _ _ hi,oS _ _ hi,oS _ _ hi];by_cases hin:i<n
    ·rw[if_pos hin] at hD
     rw[if_pos U]
     exact hD
    ·rw[if_neg hin] at hD
     rw[if_neg U]
     exact hD
  |_=>
   rw[eI _ _ (λhh=>by cases hh)] at hD
   exact hD
 ·unfold fV nU
  simp only;rw[oS _ _ U]
 ·simp only
  by_cases hin:i=n
  ·subst hin
   rw[o5,o5];exact hne
  ·rw[oS _ _ hin,oS _ _ hin]
   exact h.ww i U
theorem BN.snd {k b:Nat}(h:BN Hs H F bag ev wv nv y c n (n+1) k k pv)(hF: ∀b,¬F (.snd n k) b)(hb:b=H.length):
  BN Hs (H++[nH ⟨c.start,c.start+c.room⟩]) (updI F (.snd n k) (InB [(b,nH ⟨c.start,c.start+c.room⟩)])) bag ev wv nv {y with sb:=up2 y.sb n k b} c n (n+1) (k+1) k pv:=by
 subst hb;refine h.Su (.snd n k) (λq hq=> ?_) (Fr.app _ _ _) (λq hq=> ?_) hF (λj D hD=> ?_) rfl rfl (λi hi=>rfl) rfl rfl (λi h1 h2=> ?_) h.ww
 ·simp only[aSd,aSk,or_false] at hq
  subst hq;exact eD _ _
 ·simp only[aSd,aSk,or_false] at hq
  subst hq;exact aRZ _
 ·cases j with
  |snd i k'=>
   by_cases hi:i=n/\k'=k
   ·obtain⟨rfl,rfl⟩:=hi
    rw[iK] at hD;simp only[nK];rw[if_pos (.inr ⟨rfl,Nat.lt_succ_self _⟩),Jn];exact hD
   ·rw[eI _ _ (λhh=>hi (by injection hh with h1 h2;exact⟨h1,h2⟩))] at hD
    simp only[nK] at hD⊢;rw[B4 _ _ hi];by_cases hd:DnB c n k i k'
    ·rw[if_pos hd] at hD
     rw[if_pos (by unfold DnB at hd ⊢; omega)]
     exact hD
    ·rw[if_neg hd] at hD
     rw[if_neg (by unfold DnB at hd ⊢; omega)]
     exact hD
  |_=>
   rw[eI _ _ (λhh=>by cases hh)] at hD
   exact hD
 ·have: ∀k',nI {y with sb:=up2 y.sb n k H.length} i k'=nI y i k':=λk'=>by
   unfold nI;simp only;rw[B4 _ _ U]
  unfold pK;rw[List.map_congr_left λk' _=>this k']
theorem BN.rcv {k b:Nat}(h:BN Hs H F bag ev wv nv y c n (n+1) (k+1) k pv)(hF: ∀b,¬F (.rcv n k) b)(hb:b=H.length):
  BN Hs (H++[kK ⟨c.start,0⟩ c.room]) (updI F (.rcv n k) (InB [(b,kK ⟨c.start,0⟩ c.room)])) bag ev wv nv {y with rb:=up2 y.rb n k b} c n (n+1) (k+1) (k+1) pv:=by
 subst hb;refine h.Su (.rcv n k) (λq hq=> ?_) (Fr.app _ _ _) (λq hq=> ?_) hF (λj D hD=> ?_) rfl rfl (λi hi=>rfl) rfl rfl (λi h1 h2=> ?_) h.ww
 ·simp only[aSd,aSk,or_false] at hq
  subst hq;exact eD _ _
 ·simp only[aSd,aSk,or_false] at hq
  subst hq;exact aRZ _
 ·cases j with
  |rcv i k'=>
   by_cases hi:i=n/\k'=k
   ·obtain⟨rfl,rfl⟩:=hi
    rw[iK] at hD;simp only[nK];rw[if_pos (.inr ⟨rfl,Nat.lt_succ_self _⟩),Jn];exact hD
   ·rw[eI _ _ (λhh=>hi (by injection hh with h1 h2;exact⟨h1,h2⟩))] at hD
    simp only[nK] at hD⊢;rw[B4 _ _ hi];by_cases hd:DnB c n k i k'
    ·rw[if_pos hd] at hD
     rw[if_pos (by unfold DnB at hd ⊢; omega)]
     exact hD
    ·rw[if_neg hd] at hD
     rw[if_neg (by unfold DnB at hd ⊢; omega)]
     exact hD
  |_=>
   rw[eI _ _ (λhh=>by cases hh)] at hD
   exact hD
 ·have: ∀k',nI {y with rb:=up2 y.rb n k H.length} i k'=nI y i k':=λk'=>by
   unfold nI;simp only;rw[B4 _ _ U]
  unfold pK;rw[List.map_congr_left λk' _=>this k']
theorem BN.St {H':aF}{N:Nat->Prop}{pv':Value}{n':Nat}(h:BN Hs H F bag ev wv nv y c n nw cs cr pv)(hf:Fr N H H')(hN: ∀b,N b-> ¬Un F b/\Hs.length<=b):
  Ext Hs H'/\Sep (nK y c n nw cs cr) F H':=by
 have hm:Mv N N H H':=⟨hf.1,λ_ h=> .inl h,λb hb hn=>hf.2 b hb hn⟩
 refine⟨⟨aSa h.ext.1 hf.1,λa ha _=> ?_⟩,h.sep.zA (Ec _ _ _ _ _ _) hm λa ha hh=>(hN a hh).1 ha⟩
 rw[hf.2 a (aR9 ha h.ext.1) (λhh=>by have:=(hN a hh).2;omega),h.ext.2 a ha id]
end
theorem aCY {α:Type}(f:α->Bool): ∀l:List α,l.length=(l.filter f).length+(l.filter λx=> !f x).length
 |[]=>rfl
 |x::l=>by
  have:=aCY f l;rw[List.filter_cons,List.filter_cons];cases f x
  ·simp
   omega
  ·simp
   omega
theorem aCX {p:PlanD}{me:Nat}(h:gY p=true)(hm:(me:Int)<p.nodes)(hs:0<=p.start/\p.start<65536):(kL p me).ok/\p.nodes=((kL p me).nodes:Int)/\p.lanes=((kL p me).lanes:Int)/\p.room=((kL p me).room:Int)/\p.queue=((kL p me).queue:Int)/\p.rounds=((kL p me).rounds:Int)/\p.every=((kL p me).every:Int)/\p.start=((kL p me).start:Int)/\
  (∀i,i<(bes p.edges me).length->(bes p.edges me)[i]? =some (((kL p me).by'.getD i 0:Nat):Int))/\wOk p.weights=true:=by
 obtain⟨n,hok⟩:=sW h;have h':=h;unfold gY rZ zC xB wi at h;simp only[aR2,decide_eq_true_eq,Bool.not_eq_true'] at h;obtain⟨⟨⟨a1,a2⟩,⟨b1,b2⟩,⟨c1,c2⟩,⟨d1,d2⟩,⟨e1,e2⟩,⟨f1,f2⟩,g1,g2⟩,⟨h3,h4⟩,hwl,hwo,h5,h6⟩:=h;have hw:=hwo;unfold wOk at hwo;simp only[Bool.not_eq_true',Bool.or_eq_false_iff,decide_eq_false_iff_not] at hwo;obtain⟨w1,w2,w3⟩:=hwo;rw[List.any_eq_false] at w3;have hmem: ∀w∈bes p.edges me,0<=w/\w<(n:Int)/\w≠me:=λw hw=>by
  rw[Zb] at hw;obtain⟨q1,q2⟩:=hw;rcases q2 with q2|q2
  ·have:=hok.ve.ok _ q2
   unfold okE at this;simp only at this;omega
  ·have:=hok.ve.ok _ q2
   unfold okE at this;simp only at this;omega
 have hn:=hok.hn;have hpw:=G9 p.edges me;have hlen:(bes p.edges me).length<=5:=by
  have k1:=Hf ((bes p.edges me).filter λw=>decide (w<me)) 0 ((me:Int)-1) (hpw.sublist List.filter_sublist) (λx hx=>by
   obtain⟨y1,y2⟩:=List.mem_filter.mp hx;have:=hmem x y1;rw[decide_eq_true_eq] at y2;omega) U
  have k2:=Hf ((bes p.edges me).filter λw=> !decide (w<me)) ((me:Int)+1) ((n:Int)-1) (hpw.sublist List.filter_sublist) (λx hx=>by
   obtain⟨y1,y2⟩:=List.mem_filter.mp hx;have:=hmem x y1;simp only[Bool.not_eq_true',decide_eq_false_iff_not] at y2;omega) U
  have k3:=aCY (λw=>decide (w<(me:Int))) (bes p.edges me)
  have:=hok.h6;omega
 have hget: ∀i,i<(bes p.edges me).length->(bes p.edges me)[i]? =some (((kL p me).by'.getD i 0:Nat):Int):=λi hi=>by
  have hx:=hmem _ (List.getElem_mem hi);show _=some (((((bes p.edges me).map Int.toNat).getD i 0:Nat)):Int)
  rw[aRY,aR7,aRW hi,Option.map_some,aSn,Int.toNat_of_nonneg hx.1]
 have hbl:(kL p me).by'.length=(bes p.edges me).length:=by show((bes p.edges me).map Int.toNat).length=_;simp
 refine⟨⟨?_,?_,?_,?_,?_,?_,?_,?_,?_,?_,?_,?_,?_,?_⟩,?_,?_,?_,?_,?_,?_,?_,hget,hw⟩
 ·show 2<=p.nodes.toNat/\p.nodes.toNat<=6
  omega
 ·show 1<=p.lanes.toNat/\p.lanes.toNat<=3
  omega
 ·show 1<=p.room.toNat/\p.room.toNat<=8
  omega
 ·show 1<=p.queue.toNat/\p.queue.toNat<=8
  omega
 ·show 1<=p.rounds.toNat/\p.rounds.toNat<=4
  omega
 ·show 1<=p.every.toNat/\p.every.toNat<=8
  omega
 ·show p.weights.length=p.lanes.toNat
  omega
 ·intro x hx
  have:=w3 x hx;unfold sV at this;simp only[Bool.or_eq_true,decide_eq_true_eq,not_or] at this;omega
 ·show p.start.toNat<65536
  omega
 ·show me<p.nodes.toNat
  omega
 ·rw[hbl]
  exact hlen
 ·intro w hw
  obtain⟨z,hz,rfl⟩:=aSx.mp hw;have:=hmem z hz;show z.toNat<p.nodes.toNat/\z.toNat≠me
  omega
 ·show((bes p.edges me).map Int.toNat).Nodup
  unfold List.Nodup;rw[List.pairwise_map];refine List.Pairwise.imp_of_mem (λ{a b} ha hb hab=> ?_) hpw
  have h1:=hmem a ha;have h2:=hmem b hb;omega
 ·intro d hd
  show(if d=me then 0 else _)<(kL p me).by'.length+1
  split
  ·omega
  ·split
   ·rename_i j hj
    have:=(List.findIdx?_eq_some_iff_getElem.mp hj).1;show j+1<((bes p.edges me).map Int.toNat).length+1
    omega
   ·omega
 ·show p.nodes=(p.nodes.toNat:Int)
  omega
 ·show p.lanes=(p.lanes.toNat:Int)
  omega
 ·show p.room=(p.room.toNat:Int)
  omega
 ·show p.queue=(p.queue.toNat:Int)
  omega
 ·show p.rounds=(p.rounds.toNat:Int)
  omega
 ·show p.every=(p.every.toNat:Int)
  omega
 ·show p.start=(p.start.toNat:Int)
  omega
def tG (c:Cfg)(n nw cs cr:Nat):Part->Prop
 | .host=>True
 | .whl i=>i<nw
 | .snd i k=>DnB c n cs i k
 | .rcv i k=>DnB c n cr i k
 |_=>False
def FE (F:Part->Nat->Prop)(c:Cfg)(n nw cs cr:Nat):Prop:= ∀j,¬tG c n nw cs cr j-> ∀b,¬F j b
theorem FE.Jo {F:Part->Nat->Prop}{c:Cfg}{n nw cs cr n' nw' cs' cr':Nat}{i:Part}{G:Nat->Prop}(h:FE F c n nw cs cr)(hi:tG c n' nw' cs' cr' i)(hm: ∀j,tG c n nw cs cr j->tG c n' nw' cs' cr' j):FE (updI F i G) c n' nw' cs' cr':=λj hj b hb=>by
 by_cases hji:j=i
 ·exact hj (by rw[hji];exact hi)
 ·rw[eI _ _ hji] at hb
  exact h j (λhd=>hj (hm j hd)) b hb
def Krow (H H':aF):Prop:= ∀(b:Nat)(cs:List Value),H[b]? =some (.cells cs 3 .row)->H'[b]? =some (.cells cs 3 .row)
theorem Krow.ext {H0 H H':aF}(h:Krow H0 H)(he:Ext H H'):Krow H0 H':=λb cs hb=>by
 have:=h b cs hb;rw[he.2 _ (dO this) id,this]
theorem Krow.iw {H H':aF}{v:Value}{zs:List Int}(h:Krow H H')(hv:Iw H v zs):Iw H' v zs:=hv.eY λb hb=>by
 obtain⟨cs,hc⟩:=hv.blk hb;rw[hc,h b cs hc]
section
variable {Hs H : aF} {F : Part → Nat → Prop} {bag : Int} {ev wv nv : Value} {y : Lay} {c : Cfg} {n nw cs cr : Nat} {pv : Value} {m : Nat}
theorem BN.aPW {H':aF}{N:Nat->Prop}(h:BN Hs H F bag ev wv nv y c n nw cs cr pv)(hf:Fr N H H')(hN: ∀b,N b->b<H.length-> ¬Un F b/\Hs.length<=b/\b≠y.nb/\ ¬cJ pv b/\ ∀i,1<=i->i<n->b≠y.lb i):BN Hs H' F bag ev wv nv y c n nw cs cr pv:=by
 have hf':Fr (λb=>N b/\b<H.length) H H':=⟨hf.1,λb hb hn=>hf.2 b hb λhh=>hn ⟨hh,hb⟩⟩
 obtain⟨x1,x2⟩:=h.St (pv':=pv) (n':=n) hf' λb hb=>⟨(hN b hb.1 hb.2).1,(hN b hb.1 hb.2).2.1⟩
 have hnb:=dO h.nb;refine {h with ext:=x1,sep:=x2,nb:= ?_,ports:=h.ports.eY λb hb=>hf.2 b (h.ports.gU hb) λhh=>(hN b hh (h.ports.gU hb)).2.2.2.1 hb,lanes:=λi h1 h2=> ?_}
 ·rw[hf.2 _ hnb (λhh=>(hN _ hh hnb).2.2.1 rfl),h.nb]
 ·obtain⟨q1,q2⟩:=h.lanes i h1 h2
  have hl:=dO q1
  exact⟨by rw[hf.2 _ hl (λhh=>(hN _ hh hl).2.2.2.2 i h1 h2 rfl),q1],q2⟩
structure XN (Hs H:aF)(F:Part->Nat->Prop)(y:Lay)(n k xb:Nat)(w:Nat)(lv:Value):Prop where
 blk:H[xb]? =some (.cells [.I w,lv,pt (y.wh n)] 94 .fix)
 xF: ¬Un F xb
 x0:Hs.length<=xb
 rows:Rw (nI y n) 100 2 H lv (List.range k)
 lvF: ∀b,cJ lv b->Hs.length<=b/\ ¬Un F b/\ ∀i,1<=i->i<n->b≠y.lb i
theorem aPX {b:Nat}{a1 a2:Nat}(H:aF):bld prog 100 [(0,pt a1),(1,pt a2)]=some (.agg #[pt a1,pt a2])/\dT 100 2 1 [.pointer none,.pointer none] [(0,.agg #[pt a1,pt a2])] H=some (.slice (some ⟨H.length,0,none⟩) 1 1,H++[.cells [pt a1,pt a2] 100 .row]):=⟨rfl,rfl⟩
theorem aPY {p:PlanD}{pl i w xb len:Nat}{bv:Value}(hok:c.ok)(hpl:Hs[pl]? =some (plB p ev wv nv))(h1:1<=n)(e3:p.room=(c.room:Int))(e9:p.start=(c.start:Int))(hm:50<m){nb:Nat}{Hb:aF}{K:Ex->K (Value×aF)}{Q:aF->Value->Prop}
    (hK: ∀H' F' y' lv,y'.nb=nb->BN Hs H' F' bag ev wv nv y' c n (n+1) c.lanes c.lanes pv->FE F' c n (n+1) c.lanes c.lanes->XN Hs H' F' y' n c.lanes xb w lv->Krow Hb H'-> ∀(x0 x1 x3 x4 x6 x7 x9 bS cE aV aR aS aQ aW aX aU bA bP bQ bO bK aY bC bE bG bH bI bJ bM bN bU cK cL cD bV bX bY b9 cA cF cM cO cP cT cU cV cW cY dJ dG dH cZ dP dS dQ dX eG eH eM eN eO eP eU eV eW fF fG fH fI fJ fK fL fM fN fO fP fQ fX fY fZ gB gJ gK gL gM iL iM iN iO iP iQ iR iS iT iV iW iX iY iZ jA jB jC jD jE jH jI jJ jK jL jM jO jQ jV jX jY jZ j7 j8:Value),∃H2 r,Pw (lvl prog pkN m) (aM m) K x0 x1 (pt pl) x3 x4 (pt nb) x6 x7 (pt xb) x9 bS cE aV aR aS aQ aW aX aU bA bP bQ bO bK aY bC bE bG bH bI bJ bM bN bU cK cL cD bV bX bY b9 cA cF cM cO cP cT bv (.I len) (.I (i:Nat)) cU cV cW cY dJ dG dH cZ dP dS dQ dX eG eH eM eN eO eP eU eV eW fF fG fH fI fJ fK fL fM fN fO fP fQ fX fY fZ gB gJ gK gL gM iL iM iN iO iP iQ iR iS iT iV iW iX iY iZ jA jB jC jD jE jH jI jJ jK jL jM jO jQ jV jX jY jZ j7 j8 H'=some (r,H2)/\Q H2 r):
    ∀(q k l:Nat)(H:aF)(F:Part->Nat->Prop)(y:Lay)(lv:Value),c.lanes-k=q->k<=c.lanes->q<l->y.nb=nb->BN Hs H F bag ev wv nv y c n (n+1) k k pv->FE F c n (n+1) k k->XN Hs H F y n k xb w lv->Krow Hb H-> ∀(x0 x1 x3 x4 x6 x7 x9 bS cE aV aR aS aQ aW aX aU bA bP bQ bO bK aY bC bE bG bH bI bJ bM bN bU cK cL cD bV bX bY b9 cA cF cM cO cP cT cU cV cW cY dJ dG dH cZ dP dX eG eH eM eN eO eP eU eV eW fF fG fH fI fJ fK fL fM fN fO fP fQ fX fY fZ gB gJ gK gL gM iL iM iN iO iP iQ iR iS iT iV iW iX iY iZ jA jB jC jD jE jH jI jJ jK jL jM jO jQ jV jX jY jZ j7 j8:Value),
    ∃H2 r,aM l (aN prog (lvl prog pkN m) (aM m) Pu) (Py (lvl prog pkN m) (aM m) K) [x0,x1,(pt pl),x3,x4,(pt nb),x6,x7,(pt xb),x9,bS,cE,aV,aR,aS,aQ,aW,aX,aU,bA,bP,bQ,bO,bK,aY,bC,bE,bG,bH,bI,bJ,bM,bN,bU,cK,cL,cD,bV,bX,bY,b9,cA,cF,cM,cO,cP,cT,bv,(.I len),(.I (i:Nat)),cU,cV,cW,cY,dJ,dG,dH,cZ,dP,(.I c.lanes),(.I (k:Nat)),dX,eG,eH,eM,eN,eO,eP,eU,eV,eW,fF,fG,fH,fI,fJ,fK,fL,fM,fN,fO,fP,fQ,fX,fY,fZ,gB,gJ,gK,gL,gM,iL,iM,iN,iO,iP,iQ,iR,iS,iT,iV,iW,iX,iY,iZ,jA,jB,jC,jD,jE,jH,jI,jJ,jK,jL,jM,jO,jQ,jV,jX,jY,jZ,j7,j8] H=some (r,H2)/\Q H2 r:=by
  intro q;induction q with
  |zero=>
    intro k l H F y lv hq hk hl hnb h hfe hx hkr;intros;obtain⟨l,rfl⟩: ∃l',l=l'+1:=⟨l-1,by omega⟩
    have hke:k=c.lanes:=U
    subst hke;have c1:decide ((c.lanes:Int)<(c.lanes:Int))=false:=by simp
    rw[aM,aAC];simp -implicitDefEqProofs only[gsR,c1];rw[aLj];exact hK H F y lv hnb h hfe hx hkr ..
  |succ q ih=>
    intro k l H F y lv hq hk hl hnb h hfe hx hkr;intros;obtain⟨l,rfl⟩: ∃l',l=l'+1:=⟨l-1,by omega⟩
    have h3:=hok.lanes.2;have hst:=hok.start;have hrm:=hok.room;have hkl:k<c.lanes:=U
    have c1:decide ((k:Int)<(c.lanes:Int))=true:=by rw[decide_eq_true_eq];omega
    have hpH: ∀G:aF,Ext Hs G->G[pl]? =some (plB p ev wv nv):=λG hG=>by rw[hG.2 _ (dO hpl) id,hpl]
    -- the ends
    obtain⟨H1,hH1⟩:=aD (H++[nH ⟨c.start,c.start+c.room⟩]);obtain⟨H2,hH2⟩:=aD (H1++[kK ⟨c.start,0⟩ c.room]);have x1:Ext H H1:=by rw[hH1];exact Fr.app _ _ _
    have x2:Ext H1 H2:=by rw[hH2];exact Fr.app _ _ _
    have h1l:H1.length=H.length+1:=by rw[hH1];simp
    have h2l:H2.length=H.length+2:=by rw[hH2];simp;omega
    have g1:=h.snd (hfe (.snd n k) (by unfold tG DnB;omega)) (b:=H.length) rfl
    rw[<-hH1] at g1;have fe1:FE _ c n (n+1) (k+1) k:=hfe.Jo (i:= .snd n k) (G:=InB [(H.length,nH ⟨c.start,c.start+c.room⟩)]) (n':=n) (nw':=n+1) (cs':=k+1) (cr':=k) (show DnB c n (k+1) n k from .inr ⟨rfl,by omega⟩) (λj hj=>by
      cases j<;>simp only[tG] at hj⊢ <;>(try exact hj)<;>(unfold DnB at hj ⊢; omega))
    have g2:=g1.rcv (fe1 (.rcv n k) (by unfold tG DnB;omega)) (b:=H1.length) rfl
    rw[<-hH2] at g2;have fe2:FE _ c n (n+1) (k+1) (k+1):=fe1.Jo (i:= .rcv n k) (G:=InB [(H1.length,kK ⟨c.start,0⟩ c.room)]) (n':=n) (nw':=n+1) (cs':=k+1) (cr':=k+1) (show DnB c n (k+1) n k from .inr ⟨rfl,by omega⟩) (λj hj=>by
      cases j<;>simp only[tG] at hj⊢ <;>(try exact hj)<;>(unfold DnB at hj ⊢; omega))
    obtain⟨F2,hF2⟩:=aD (updI (updI F (.snd n k) (InB [(H.length,nH ⟨c.start,c.start+c.room⟩)])) (.rcv n k) (InB [(H1.length,kK ⟨c.start,0⟩ c.room)]));obtain⟨y2,hy2⟩: ∃y2:Lay,y2={y with sb:=up2 y.sb n k H.length,rb:=up2 y.rb n k H1.length}:=⟨_,rfl⟩;rw[<-hF2] at g2 fe2;have g2:BN Hs H2 F2 bag ev wv nv y2 c n (n+1) (k+1) (k+1) pv:=by rw[hy2];exact g2
    have hun2: ∀b,b<H.length-> ¬Un F b-> ¬Un F2 b:=λb hb hF hu=>by
      rw[hF2] at hu;rcases vK hu with hu|⟨q,hq,rfl⟩
      · rcases vK hu with hu|⟨q,hq,rfl⟩
        · exact hF hu
        · simp only[aSd,aSk,or_false] at hq
          subst hq;simp at hb
      · simp only[aSd,aSk,or_false] at hq
        subst hq;simp only at hb;omega
    -- the row of one
    obtain⟨eb,es⟩:=aPX (b:=0) (a1:=H.length) (a2:=H1.length) H2;have hl2:nI y2 n k=[pt H.length,pt H1.length]:=by
      rw[hy2];unfold nI;simp only;rw[Jn,Jn]
    have hrow:Rw (nI y2 n) 100 2 H2 lv (List.range k):=by
      have hk0:=hx.rows.eY (H':=H2) λb hb=>(x1.tr x2).2 b (hx.rows.gU hb) id
      have em:(List.range k).map (nI y2 n)=(List.range k).map (nI y n):=List.map_congr_left λj hj=>by
        have hj:=aSy.mp hj;rw[hy2];unfold nI;simp only;rw[B4 _ _ U,B4 _ _ U]
      unfold Rw at hk0⊢;rw[em];exact hk0
    have hw1:Rr (nI y2 n) 100 (H2++[.cells [pt H.length,pt H1.length] 100 .row]) (.slice (some ⟨H2.length,0,none⟩) 1 1) [k]:=by
      have:=yW (el:=nI y2 n) (e:=100) k H2;rw[hl2] at this;exact this
    obtain⟨H3,hH3⟩:=aD (H2++[Blk.cells [pt H.length,pt H1.length] 100 .row]);have h3l:H3.length=H2.length+1:=by rw[hH3];simp
    obtain⟨lv',H4,k1,k2,k3,k4,k5⟩:=(hrow.wY [Blk.cells [pt H.length,pt H1.length] 100 .row]).yX (aCw y2 n) (aPV y2 n) aC (by':=16) hw1.rs (iE (n:=1000) aC (by simp;omega))
    rw[<-hH3] at k1 k3 k4 k5 es;rw[<-aSt] at k2
    -- stored
    have hxl:=dO hx.blk;have hlvx: ¬cJ lv xb:=λhh=>by
      obtain⟨cs',hc'⟩:=hx.rows.blk hh;rw[hx.blk] at hc';injection hc' with hc';injection hc' with _ _ h3;cases h3
    have bx2:H2[xb]? =some (.cells [.I w,lv,pt (y.wh n)] 94 .fix):=by rw[(x1.tr x2).2 _ hxl id,hx.blk]
    have bx1:H1[xb]? =some (.cells [.I w,lv,pt (y.wh n)] 94 .fix):=by rw[x1.2 _ hxl id,hx.blk]
    have bx4:H4[xb]? =some (.cells [.I w,lv,pt (y.wh n)] 94 .fix):=by rw[k4 xb U hlvx,hH3,aRX U,bx2]
    have sh:=B3 k2;obtain⟨H5,hH5⟩:=aD (H4.set xb (.cells [.I w,lv',pt (y.wh n)] 94 .fix));have st:stN 1 (.Q xb 1) lv' H4=some (undef,H5):=by rw[hH5];exact qN bx4 aC (by simp) sh.1 sh.2
    have hfr:Fr (λb=>b=xb∨cJ lv b) H2 H5:=⟨by rw[hH5];simp;omega,λb hb hn=>by
      rw[hH5,aRV (λhh=>hn (.inl hh.symm)),k4 b U (λhh=>hn (.inr hh)),hH3,aRX hb]⟩
    have hnbx:xb≠y.nb:=λhh=>by
      have:=h.nb;rw[<-hh,hx.blk] at this;injection this with this;injection this with _ h2 _
      revert h2
      decide
    have hpvx: ¬cJ pv xb:=λhh=>by
      obtain⟨cs',hc'⟩:=h.ports.blk hh;rw[hx.blk] at hc';injection hc' with hc';injection hc' with _ _ h3;cases h3
    have hlbx: ∀i,1<=i->i<n->xb≠y.lb i:=λi a b hh=>by
      have:=(h.lanes i a b).1;rw[<-hh,hx.blk] at this;injection this with this;injection this with _ _ h3;cases h3
    have g5:BN Hs H5 F2 bag ev wv nv y2 c n (n+1) (k+1) (k+1) pv:=by
      refine g2.aPW hfr λb hb hbl=> ?_
      have e1:y2.nb=y.nb:=by rw[hy2]
      have e2:y2.lb=y.lb:=by rw[hy2]
      rw[e1,e2];rcases hb with rfl|hb
      · exact⟨hun2 _ hxl hx.xF,hx.x0,hnbx,hpvx,hlbx⟩
      · obtain⟨q1,q2,q3⟩:=hx.lvF b hb
        have hbH:=hx.rows.gU hb;refine⟨hun2 _ hbH q2,q1,λhh=> ?_,λhh=> ?_,q3⟩
        · obtain⟨cs',hc'⟩:=hx.rows.blk hb
          rw[hh,h.nb] at hc';injection hc' with hc';injection hc' with _ _ h3;cases h3
        · obtain⟨cs',hc'⟩:=hx.rows.blk hb
          obtain⟨cs2,hc2⟩:=h.ports.blk hh;rw[hc'] at hc2;injection hc2 with hc2;injection hc2 with _ h2 _
          revert h2
          decide
    have hwh:y2.wh=y.wh:=by rw[hy2]
    have hlv'x: ¬cJ lv' xb:=λhh=>by
      rcases k5 xb hh with hh|hh
      · exact hlvx hh
      · omega
    have hx5:XN Hs H5 F2 y2 n (k+1) xb w lv':=by
      refine⟨by rw[hwh,hH5];exact fW bx4,hun2 _ hxl hx.xF,hx.x0,k2.eY λb hb=>by rw[hH5];exact aRV λhh=>hlv'x (by rw[hh];exact hb),λb hb=> ?_⟩
      have e2:y2.lb=y.lb:=by rw[hy2]
      rw[e2];have hsl:=h.ext.1;rcases k5 b hb with hb|hb
      · obtain⟨q1,q2,q3⟩:=hx.lvF b hb
        exact⟨q1,hun2 _ (hx.rows.gU hb) q2,q3⟩
      · refine⟨by omega,λhu=>by have:=g2.sep.rD b hu;omega,λi a b' hh=> ?_⟩
        have:=dO (h.lanes i a b').1;omega
    -- the walk
    have hp0:=hpH H h.ext;have hp1:=hpH H1 (h.ext.tr x1);have l9:ld1 (.Q pl 9) H=some (.int .u16 c.start,H):=by rw[eC hp0 9 (.int .u16 p.start) rfl,e9]
    have l3:ld1 (.Q pl 3) H=some (.I c.room,H):=by rw[eC hp0 3 (.I p.room) rfl,e3]
    have l9':ld1 (.Q pl 9) H1=some (.int .u16 c.start,H1):=by rw[eC hp1 9 (.int .u16 p.start) rfl,e9]
    have l3':ld1 (.Q pl 3) H1=some (.I c.room,H1):=by rw[eC hp1 3 (.I p.room) rfl,e3]
    have ecs:IntKind.u64.wrap (c.start:Int)=(c.start:Int):=Bi _ U
    have s1:=aMv (H:=H) (m:=m) U c.start c.room hst hrm
    have s2:=aMt (H:=H1) (m:=m) U c.start c.room hst hrm
    rw[<-hH1] at s1;rw[<-hH2] at s2;have lx:ld1 (.pointer (some ⟨xb,1,none⟩)) H=some (lv,H):=dI hx.blk rfl;have lx1:ld1 (.pointer (some ⟨xb,1,none⟩)) H1=some (lv,H1):=dI bx1 rfl;have lx2:ld1 (.pointer (some ⟨xb,1,none⟩)) H2=some (lv,H2):=dI bx2 rfl;have lvc:=λG=>aCN hx.rows G
    have ek:=pI k U
    rw[aM,aAC];simp -implicitDefEqProofs only[gsR,c1,lx,l9,l3,fU _ _ oG sF,ecs,s1,lx1,lvc,l9',D4,l3',s2,lx2,eb,es,k1,st,cR,ek];refine ih (k+1) l H5 F2 y2 lv' U U U (by rw[hy2];exact hnb) g5 fe2 hx5 (λb cs hb=> ?_) ..
    have hb2:=(hkr.ext (x1.tr x2)) b cs hb;rw[hfr.2 b (dO hb2) (λhh=> ?_),hb2]
    rcases hh with rfl|hh
    · rw[bx2] at hb2
      injection hb2 with hb2;injection hb2 with _ _ h3;cases h3
    · obtain⟨cs',hc'⟩:=hrow.blk hh
      rw[hb2] at hc';injection hc' with hc';injection hc' with _ h2 _
      revert h2
      decide
end
theorem Sep.aP0 {ι:Type}{A:ι->aF->Prop}{F:ι->Nat->Prop}{H:aF}(h:Sep A F H)(i:ι)(hi: ∀b,¬F i b){B:aF->Prop}{G:Nat->Prop}(hB:Has B G H)(hd: ∀b,G b-> ¬Un F b):Sep (updI A i B) (updI F i G) H:=by
 refine⟨λj=> ?_,λj k b hj hk=> ?_⟩
 ·by_cases hji:j=i
  ·rw[hji,iK,iK]
   exact hB
  ·rw[eI _ _ hji,eI _ _ hji]
   exact h.own j
 ·by_cases hji:j=i
  ·by_cases hki:k=i
   ·rw[hji,hki]
   ·rw[hji,iK] at hj
    rw[eI _ _ hki] at hk;exact absurd ⟨k,hk⟩ (hd b hj)
  ·rw[eI _ _ hji] at hj
   by_cases hki:k=i
   ·rw[hki,iK] at hk
    exact absurd ⟨j,hj⟩ (hd b hk)
   ·rw[eI _ _ hki] at hk
    exact h.sep j k b hj hk
section
variable {Hs H : aF} {F : Part → Nat → Prop} {bag : Int} {ev wv nv : Value} {y : Lay} {c : Cfg} {n nw cs cr : Nat} {pv : Value} {m : Nat}
theorem Ee (hn:1<=n)(i k:Nat):DnB c n c.lanes i k↔DnB c (n+1) 0 i k:=by
 unfold DnB
 constructor<;>intro h<;>omega
theorem BN.aPZ {w xb:Nat}{lv:Value}(h:BN Hs H F bag ev wv nv y c n (n+1) c.lanes c.lanes pv)(hfe:FE F c n (n+1) c.lanes c.lanes)(hx:XN Hs H F y n c.lanes xb w lv)(hn:1<=n)(hn6:n<=6)(hl:1<=c.lanes)(hw:w=lL c n):
  ∃y' pv' H3 H4 H',y'.nb=y.nb/\dT 94 3 1 [.I 0,.slice none 0 0,.pointer none] [(0,.agg #[.I w,lv,pt (y.wh n)])] H=some (.slice (some ⟨H.length,0,none⟩) 1 1,H3)/\Go.Abs.app 94 3 40 pv (.slice (some ⟨H.length,0,none⟩) 1 1) H3=some (pv',H4)/\
   stN 1 (.Q y.nb 13) pv' H4=some (undef,H')/\BN Hs H' F bag ev wv nv y' c (n+1) (n+1) 0 0 pv'/\FE F c (n+1) (n+1) 0 0/\Krow H H':=by
 obtain⟨b,cap,rest,hlv,hcap,hlb⟩: ∃b cap rest,lv= .slice (some ⟨b,0,none⟩) c.lanes cap/\c.lanes<=cap/\H[b]? =some (.cells (((List.range c.lanes).map (nI y n)).flatten++rest) 100 .row):=by
  obtain⟨_,⟨_,h0⟩|⟨c',cap,rest,h1,h2,_,h3⟩⟩:=hx.rows
  ·rw[aSo] at h0
   omega
  ·rw[aSo] at h1 h2
   exact⟨c',cap,rest,h1,h2,h3⟩
 obtain⟨y',hy'⟩: ∃y':Lay,y'={y with lb:=up1 y.lb n b,lcap:=up1 y.lcap n cap,lrest:=up1 y.lrest n rest}:=⟨_,rfl⟩;have hbF:=hx.lvF b (by rw[hlv];exact⟨_,_,_,rfl⟩)
 have hpo: ∀i,i<n->fV y' c i=fV y c i:=λi hi=>by
  rw[hy'];unfold fV nU;simp only;rw[oS _ _ U,oS _ _ U]
 have hpn:fV y' c n=[.I w,lv,pt (y.wh n)]:=by
  rw[hy',hw,hlv];unfold fV nU;simp only;rw[if_neg U,o5,o5]
 have hrw:Rw (fV y' c) 94 3 H pv (List.range n):=by
  have:=h.ports;unfold Rw at this⊢;rw[List.map_congr_left λi hi=>hpo i (aSy.mp hi)]
  exact this
 have eb:dT 94 3 1 [.I 0,.slice none 0 0,.pointer none] [(0,.agg #[.I w,lv,pt (y.wh n)])] H=some (.slice (some ⟨H.length,0,none⟩) 1 1,H++[.cells [.I w,lv,pt (y.wh n)] 94 .row]):=by
  rw[hlv];rfl
 have hw1:Rr (fV y' c) 94 (H++[.cells [.I w,lv,pt (y.wh n)] 94 .row]) (.slice (some ⟨H.length,0,none⟩) 1 1) [n]:=by
  have:=yW (el:=fV y' c) (e:=94) n H;rw[hpn] at this;exact this
 obtain⟨pv',H4,k1,k2,k3,k4,k5⟩:=(hrw.wY [Blk.cells [.int .i64 w,lv,pt (y.wh n)] 94 .row]).yX (D7 y' c) (aCW y' c) aC (by':=40) hw1.rs (iE (n:=1000) aC (by simp;omega))
 rw[<-aSt] at k2;have hlen:(H++[Blk.cells [.int .i64 w,lv,pt (y.wh n)] 94 .row]).length=H.length+1:=by simp
 rw[hlen] at k3 k4 k5;have hnl:=dO h.nb;have hnpv: ¬cJ pv y.nb:=λhh=>by
  obtain⟨cs',hc'⟩:=h.ports.blk hh;rw[h.nb] at hc';injection hc' with hc';injection hc' with _ _ h3;cases h3
 have bn4:H4[y.nb]? =some (tF bag ev wv nv y c pv):=by rw[k4 _ U hnpv,aRX hnl,h.nb]
 have sh:=B3 k2;have st:stN 1 (.Q y.nb 13) pv' H4=some (undef,H4.set y.nb (tF bag ev wv nv y c pv')):=qN bn4 aC (by simp) sh.1 sh.2
 have hfr:Fr (λb=>b=y.nb∨cJ pv b) H (H4.set y.nb (tF bag ev wv nv y c pv')):=⟨by simp;omega,λb hb hn=>by
  rw[aRV (λhh=>hn (.inl hh.symm)),k4 b U (λhh=>hn (.inr hh)),aRX hb]⟩
 have hNF: ∀b,(b=y.nb∨cJ pv b)-> ¬Un F b/\Hs.length<=b:=λb hb=>by
  rcases hb with rfl|hb
  ·exact⟨h.nbF,h.nb0⟩
  ·exact⟨(h.pvF b hb).2,(h.pvF b hb).1⟩
 obtain⟨x1,x2⟩:=h.St (pv':=pv) (n':=n) hfr hNF;have hlkeep: ∀(a:Nat)(cs':List Value),H[a]? =some (.cells cs' 100 .row)->(H4.set y.nb (tF bag ev wv nv y c pv'))[a]? =some (.cells cs' 100 .row):=λa cs' ha=>by
  rw[hfr.2 a (dO ha) (λhh=> ?_),ha]
  rcases hh with rfl|hh
  ·rw[h.nb] at ha
   injection ha with ha;injection ha with _ _ h3;cases h3
  ·obtain⟨cs2,hc2⟩:=h.ports.blk hh
   rw[ha] at hc2;injection hc2 with hc2;injection hc2 with _ h2 _
   revert h2
   decide
 have hpvn: ¬cJ pv' y.nb:=λhh=>by
  rcases k5 _ hh with hh|hh
  ·exact hnpv hh
  ·omega
 have hsl:=h.ext.1;refine⟨y',pv',_,H4,_,by rw[hy'],eb,k1,st,?_,λj hj=>hfe j λhd=>hj ?_,λb cs hb=> ?_⟩
 ·refine⟨x1,x2.yZ λj D hD=> ?_,h.new,?_,by rw[hy'];exact h.nbF,by rw[hy'];exact h.nb0,k2.eY λb hb=>aRV λhh=>hpvn (by rw[hh];exact hb),λb hb=> ?_,λi h1 h2=> ?_,λi j a1 a2 a3 a4 he=> ?_,by rw[hy'];exact h.ww⟩
  ·rw[hy']
   cases j with
   |snd i k=>
    simp only[nK] at hD⊢;by_cases hd:DnB c n c.lanes i k
    ·rw[if_pos hd] at hD
     rw[if_pos ((Ee hn i k).mp hd)];exact hD
    ·rw[if_neg hd] at hD
     rw[if_neg (λhh=>hd ((Ee hn i k).mpr hh))]
     exact hD
   |rcv i k=>
    simp only[nK] at hD⊢;by_cases hd:DnB c n c.lanes i k
    ·rw[if_pos hd] at hD
     rw[if_pos ((Ee hn i k).mp hd)];exact hD
    ·rw[if_neg hd] at hD
     rw[if_neg (λhh=>hd ((Ee hn i k).mpr hh))]
     exact hD
   |_=>exact hD
  ·rw[hy']
   exact fW bn4
  ·rcases k5 b hb with hb|hb
   ·exact h.pvF b hb
   ·exact⟨by omega,λhu=>by have:=h.sep.rD b hu;omega⟩
  ·by_cases hin:i=n
   ·subst hin
    have e1:y'.lb i=b:=by rw[hy'];exact o5 _ _ _
    have e2:y'.lcap i=cap:=by rw[hy'];exact o5 _ _ _
    have e3:pK y' c i= .cells (((List.range c.lanes).map (nI y i)).flatten++rest) 100 .row:=by
     rw[hy'];unfold pK;simp only;rw[o5];rfl
    rw[e1,e2,e3]
    exact⟨hlkeep _ _ hlb,hbF.1,hbF.2.1,hcap⟩
   ·obtain⟨q1,q2,q3,q4⟩:=h.lanes i h1 U
    have e1:y'.lb i=y.lb i:=by rw[hy'];exact oS _ _ hin
    have e2:y'.lcap i=y.lcap i:=by rw[hy'];exact oS _ _ hin
    have e3:pK y' c i=pK y c i:=by
     rw[hy'];unfold pK;simp only;rw[oS _ _ hin];rfl
    rw[e1,e2,e3]
    exact⟨hlkeep _ _ q1,q2,q3,q4⟩
  ·have e1: ∀i,y'.lb i=up1 y.lb n b i:=λi=>by rw[hy']
   rw[e1,e1] at he;by_cases hi:i=n
   ·by_cases hj:j=n
    ·rw[hi,hj]
    ·rw[hi,o5,oS _ _ hj] at he
     exact absurd he (hbF.2.2 j a3 U)
   ·by_cases hj:j=n
    ·rw[hj,o5,oS _ _ hi] at he
     exact absurd he.symm (hbF.2.2 i a1 U)
    ·rw[oS _ _ hi,oS _ _ hj] at he
     exact h.lne i j a1 U a3 U he
 ·cases j<;>simp only[tG] at hd⊢ <;>(try exact hd)<;>exact(Ee hn _ _).mp hd
 ·rw[hfr.2 b (dO hb) (λhh=> ?_),hb]
  rcases hh with rfl|hh
  ·rw[h.nb] at hb
   injection hb with hb;injection hb with _ _ h3;cases h3
  ·obtain⟨cs2,hc2⟩:=h.ports.blk hh
   rw[hb] at hc2;injection hc2 with hc2;injection hc2 with _ h2 _
   revert h2
   decide
end
section
variable {Hs H : aF} {F : Part → Nat → Prop} {ev wv nv : Value} {y : Lay} {c : Cfg} {p : PlanD} {m : Nat}
def Sv (Hs:aF)(p:PlanD)(ev wv nv:Value)(c:Cfg)(H':aF)(r:Value):Prop:= ∃F y,r=pt y.nb/\NodeAt Hs H' F y p ev wv nv c 0 (NS.mY c)
theorem aCZ (a b:Nat)(h:a*b<100000):IntKind.i64.wrap ((a:Int)*b)=((a*b:Nat):Int):=by
 have e:(a:Int)*b=((a*b:Nat):Int):=by push_cast;rfl
 rw[e];exact dL U U
theorem aP1 {pl:Nat}{pv:Value}(hok:c.ok)(hc:c=kL p c.me)(hop: ∃n,OkP p n)(hPV:PV Hs p ev wv nv)(hpl:Hs[pl]? =some (plB p ev wv nv))(e2:p.lanes=(c.lanes:Int))(e3:p.room=(c.room:Int))(hm:400<m)
    (h:BN Hs H F p.bag ev wv nv y c c.aK c.aK 0 0 pv)(hfe:FE F c c.aK c.aK 0 0): ∀(x0 x1 x3 x4 x6 x7 x8 x9 bS cE aV aR aS aQ aW aX aU bA bP bQ bO bK aY bC bE bG bH bI bJ bM bN bU cK cL cD bV bX bY b9 cA cF cM cO cP cT dB dE dF cU cV cW cY dJ dG dH cZ dP dS dQ dX eG eH eM eN eO eP eU eV eW fF fG fH fI fJ fK fL fM fN fO fP fQ fX fY fZ gB gJ gK gL gM iL iM iN iO iP iQ iR iS iT iV iW iX iY iZ jA jB jC jD jE jH jI jJ jK jL jM jO jQ jV jX jY jZ j7 j8:Value),
    ∃H2 r,Pv (lvl prog pkN m) (aM m) x0 x1 (pt pl) x3 x4 (pt y.nb) x6 x7 x8 x9 bS cE aV aR aS aQ aW aX aU bA bP bQ bO bK aY bC bE bG bH bI bJ bM bN bU cK cL cD bV bX bY b9 cA cF cM cO cP cT dB dE dF cU cV cW cY dJ dG dH cZ dP dS dQ dX eG eH eM eN eO eP eU eV eW fF fG fH fI fJ fK fL fM fN fO fP fQ fX fY fZ gB gJ gK gL gM iL iM iN iO iP iQ iR iS iT iV iW iX iY iZ jA jB jC jD jE jH jI jJ jK jL jM jO jQ jV jX jY jZ j7 j8 H=some (r,H2)/\Sv Hs p ev wv nv c H2 r:=by
  intros;have h6:c.aK<=6:=by have:=hok.by';unfold Cfg.aK;omega
  have hp1:1<=c.aK:=by unfold Cfg.aK;omega
  have hlanes:=hok.lanes;have hroom:=hok.room
  -- the ports' slice
  obtain⟨pb,pcap,prest,hpv,hpc,hpb⟩: ∃b cap rest,pv= .slice (some ⟨b,0,none⟩) c.aK cap/\c.aK<=cap/\H[b]? =some (.cells (((List.range c.aK).map (fV y c)).flatten++rest) 94 .row):=by
    obtain⟨_,⟨_,h0⟩|⟨c',cap,rest,h1,h2,_,h3⟩⟩:=h.ports
    · rw[aSo] at h0
      omega
    · rw[aSo] at h1 h2
      exact⟨c',cap,rest,h1,h2,h3⟩
  have hpbF:=h.pvF pb (by rw[hpv];exact⟨_,_,_,rfl⟩)
  have n13:ld1 (.Q y.nb 13) H=some (pv,H):=dI h.nb rfl;have lpv:aZ pv=some (.I c.aK):=by rw[hpv];rfl
  -- the arbiter
  obtain⟨ab,ga,aa,H1,a1,a2,a3,x1,a4,a5,a6⟩:=aOD (H:=H) (m:=m) (n:=c.aK) hp1 U U
  have hA1:Has (Blks (kE ab ga aa (List.replicate c.aK 0) (List.replicate c.aK 0))) (InB (kE ab ga aa (List.replicate c.aK 0) (List.replicate c.aK 0))) H1:=
    Has.Ja a2 (λq hq=>⟨q,hq,rfl⟩) λb ⟨q,hq,hb⟩=>by rw[<-hb];exact dO (a2 q hq)
  have hge1: ∀b,InB (kE ab ga aa (List.replicate c.aK 0) (List.replicate c.aK 0)) b->H.length<=b:=λb ⟨q,hq,hb⟩=>by
    rw[<-hb];simp only[kE,aSd,aSk,or_false] at hq;rcases hq with rfl|rfl|rfl
    · exact a4
    · exact a5
    · exact a6
  have sep1:=h.sep.Jb .arb (Ec _ _ _ _ _ _) (hfe .arb id) hA1 x1 hge1;obtain⟨F1,hF1⟩:=aD (updI F .arb (InB (kE ab ga aa (List.replicate c.aK 0) (List.replicate c.aK 0))));obtain⟨A1,hA1'⟩: ∃A1,A1=updI (nK y c c.aK c.aK 0 0) .arb (Blks (kE ab ga aa (List.replicate c.aK 0) (List.replicate c.aK 0))):=⟨_,rfl⟩;rw[<-hF1,<-hA1'] at sep1;have dx1: ∀j,DX (A1 j):=λj=>by
    rw[hA1'];unfold updI;split
    · exact Blks.dx _
    · exact Ec _ _ _ _ _ _ j
  have hun1: ∀b,b<H.length-> ¬Un F b-> ¬Un F1 b:=λb hb hF hu=>by
    rw[hF1] at hu
    exact(vK hu).elim hF λhg=>by have:=hge1 b hg;omega
  have bn1:H1[y.nb]? =some (tF p.bag ev wv nv y c pv):=by rw[x1.2 _ (dO h.nb) id,h.nb]
  -- stored
  obtain⟨H2,hH2⟩:=aD (H1.set y.nb (.cells [pt ab,.I c.nodes,ev,.I c.lanes,.I c.room,.I c.queue,.I c.rounds,.I c.every,.I p.bag,wv,.int .u16 c.start,nv,.I c.me,pv,pt y.hb,.pointer none,.I 0] 89 .fix));have st1:stN 1 (.Q y.nb 0) (pt ab) H1=some (undef,H2):=by rw[hH2];exact qN bn1 aC (by simp) rfl rfl
  have bn2:H2[y.nb]? =some (.cells [pt ab,.I c.nodes,ev,.I c.lanes,.I c.room,.I c.queue,.I c.rounds,.I c.every,.I p.bag,wv,.int .u16 c.start,nv,.I c.me,pv,pt y.hb,.pointer none,.I 0] 89 .fix):=by rw[hH2];exact fW bn1
  have fr2:Fr (λb=>b=y.nb) H1 H2:=⟨by rw[hH2];simp,λb hb hn=>by rw[hH2,aRV (λhh=>hn hh.symm)]⟩
  have nbl:=dO h.nb;have nbF1:=hun1 _ nbl h.nbF;have mv2:Mv (λb=>b=y.nb) (λb=>b=y.nb) H1 H2:=⟨fr2.1,λ_ h=> .inl h,λb hb hn=>fr2.2 b hb hn⟩
  have sep2:=sep1.zA dx1 mv2 λb hb hh=>nbF1 (by rw[<-hh];exact hb)
  -- the rings
  have hroom2:=aCK hok;have hpos:1<=c.aK*c.lanes*c.room:=Nat.mul_pos (Nat.mul_pos U U) U
  obtain⟨r,H3,G3,r1,r2,x3,r3⟩:=Has.aB6 (A:=λ_=>True) (H:=H2) tW (n:=m) (B:=λr D'=> ∃a,r=pt a/\RingsN D' a [] (c.aK*c.lanes*c.room) c.aK c.lanes) (λD _ _=>by
    obtain⟨a,D',g1,g2,_,_⟩:=aNS (D:=D) (m:=m) U c.aK c.lanes (c.aK*c.lanes*c.room) ⟨hp1,by omega,hlanes.1,hlanes.2,hpos,by omega⟩
    exact⟨_,D',g1,a,rfl,g2⟩)
  obtain⟨rg,hrg,_⟩:=r2.at_;have r2':Has (λD=>RingsN D rg [] (c.aK*c.lanes*c.room) c.aK c.lanes) G3 H3:=Has.xY r2 λD ⟨a,ha,hD⟩=>by
    rw[hrg] at ha;injection ha with ha;injection ha with ha;injection ha with ha;rw[ha];exact hD
  have fr1: ∀b,¬F1 .rings b:=λb hb=>by
    rw[hF1,eI _ _ (λhh=>by cases hh)] at hb
    exact hfe .rings id b hb
  have sep3:=sep2.Jb .rings dx1 fr1 r2' x3 r3;obtain⟨F3,hF3⟩:=aD (updI F1 .rings G3);obtain⟨A3,hA3⟩:=aD (updI A1 .rings (λD=>RingsN D rg [] (c.aK*c.lanes*c.room) c.aK c.lanes))
  rw[<-hF3,<-hA3] at sep3;have dx3: ∀j,DX (A3 j):=λj=>by
    rw[hA3];unfold updI;split
    · exact λD D' h he=>h.ext he
    · exact dx1 j
  have hl12:=fr2.1;have hl01:=x1.1;have hun3: ∀b,b<H.length-> ¬Un F b-> ¬Un F3 b:=λb hb hF hu=>by
    rw[hF3] at hu
    exact(vK hu).elim (hun1 b hb hF) λhg=>by have:=r3 b hg;omega
  have bn3:H3[y.nb]? =some (.cells [pt ab,.I c.nodes,ev,.I c.lanes,.I c.room,.I c.queue,.I c.rounds,.I c.every,.I p.bag,wv,.int .u16 c.start,nv,.I c.me,pv,pt y.hb,.pointer none,.I 0] 89 .fix):=by rw[x3.2 _ (dO bn2) id,bn2]
  -- stored
  obtain⟨y',hy'⟩: ∃y':Lay,y'={y with pb:=pb,pcap:=pcap,prest:=prest,ab:=ab,ga:=ga,aa:=aa,rg:=rg}:=⟨_,rfl⟩;have hnc:Blk.cells [pt ab,.int .i64 c.nodes,ev,.int .i64 c.lanes,.int .i64 c.room,.int .i64 c.queue,.int .i64 c.rounds,.int .i64 c.every,.int .i64 p.bag,wv,.int .u16 c.start,nv,.int .i64 c.me,pv,pt y.hb,pt rg,.int .i64 0] 89 .fix=xX p.bag ev wv nv y' c 0:=by
    rw[hy',hpv];rfl
  obtain⟨H4,hH4⟩:=aD (H3.set y.nb (xX p.bag ev wv nv y' c 0));have st2:stN 1 (.Q y.nb 15) (pt rg) H3=some (undef,H4):=by rw[hH4,<-hnc];exact qN bn3 aC (by simp) rfl rfl
  have fr4:Fr (λb=>b=y.nb) H3 H4:=⟨by rw[hH4];simp,λb hb hn=>by rw[hH4,aRV (λhh=>hn hh.symm)]⟩
  have mv4:Mv (λb=>b=y.nb) (λb=>b=y.nb) H3 H4:=⟨fr4.1,λ_ h=> .inl h,λb hb hn=>fr4.2 b hb hn⟩
  have nbF3:=hun3 _ nbl h.nbF;have sep4:=sep3.zA dx3 mv4 λb hb hh=>nbF3 (by rw[<-hh];exact hb)
  have keep: ∀b,b<H.length->b≠y.nb->H4[b]? =H[b]? :=λb hb hn=>by
    have hl23:=x3.1;rw[fr4.2 b U hn,x3.2 b U id,fr2.2 b U hn,x1.2 b hb id]
  have bn4:H4[y.nb]? =some (xX p.bag ev wv nv y' c 0):=by rw[hH4];exact fW bn3
  -- the node's own blocks
  have enb:y'.nb=y.nb:=by rw[hy']
  have hpbn:pb≠y.nb:=λhh=>by
    have:=h.nb;rw[<-hh,hpb] at this;injection this with this;injection this with _ _ h3;cases h3
  have hlbn: ∀i,1<=i->i<c.aK->y.lb i≠y.nb:=λi a b hh=>by
    have:=(h.lanes i a b).1;rw[hh,h.nb] at this;injection this with this;injection this with _ _ h3;cases h3
  have hnl:Blks (nJ p.bag ev wv nv y' c 0) H4/\ ∀b,InB (nJ p.bag ev wv nv y' c 0) b->b<H.length/\ ¬Un F b/\Hs.length<=b:=by
    have q0: ∀q∈nJ p.bag ev wv nv y' c 0,H4[q.1]? =some q.2/\q.1<H.length/\ ¬Un F q.1/\Hs.length<=q.1:=λq hq=>by
      simp only[nJ,aSd,aSx,aSy] at hq;rcases hq with rfl|rfl|⟨j,hj,rfl⟩
      · simp only
        rw[enb]
        exact⟨bn4,nbl,h.nbF,h.nb0⟩
      · have e:y'.pb=pb:=by rw[hy']
        have e2:zY y' c= .cells (((List.range c.aK).map (fV y c)).flatten++prest) 94 .row:=by rw[hy'];rfl
        simp only;rw[e,e2]
        exact⟨by rw[keep _ (dO hpb) hpbn,hpb],dO hpb,hpbF.2,hpbF.1⟩
      · have hjp:j+1<c.aK:=by unfold Cfg.aK;omega
        obtain⟨q1,q2,q3,q4⟩:=h.lanes (j+1) U hjp
        have e:y'.lb (j+1)=y.lb (j+1):=by rw[hy']
        have e2:pK y' c (j+1)=pK y c (j+1):=by rw[hy'];rfl
        simp only;rw[e,e2]
        exact⟨by rw[keep _ (dO q1) (hlbn _ U hjp),q1],dO q1,q3,q2⟩
    exact⟨λq hq=>(q0 q hq).1,λb ⟨q,hq,hb⟩=>by rw[<-hb];exact(q0 q hq).2⟩
  have hl4:H.length<=H4.length:=by
    have:=x3.1;have:=fr4.1;omega
  have fn3: ∀b,¬F3 .node b:=λb hb=>by
    rw[hF3,eI _ _ (λhh=>by cases hh),hF1,eI _ _ (λhh=>by cases hh)] at hb
    exact hfe .node id b hb
  have sep5:=Sep.aP0 sep4 .node fn3 (B:=Blks (nJ p.bag ev wv nv y' c 0)) (G:=InB (nJ p.bag ev wv nv y' c 0)) (Has.Ja hnl.1 (λq hq=>⟨q,hq,rfl⟩) λb hb=>by have:=(hnl.2 b hb).1;omega) λb hb=>hun3 b (hnl.2 b hb).1 (hnl.2 b hb).2.1
  -- all of it
  have hx4:Ext Hs H4:=by
    have hsl:=h.ext.1;have hnb0:=h.nb0
    exact⟨by omega,λb hb _=>by rw[keep b U U,h.ext.2 b hb id]⟩
  have hnode:NodeAt Hs H4 (updI F3 .node (InB (nJ p.bag ev wv nv y' c 0))) y' p ev wv nv c 0 (NS.mY c):=by
    refine⟨hok,hc,hop,⟨?_,?_,?_,?_⟩,hx4,λb hb=> ?_,hPV,NInv.aMW hok,sep5.yZ λj D hD=> ?_⟩
    · rw[hy'];exact hpc
    · rw[hy'];exact λi h1 h2=>(h.lanes i h1 h2).2.2.2
    · rw[hy'];exact a3
    · rw[hy'];exact h.ww
    · have hsl:=h.ext.1
      rcases vK hb with hb|hb
      · rw[hF3] at hb
        rcases vK hb with hb|hb
        · rw[hF1] at hb
          rcases vK hb with hb|hb
          · exact h.new b hb
          · have:=hge1 b hb;omega
        · have:=r3 b hb;omega
      · exact(hnl.2 b hb).2.2
    · cases j with
      |node=>
        rw[iK] at hD;exact hD
      |rings=>
        rw[eI _ _ (λhh=>by cases hh),hA3,iK] at hD
        rw[hy'];exact hD
      |arb=>
        rw[eI _ _ (λhh=>by cases hh),hA3,eI _ _ (λhh=>by cases hh),hA1',iK] at hD
        rw[hy'];exact hD
      |host=>
        rw[eI _ _ (λhh=>by cases hh),hA3,eI _ _ (λhh=>by cases hh),hA1',eI _ _ (λhh=>by cases hh)] at hD
        rw[hy'];exact hD
      |whl i=>
        rw[eI _ _ (λhh=>by cases hh),hA3,eI _ _ (λhh=>by cases hh),hA1',eI _ _ (λhh=>by cases hh)] at hD
        rw[hy'];exact hD
      |snd i k=>
        rw[eI _ _ (λhh=>by cases hh),hA3,eI _ _ (λhh=>by cases hh),hA1',eI _ _ (λhh=>by cases hh)] at hD
        rw[hy'];simp only[nK,mG] at hD⊢;by_cases hd:1<=i/\i<c.aK/\k<c.lanes
        · rw[if_pos (.inl hd)] at hD
          rw[if_pos hd];exact hD
        · rw[if_neg (by unfold DnB;omega)] at hD
          rw[if_neg hd];exact hD
      |rcv i k=>
        rw[eI _ _ (λhh=>by cases hh),hA3,eI _ _ (λhh=>by cases hh),hA1',eI _ _ (λhh=>by cases hh)] at hD
        rw[hy'];simp only[nK,mG] at hD⊢;by_cases hd:1<=i/\i<c.aK/\k<c.lanes
        · rw[if_pos (.inl hd)] at hD
          rw[if_pos hd];exact hD
        · rw[if_neg (by unfold DnB;omega)] at hD
          rw[if_neg hd];exact hD
  -- the walk
  have hp: ∀G:aF,Ext Hs G->G[pl]? =some (plB p ev wv nv):=λG hG=>by rw[hG.2 _ (dO hpl) id,hpl]
  have hx2:Ext Hs H2:=by
    have hsl:=h.ext.1;have hnb0:=h.nb0
    exact⟨by omega,λb hb _=>by rw[fr2.2 b U U,x1.2 b U id,h.ext.2 b hb id]⟩
  have l2:ld1 (.Q pl 2) H2=some (.I c.lanes,H2):=by rw[eC (hp H2 hx2) 2 (.I p.lanes) rfl,e2]
  have l3:ld1 (.Q pl 3) H2=some (.I c.room,H2):=by rw[eC (hp H2 hx2) 3 (.I p.room) rfl,e3]
  have n13':ld1 (.Q y.nb 13) H2=some (pv,H2):=dI bn2 rfl;have hpl18:c.aK*c.lanes<=18:=Nat.mul_le_mul h6 hlanes.2;have m1:=aCZ c.aK c.lanes U
  have m2:=aCZ (c.aK*c.lanes) c.room U
  rw[hrg] at r1;refine⟨H4,pt y.nb,?_,updI F3 .node (InB (nJ p.bag ev wv nv y' c 0)),y',by rw[enb],hnode⟩
  unfold Pv;simp -implicitDefEqProofs only[gsR,n13,lpv,a1,st1,n13',l2,Fo,m1,l3,m2,r1,st2]
end
theorem aP2 (a b d e f g h i:Int)(ev wv nv:Value)(me:Int)(q:Nat):bld prog 89 [(1,.agg ⟨[.I a,ev,.I b,.I d,.I e,.I f,.I g,.I h,wv,.int .u16 i,nv]⟩),(2,.I me),(4,pt q)]=
  some (.agg ⟨[.pointer none]++[.I a,ev,.I b,.I d,.I e,.I f,.I g,.I h,wv,.int .u16 i,nv]++[.I me,.slice none 0 0,pt q,.pointer none,.I 0]⟩):=by kernel_rfl
section
variable {Hs H : aF} {F : Part → Nat → Prop} {ev wv nv : Value} {y : Lay} {c : Cfg} {p : PlanD} {m : Nat}
theorem aP4 {pl:Nat}{bv:Value}(hok:c.ok)(hc:c=kL p c.me)(hop: ∃n,OkP p n)(hPV:PV Hs p ev wv nv)(hpl:Hs[pl]? =some (plB p ev wv nv))(e2:p.lanes=(c.lanes:Int))(e3:p.room=(c.room:Int))(e9:p.start=(c.start:Int))(hwo:wOk p.weights=true)
  {Hb:aF}(hbv:Iw Hb bv (bes p.edges c.me))(hbl:(bes p.edges c.me).length=c.by'.length)(hbg: ∀i,i<c.by'.length->(bes p.edges c.me)[i]? =some ((c.by'.getD i 0:Nat):Int))(hm:500<m)(hm2:m<=72057594037927936){nb:Nat}:
  ∀(q i l:Nat)(H:aF)(F:Part->Nat->Prop)(y:Lay)(pv:Value),c.by'.length-i=q->i<=c.by'.length->q<l->y.nb=nb->BN Hs H F p.bag ev wv nv y c (i+1) (i+1) 0 0 pv->FE F c (i+1) (i+1) 0 0->Krow Hb H-> ∀(x0 x1 x3 x4 x6 x7 x8 x9 bS cE aV aR aS aQ aW aX aU bA bP bQ bO bK aY bC bE bG bH bI bJ bM bN bU cK cL cD bV bX bY b9 cA cF cM cO cP cT cU cV cW cY dJ dG dH cZ dP dS dQ dX eG eH eM eN eO eP eU eV eW fF fG fH fI fJ fK fL fM fN fO fP fQ fX fY fZ gB gJ gK gL gM iL iM iN iO iP iQ iR iS iT iV iW iX iY iZ jA jB jC jD jE jH jI jJ jK jL jM jO jQ jV jX jY jZ j7 j8:Value),
  ∃H2 r,aM l (aN prog (lvl prog pkN m) (aM m) Pt) (Px (lvl prog pkN m) (aM m)) [x0,x1,(pt pl),x3,x4,(pt nb),x6,x7,x8,x9,bS,cE,aV,aR,aS,aQ,aW,aX,aU,bA,bP,bQ,bO,bK,aY,bC,bE,bG,bH,bI,bJ,bM,bN,bU,cK,cL,cD,bV,bX,bY,b9,cA,cF,cM,cO,cP,cT,bv,(.I c.by'.length),(.I (i:Nat)),cU,cV,cW,cY,dJ,dG,dH,cZ,dP,dS,dQ,dX,eG,eH,eM,eN,eO,eP,eU,eV,eW,fF,fG,fH,fI,fJ,fK,fL,fM,fN,fO,fP,fQ,fX,fY,fZ,gB,gJ,gK,gL,gM,iL,iM,iN,iO,iP,iQ,iR,iS,iT,iV,iW,iX,iY,iZ,jA,jB,jC,jD,jE,jH,jI,jJ,jK,jL,jM,jO,jQ,jV,jX,jY,jZ,j7,j8] H=some (r,H2)/\Sv Hs p ev wv nv c H2 r:=by
 intro q;induction q with
 |zero=>
  intro i l H F y pv hq hi hl hnb h hfe hkr;intros;obtain⟨l,rfl⟩: ∃l',l=l'+1:=⟨l-1,by omega⟩
  have hie:i+1=c.aK:=by unfold Cfg.aK;omega
  have c1:decide ((i:Int)<(c.by'.length:Int))=false:=by rw[decide_eq_false_iff_not];omega
  rw[aM,aAB];simp -implicitDefEqProofs only[gsR,c1];rw[aLi];rw[hie] at h hfe;rw[<-hnb];exact aP1 hok hc hop hPV hpl e2 e3 U h hfe ..
 |succ q ih=>
  intro i l H F y pv hq hi hl hnb h hfe hkr;intros;obtain⟨l,rfl⟩: ∃l',l=l'+1:=⟨l-1,by omega⟩
  have h5:=hok.by';have hil:i<c.by'.length:=U
  have c1:decide ((i:Int)<(c.by'.length:Int))=true:=by rw[decide_eq_true_eq];omega
  have hpH: ∀G:aF,Ext Hs G->G[pl]? =some (plB p ev wv nv):=λG hG=>by rw[hG.2 _ (dO hpl) id,hpl]
  obtain⟨b,o,a1,_,a3⟩:=(hkr.iw hbv).rs.fS gV (hbg i hil) .i64;have a3:ld1 (.Q b o) H=some (.I (c.by'.getD i 0:Nat),H):=(a3 H rfl).2.1 0 _ rfl;have l8:ld1 (.Q pl 8) H=some (wv,H):=eC (hpH H h.ext) 8 wv rfl;have hcw:c.weights=p.weights:=by have:=congrArg Cfg.weights hc;rw[this];rfl
  have hwl:=hok.wlen;rw[hcw] at hwl;have hlanes:=hok.lanes;obtain⟨H1,wh,ww,wl,wc,lc,wr,lr,w1,x1,w2,w3,w4,w5,w6⟩:=aCU (m:=m) (hPV.w.ext h.ext) hwo U hm2
  rw[<-hcw] at w2;have g1:=h.whl (λj hj b hb=>hfe (.whl j) (by show¬j<i+1;omega) b hb) w2 x1 w3 w4 w5 w6
  have fe1:=hfe.Jo (i:= .whl (i+1)) (G:=InB (mF wh ww wl wc lc wr lr c.weights ⟨c.weights,0⟩)) (n':=i+1) (nw':=i+1+1) (cs':=0) (cr':=0) (show i+1<i+1+1 by omega) (λj hj=>by
   cases j<;>simp only[tG] at hj⊢ <;>(try exact hj);omega)
  obtain⟨y1,hy1⟩: ∃y1:Lay,y1={y with wh:=up1 y.wh (i+1) wh,ww:=up1 y.ww (i+1) ww,wl:=up1 y.wl (i+1) wl,wc:=up1 y.wc (i+1) wc,lc:=up1 y.lc (i+1) lc,wr:=up1 y.wr (i+1) wr,lr:=up1 y.lr (i+1) lr}:=⟨_,rfl⟩;obtain⟨F1,hF1⟩:=aD (updI F (.whl (i+1)) (InB (mF wh ww wl wc lc wr lr c.weights ⟨c.weights,0⟩)));rw[<-hF1] at g1 fe1;have g1:BN Hs H1 F1 p.bag ev wv nv y1 c (i+1) (i+1+1) 0 0 pv:=by rw[hy1];exact g1
  have hwh:y1.wh (i+1)=wh:=by rw[hy1];exact o5 _ _ _
  have eb:bld prog 94 [(0,.int .i64 (c.by'.getD i 0:Nat)),(2,pt wh)]=some (.agg #[.int .i64 (c.by'.getD i 0:Nat),.slice none 0 0,pt wh]):=rfl;obtain⟨H2,hH2⟩:=aD (H1++[Blk.cells [.int .i64 (c.by'.getD i 0:Nat),.slice none 0 0,pt wh] 94 .fix]);have x2:Ext H1 H2:=by rw[hH2];exact Fr.app _ _ _
  have st:stN 3 (.pointer (some ⟨H1.length,0,none⟩)) (.agg #[.int .i64 (c.by'.getD i 0:Nat),.slice none 0 0,pt wh]) (H1++[Blk.cells [Value.int .i64 0,.slice none 0 0,.pointer none] 94 .fix])=some (undef,H2):=by
   rw[wD (n:=3) (vs:=[.I (c.by'.getD i 0:Nat),.slice none 0 0,pt wh]) (eD H1 _) aC rfl rfl (aRZ 3) rfl,mW,hH2]
   rfl
  have g2:=g1.aCV x2;have hx2:XN Hs H2 F1 y1 (i+1) 0 H1.length (c.by'.getD i 0) (.slice none 0 0):=by
   have hs1:=g1.ext.1;refine⟨by rw[hwh,hH2];exact eD _ _,λhu=>by have:=g1.sep.rD _ hu;omega,hs1,Rw.kP,λb ⟨_,_,_,hh⟩=>(by cases hh)⟩
  have l2:ld1 (.Q pl 2) H2=some (.I c.lanes,H2):=by rw[eC (hpH H2 g2.ext) 2 (.I p.lanes) rfl,e2]
  rw[aM,aAB];simp -implicitDefEqProofs only[gsR,c1,a1,a3,l8,w1,eb,st,l2];refine aPY (nb:=nb) (Hb:=Hb) (p:=p) (pl:=pl) (i:=i) (w:=c.by'.getD i 0) (xb:=H1.length) hok hpl U e3 e9 U ?_ c.lanes 0 m H2 F1 y1 (.slice none 0 0) U U U (by rw[hy1];exact hnb) g2 fe1 hx2 (hkr.ext (x1.tr x2)) ..
  intro H3 F3 y3 lv hnb3 g3 fe3 hx3 hkr3;intros;obtain⟨y',pv',H4,H5,H6,q1,q2,q3,q4,q5,q6,q7⟩:=g3.aPZ fe3 hx3 U U hlanes.1 (by unfold lL;rw[if_neg U];rfl)
  have n13:ld1 (.Q nb 13) H3=some (pv,H3):=by rw[<-hnb3];exact dI g3.nb rfl
  have lx:ldN 3 (.Q H1.length 0) H3=some (.agg #[.I (c.by'.getD i 0:Nat),lv,pt (y3.wh (i+1))],H3):=rG hx3.blk (aRZ 3);have e1:=pI i U
  rw[hnb3] at q4;unfold Pw;simp -implicitDefEqProofs only[gsR,n13,lx,q2,q3,q4,cR,e1];exact ih (i+1) l H6 F3 y' pv' U U U (by rw[q1,hnb3]) q5 q6 (λb cs hb=>q7 b cs (hkr3 b cs hb)) ..
theorem aP3 (hp:PV H p ev wv nv)(hck:oC p=0)(hst:0<=p.start/\p.start<65536)(hm:17592186045500<m)(hm2:m<=72057594037927936)(me:Nat)(hme:(me:Int)<p.nodes):
    ∃H' F y,lvl prog pkN m (.func 11) [plV p ev wv nv,.I me] H=some (pt y.nb,H')/\NodeAt H H' F y p ev wv nv (kL p me) 0 (NS.mY (kL p me)):=by
  have hcheck:gY p=true:=by
    unfold oC at hck
    split at hck
    · assumption
    · omega
  obtain⟨hok,k1,k2,k3,k4,k5,k6,k7,hbg,hwo⟩:=aCX hcheck hme hst;obtain⟨c,hc⟩:=aD (kL p me);rw[<-hc] at hok k1 k2 k3 k4 k5 k6 k7 hbg⊢;have hcme:c.me=me:=by rw[hc];rfl
  have hc':c=kL p c.me:=by rw[hcme];exact hc
  have hlanes:=hok.lanes;have hqueue:=hok.queue;have hbl:(bes p.edges me).length=c.by'.length:=by rw[hc];show _=((bes p.edges me).map Int.toNat).length;simp
  have hop:=sW hcheck;have hel:p.edges.length<=15:=by
    obtain⟨n,hn⟩:=hop;exact hn.e15
  -- the plan in a block
  obtain⟨H1,hH1⟩:=aD (H++[plB p ev wv nv]);have x1:Ext H H1:=by rw[hH1];exact Fr.app _ _ _
  have b1:H1[H.length]? =some (plB p ev wv nv):=by rw[hH1];exact fA _ _
  have p1:=hp.ext x1;have l11:=lC b1;obtain⟨H2,g1,x2⟩:=aAr p1 (m:=m-1) U U
  rw[hck] at g1;have aV:=x1.tr x2;have b2:H2[H.length]? =some (plB p ev wv nv):=by rw[x2.2 _ (dO b1) id,b1]
  have l0:ld1 (.Q H.length 0) H2=some (.I c.nodes,H2):=by rw[eC b2 0 (.I p.nodes) rfl,k1]
  have l2:ld1 (.Q H.length 2) H2=some (.I c.lanes,H2):=by rw[eC b2 2 (.I p.lanes) rfl,k2]
  have l4:ld1 (.Q H.length 4) H2=some (.I c.queue,H2):=by rw[eC b2 4 (.I p.queue) rfl,k4]
  have l11':=lC b2;have hmn:=hok.me;rw[hcme] at hmn;have c1:decide ((me:Int)<0)=false:=by rw[decide_eq_false_iff_not];omega
  have c2:decide ((c.nodes:Int)<=(me:Int))=false:=by rw[decide_eq_false_iff_not];omega
  -- the host
  obtain⟨r,H3,G3,r1,r2,x3,r3⟩:=Has.aB6 (A:=λ_=>True) (H:=H2) tW (n:=m-1) (B:=λr D'=> ∃a,r=pt a/\HostAt D' a [] [] c.lanes c.queue) (λD _ _=>by
    obtain⟨a,D',q1,q2,_,_⟩:=aMN (D:=D) (m:=m-1) U c.lanes c.queue hlanes hqueue
    exact⟨_,D',q1,a,rfl,q2⟩)
  obtain⟨hb,hrb,_⟩:=r2.at_;have r2':Has (λD=>HostAt D hb [] [] c.lanes c.queue) G3 H3:=Has.xY r2 λD ⟨a,ha,hD⟩=>by
    rw[hrb] at ha;injection ha with ha;injection ha with ha;injection ha with ha;rw[ha];exact hD
  rw[hrb] at r1;have b3:H3[H.length]? =some (plB p ev wv nv):=by rw[x3.2 _ (dO b2) id,b2]
  have l11c:=lC b3
  -- the node's block
  have eplc:plC p ev wv nv=[.I c.nodes,ev,.I c.lanes,.I c.room,.I c.queue,.I c.rounds,.I c.every,.I p.bag,wv,.int .u16 c.start,nv]:=by
    unfold plC;rw[k1,k2,k3,k4,k5,k6,k7]
  have ebn:bld prog 89 [(1,plV p ev wv nv),(2,.I me),(4,pt hb)]=some (.agg ⟨[.pointer none]++plC p ev wv nv++[.I me,.slice none 0 0,pt hb,.pointer none,.I 0]⟩):=by
    exact aP2 ..
  obtain⟨y0,hy0⟩: ∃y0:Lay,y0=⟨H3.length,0,0,[],λ_=>0,λ_=>0,λ_=>[],λ_=>0,λ_=>0,λ_=>0,λ_=>0,λ_=>0,λ_=>[],λ_=>[],λ_ _=>0,λ_ _=>0,0,0,0,hb,0⟩:=⟨_,rfl⟩
  have y0n:y0.nb=H3.length:=by rw[hy0]
  have y0h:y0.hb=hb:=by rw[hy0]
  obtain⟨H4,hH4⟩:=aD (H3++[tF p.bag ev wv nv y0 c (.slice none 0 0)]);have e4:H3++[Blk.cells (Value.cells (.agg ⟨[.pointer none]++plC p ev wv nv++[.int .i64 me,.slice none 0 0,pt hb,.pointer none,.int .i64 0]⟩)).toList 89 .fix]=H4:=by
    rw[hH4,eplc];unfold tF;rw[hcme,y0h];rfl
  have x4:Ext H3 H4:=by rw[hH4];exact Fr.app _ _ _
  have bn4:H4[y0.nb]? =some (tF p.bag ev wv nv y0 c (.slice none 0 0)):=by rw[y0n,hH4];exact eD _ _
  obtain⟨F0,hF0⟩: ∃F0:Part->Nat->Prop,F0=updI (λ_ _=>False) .host G3:=⟨_,rfl⟩
  have sep0:Sep (nK y0 c 0 0 0 0) F0 H4:=by
    have s0:Sep (λ_:Part=>Blks []) (λ_ _=>False) H2:=⟨λi=>⟨λq hq=>(by cases hq),λb hb=>hb.elim⟩,λi j b hb=>hb.elim⟩
    have s1:=s0.Jb .host (λ_=>Blks.dx _) (λb hb=>hb) r2' x3 r3
    rw[<-hF0] at s1;have s2:=s1.ext (λj=>by
      unfold updI;split
      · exact λD D' h he=>h.ext he
      · exact Blks.dx _) x4
    refine s2.yZ λj D hD=> ?_
    cases j with
    |host=>
      rw[iK] at hD;show HostAt D y0.hb [] [] c.lanes c.queue
      rw[y0h];exact hD
    |whl i=>
      rw[eI _ _ (λhh=>by cases hh)] at hD
      simp only[nK];rw[if_neg U]
      exact hD
    |snd i k=>
      rw[eI _ _ (λhh=>by cases hh)] at hD
      simp only[nK];rw[if_neg (by unfold DnB;omega)]
      exact hD
    |rcv i k=>
      rw[eI _ _ (λhh=>by cases hh)] at hD
      simp only[nK];rw[if_neg (by unfold DnB;omega)]
      exact hD
    |_=>
      rw[eI _ _ (λhh=>by cases hh)] at hD
      exact hD
  have unF0: ∀b,Un F0 b->G3 b:=λb hb=>by
    rw[hF0] at hb;rcases vK hb with⟨_,hb⟩|hb
    · exact hb.elim
    · exact hb
  have hg3l: ∀b,G3 b->b<H3.length:=λb hb=>r2'.lt b hb
  have bnN:BN H2 H4 F0 p.bag ev wv nv y0 c 0 0 0 0 (.slice none 0 0):=
    ⟨x3.tr x4,sep0,λb hb=>r3 b (unF0 b hb),bn4,λhu=>by have:=hg3l _ (unF0 _ hu);omega,by rw[y0n];exact x3.1,Rw.kP,λb ⟨_,_,_,hh⟩=>(by cases hh),λi a b=>by omega,λi j a b=>by omega,λi hi=>by omega⟩
  have fe0:FE F0 c 0 0 0 0:=λj hj b hb=>by
    rw[hF0] at hb;cases j with
    |host=>exact hj trivial
    |_=>
      rw[eI _ _ (λhh=>by cases hh)] at hb
      exact hb
  -- the first wheel
  have hpH: ∀G:aF,Ext H2 G->G[H.length]? =some (plB p ev wv nv):=λG hG=>by rw[hG.2 _ (dO b2) id,b2]
  have n13:ld1 (.Q H3.length 13) H4=some (.slice none 0 0,H4):=by rw[<-y0n];exact dI bn4 rfl
  have l8:ld1 (.Q H.length 8) H4=some (wv,H4):=eC (hpH H4 bnN.ext) 8 wv rfl;have hcw:c.weights=p.weights:=by rw[hc];rfl
  have hwl:=hok.wlen;rw[hcw] at hwl;obtain⟨H5,wh,ww,wl,wc,lc,wr,lr,w1,x5,w2,w3,w4,w5,w6⟩:=aCU (m:=m-1) (hp.w.ext (aV.tr bnN.ext)) hwo U U
  rw[<-hcw] at w2;have g5:=bnN.whl (λj hj b hb=>fe0 (.whl j) (by show¬j<0;omega) b hb) w2 x5 w3 w4 w5 w6
  have fe5:=fe0.Jo (i:= .whl 0) (G:=InB (mF wh ww wl wc lc wr lr c.weights ⟨c.weights,0⟩)) (n':=0) (nw':=1) (cs':=0) (cr':=0) (show 0<1 by omega) (λj hj=>by
    cases j<;>simp only[tG] at hj⊢ <;>(try exact hj);omega)
  obtain⟨y1,hy1⟩: ∃y1:Lay,y1={y0 with wh:=up1 y0.wh 0 wh,ww:=up1 y0.ww 0 ww,wl:=up1 y0.wl 0 wl,wc:=up1 y0.wc 0 wc,lc:=up1 y0.lc 0 lc,wr:=up1 y0.wr 0 wr,lr:=up1 y0.lr 0 lr}:=⟨_,rfl⟩;obtain⟨F1,hF1⟩:=aD (updI F0 (.whl 0) (InB (mF wh ww wl wc lc wr lr c.weights ⟨c.weights,0⟩)));rw[<-hF1] at g5 fe5;have g5:BN H2 H5 F1 p.bag ev wv nv y1 c 0 1 0 0 (.slice none 0 0):=by rw[hy1];exact g5
  have y1n:y1.nb=H3.length:=by rw[hy1];exact y0n
  have n13':ld1 (.Q H3.length 13) H5=some (.slice none 0 0,H5):=by rw[<-y1n];exact dI g5.nb rfl
  have hpc0:fV y1 c 0=[.I me,.slice none 0 0,pt wh]:=by
    unfold fV lL nU;rw[if_pos rfl,if_pos rfl,hcme,hy1];simp only;rw[o5]
  have eb:bld prog 94 [(0,.int .i64 me),(2,pt wh)]=some (.agg #[.int .i64 me,.slice none 0 0,pt wh]):=rfl;obtain⟨H6,hH6⟩:=aD (H5++[Blk.cells [.int .i64 me,.slice none 0 0,pt wh] 94 .row]);have es:dT 94 3 1 [.int .i64 0,.slice none 0 0,.pointer none] [(0,.agg #[.int .i64 me,.slice none 0 0,pt wh])] H5=some (.slice (some ⟨H5.length,0,none⟩) 1 1,H6):=by rw[hH6];rfl
  have hw1:Rr (fV y1 c) 94 H6 (.slice (some ⟨H5.length,0,none⟩) 1 1) [0]:=by
    have:=yW (el:=fV y1 c) (e:=94) 0 H5;rw[hpc0] at this;rw[hH6];exact this
  have hrw0:Rw (fV y1 c) 94 3 H6 (.slice none 0 0) []:=Rw.kP;obtain⟨pv,H7,k1',k2',k3',k4',k5'⟩:=hrw0.yX (D7 y1 c) (aCW y1 c) aC (by':=40) hw1.rs aC
  have hnh: ∀b,¬cJ (.slice none 0 0) b:=λb ⟨_,_,_,hh⟩=>by cases hh
  have h6l:H6.length=H5.length+1:=by rw[hH6];simp
  have nbl:=dO g5.nb;have bn7:H7[y1.nb]? =some (tF p.bag ev wv nv y1 c (.slice none 0 0)):=by rw[k4' _ U (hnh _),hH6,aRX nbl,g5.nb]
  have sh:=B3 k2';obtain⟨H8,hH8⟩:=aD (H7.set y1.nb (tF p.bag ev wv nv y1 c pv));have st:stN 1 (.Q H3.length 13) pv H7=some (undef,H8):=by rw[<-y1n,hH8];exact qN bn7 aC (by simp) sh.1 sh.2
  have hfr:Fr (λb=>b=y1.nb) H5 H8:=⟨by rw[hH8];simp;omega,λb hb hn=>by
    rw[hH8,aRV (λhh=>hn hh.symm),k4' b U (hnh _),hH6,aRX hb]⟩
  obtain⟨x8,s8⟩:=g5.St (pv':=pv) (n':=0) hfr λb hb=>by rw[hb];exact⟨g5.nbF,g5.nb0⟩
  have hpvn: ¬cJ pv y1.nb:=λhh=>by
    rcases k5' _ hh with hh|hh
    · exact hnh _ hh
    · omega
  have hsl:=g5.ext.1;have g8:BN H2 H8 F1 p.bag ev wv nv y1 c 1 1 0 0 pv:=by
    refine⟨x8,s8.yZ λj D hD=> ?_,g5.new,by rw[hH8];exact fW bn7,g5.nbF,g5.nb0,?_,λb hb=> ?_,λi a b=>by omega,λi j a b=>by omega,g5.ww⟩
    · cases j with
      |snd i k=>
        simp only[nK] at hD⊢;rw[if_neg (by unfold DnB;omega)] at hD⊢
        exact hD
      |rcv i k=>
        simp only[nK] at hD⊢;rw[if_neg (by unfold DnB;omega)] at hD⊢
        exact hD
      |_=>exact hD
    · refine(show Rw (fV y1 c) 94 3 H7 pv (List.range 1) from k2').eY λb hb=> ?_
      rw[hH8];exact aRV λhh=>hpvn (by rw[hh];exact hb)
    · rcases k5' b hb with hb|hb
      · exact absurd hb (hnh b)
      · exact⟨by omega,λhu=>by have:=g5.sep.rD b hu;omega⟩
  have fe8:FE F1 c 1 1 0 0:=λj hj=>fe5 j λhd=>hj (by
    cases j<;>simp only[tG] at hd⊢ <;>(try exact hd)<;>(unfold DnB at hd ⊢; omega))
  -- who is beside
  have b8:=hpH H8 g8.ext;have l11d:=lC b8;obtain⟨H9,bv,q1,x9,q3,q4⟩:=No (hp.ext (aV.tr g8.ext)) (m:=m-1) U U (me:Int)
  have g9:=g8.aCV x9;have lbv:=q3.rX;rw[hbl] at lbv;have main: ∃H' r,lvl prog pkN m (.func 11) [plV p ev wv nv,.I me] H=some (r,H')/\Sv H2 p ev wv nv c H' r:=by
    refine gN (cH rfl) U ?_
    rw[aLk];have e1:H++[Blk.cells (Value.cells (plV p ev wv nv)).toList 28 .fix]=H1:=by rw[hH1];rfl
    have c3:((0:Int)!=0)=false:=rfl;have pchk:=λG=>(hp.chk G)
    have nchk: ∀G:aF,chk (some (Value.slice none 0 0,G)) (.slice none 0 0)=true:=λ_=>by simp[chk,veq]
    simp -implicitDefEqProofs only[gsR,e1,l11,g1,c3,c1,l0,c2,l11',l2,l4,r1,l11c,pchk,ebn,e4,n13,l8,w1,n13',nchk,eb,es,k1',st,l11d,q1,lbv];have y1n':y1.nb=H3.length:=y1n;exact aP4 (pl:=H.length) (Hs:=H2) (Hb:=H9) hok hc' hop (hp.ext aV) b2 k2 k3 k7 hwo (by rw[hcme];exact q3) (by rw[hcme];exact hbl) (λi hi=>by rw[hcme];exact hbg i (by rw[hbl];exact hi)) U U c.by'.length 0 (m-1) H9 F1 y1 pv U U (by have:=hok.by';omega) y1n' g9 fe8 (λb cs hb=>hb) ..
  obtain⟨H',r,z1,F,y,rfl,z2⟩:=main;refine⟨H',F,y,z1,{z2 with ext:=aV.tr z2.ext,old:=λb hb=>aSa aV.1 (z2.old b hb),plan:=hp}⟩
end
end Go.Proofs.YtkeilicinggjmaaGreatDoor
namespace Go.Proofs.YtkeilicinggjmaaGreatDoor
open Go.Proofs.Tryz
open Go.Abs Go.Abs.M
section
variable {H : aF} {m : Nat}
theorem Sx (c:List Nat):kC (ofT c)=true/\1<=(ofT c).length:=by
 unfold ofT;split
 ·exact⟨by decide+kernel,by simp⟩
 ·rename_i h
  have hl:(ofL c (min c.length 5)).length=min c.length 5:=by simp[ofL]
  refine⟨?_,by rw[hl];omega⟩
  unfold kC;rw[hl,aR2,aSz];refine⟨λi hi=> ?_,aSE U⟩
  have hi':=aSy.mp hi;have e:(ofL c (min c.length 5)).getD i 0=((c.getD i 0%(i+1):Nat):Int):=by
   unfold ofL;rw[aRY,aR7,aSC hi'];rfl
  have hm:c.getD i 0%(i+1)<i+1:=Nat.mod_lt _ U
  rw[e,aR2]
  exact⟨aSE U,aSE U⟩
def rO (c:List Nat)(room more start:Nat):PlanD:=sX (mkP 0 room more start []) (ofT c)
theorem Jq (c:List Nat)(room more start:Nat):oC (rO c room more start)=0:=by
 obtain⟨hr,ht1⟩:=Sx c
 exact(aKT (Zi 0 room more start []) (aAy hr ht1)).1
theorem Sw {D H D' H':aF}(hs:Sub D H)(hf:Fs D H D' H')(he:Ext D D'):Ext H H':=by
 refine⟨by have:=hf.sub.1;have:=hs.1;have:=he.1;omega,λb hb _=> ?_⟩
 have hbD:b<D.length:=by rw[hs.1];exact hb
 by_cases hd:D[b]? =some .dead
 ·exact hf.keep b hd
 ·have hx:D[b]? =some D[b]:=aRW hbD
  have hn:D[b]≠ .dead:=λh=>hd (by rw[hx,h])
  rw[hs.2 b _ hx hn,hf.sub.2 b _ ((he.2 b hbD id).trans hx) hn]
theorem Jr {α:Type}{el:α->List Value}{e:TypeId}{D H:aF}{v:Value}{xs:List α}(h:Rs el e D v xs)(hk: ∀(b:Nat)(x:Blk),D[b]? =some x->x≠ .dead->H[b]? =some x):Rs el e H v xs:=by
 rcases h with h|⟨b,o,cap,h1,h2,h3⟩
 ·exact .inl h
 ·refine .inr ⟨b,o,cap,h1,h2,λhne=> ?_⟩
  obtain⟨e',k,pre,post,q1,q2,q3⟩:=h3 hne
  exact⟨e',k,pre,post,q1,q2,hk b _ q3 (λh=>by cases h)⟩
theorem aC0 {D H:aF}{p:PlanD}{ev wv nv:Value}(h:PV D p ev wv nv)(hk: ∀(b:Nat)(x:Blk),D[b]? =some x->x≠ .dead->H[b]? =some x):PV H p ev wv nv:=by
 obtain⟨h1,h2,⟨us,h3,h4,h5⟩,h6,h7,h8⟩:=h
 exact⟨Jr h1 hk,Jr h2 hk,⟨us,Jr h3 hk,h4,λi u xs hu hx=>Jr (h5 i u xs hu hx) hk⟩,h6,h7,h8⟩
theorem Jp {cv:Value}{c:List Nat}(hc:Us H cv c)(hu8: ∀x∈c,x<256)(hl:c.length<=72057594037927936)(room more start:Nat)(h2:room<256)(h3:more<256)(h4:start<65536)(hm:700<m)(hm2:m<=72057594037927936):
  ∃H' ev wv nv,lvl prog cN m (.func 10) [cv,.int .u8 room,.int .u8 more,.int .u16 start] H=some (plV (rO c room more start) ev wv nv,H')/\Ext H H'/\PV H' (rO c room more start) ev wv nv:=by
 obtain⟨Ha,hHa⟩:=aD (H++[plZ]);obtain⟨Da,hDa⟩:=aD (H++[Blk.dead]);have xa:Ext H Ha:=by rw[hHa];exact Fr.app _ _ _
 have xd:Ext H Da:=by rw[hDa];exact Fr.app _ _ _
 have ba:Ha[H.length]? =some plZ:=by rw[hHa];exact fA _ _
 have bd:Da[H.length]? =some .dead:=by rw[hDa];exact fA _ _
 have sa:Sub Da Ha:=by
  rw[hHa,hDa];refine⟨by simp,λb x hb hx=> ?_⟩
  by_cases hlt:b<H.length
  ·rw[aRX hlt] at hb⊢
   exact hb
  ·have h9:=dO hb
   simp at h9;have:b=H.length:=U
   subst this;rw[fA] at hb;cases hb;exact absurd rfl hx
 obtain⟨D2,u,d2,hmd⟩:=aJc (H:=Da) (m:=m-1) 0 room more start U h2 h3 h4 (aJr Da) (by simp) (by simp) U
 obtain⟨H2,g2,f2⟩:=Cs _ tW _ _ _ Da Ha sa _ _ d2;obtain⟨ev,wv,nv,rfl,y2,hp⟩:=hmd.pv;have x2:=Sw sa f2 y2;have hok:=Zi 0 room more start [];have hwl:(mkP 0 room more start []).weights.length<=1000:=by simp[mkP];omega
 obtain⟨p,hpp⟩:=aD (mkP 0 room more start []);have hq0:rO c room more start=sX p (ofT c):=by rw[hpp];rfl
 rw[hq0];rw[<-hpp] at hp g2 hok hwl;have z0:((0:Nat):Int)=0:=rfl;simp only[z0] at g2;obtain⟨D1,tv,d1,y1,qt,_⟩:=aKD (hc.ext (xd.tr y2)) hu8 hl (m:=m-1) U
 obtain⟨H1,g1,f1⟩:=Cs _ tW _ _ _ D2 H2 f2.sub _ _ d1;have x1:=Sw f2.sub f1 y1;obtain⟨hr,ht1⟩:=Sx c;obtain⟨D3,_,d3,ev3,wv3,nv3,rfl,y3,hp3⟩:=aKS (hp.ext y1) hwl qt.rs hr ht1 (m:=m-1) U U
 obtain⟨H3,g3,f3⟩:=Cs _ tW _ _ _ D1 H1 f1.sub _ _ d3;have x3:=Sw f1.sub f3 y3;have bD:D3[H.length]? =some .dead:=eS bd ((y2.tr y1).tr y3);obtain⟨q,hq⟩:=aD (sX p (ofT c));rw[<-hq] at hp3 g3⊢;have hp3H:PV H3 q ev3 wv3 nv3:=aC0 hp3 f3.sub.2;have cp:=Dd hp3H H3;obtain⟨H4,hH4⟩:=aD (H3++[plB q ev3 wv3 nv3]);rw[<-hH4] at cp;have x4:Ext H3 H4:=by rw[hH4];exact Fr.app _ _ _
 have b4:H4[H3.length]? =some (plB q ev3 wv3 nv3):=by rw[hH4];exact fA _ _
 have l4:=lC b4;have xx:=((x2.tr x1).tr x3).tr x4;have bz:H4[H.length]? =some plZ:=eS ba xx;have e1:(plV q ev3 wv3 nv3).cells.toList=plC q ev3 wv3 nv3:=rfl;have st:stN 11 (.Q H.length 0) (plV q ev3 wv3 nv3) H4=some (undef,H4.set H.length (plB q ev3 wv3 nv3)):=by
  rw[mA 11 _ _ _ rfl,bz,e1];unfold plZ;rw[oK _ _ _ _ _ _ aC (by simp[plC]) hp3H.Db]
  simp[eT,plC,plB]
 have hlt:H.length<H4.length:=dO bz;have x5:Ext H (H4.set H.length (plB q ev3 wv3 nv3)):=pU (xa.tr xx) (aRZ _);have l5:ldN 11 (.Q H.length 0) (H4.set H.length (plB q ev3 wv3 nv3))=some (plV q ev3 wv3 nv3,H4.set H.length (plB q ev3 wv3 nv3)):=lC (by rw[aR0 U])
 refine⟨H4.set H.length (plB q ev3 wv3 nv3),ev3,wv3,nv3,cS (cH rfl) U ?_,x5,?_⟩
 ·rw[aJv]
  simp -implicitDefEqProofs only[gsR,Bf,<-hHa,g2,g1,g3,cp,l4,st,l5]
  done
 ·refine aC0 hp3 λb x hb hx=> ?_
  have hne:b≠H.length:=λh=>by rw[h,bD] at hb;cases hb;exact hx rfl
  rw[aRV (Ne.symm hne),x4.2 b (dO (f3.sub.2 b x hb hx)) id];exact f3.sub.2 b x hb hx
end
end Go.Proofs.YtkeilicinggjmaaGreatDoor
namespace Go.Proofs.YtkeilicinggjmaaGreatDoor
open Go.Proofs.Tryz
open Go.Abs Go.Abs.M
open Classical
theorem sH (t:TypeId)(a:Addr)(h:lS prog t (.pointer none)=true):bin prog .eql t (.pointer (some a)) (.pointer none)=some (.bool false)/\bin prog .eql t (.pointer none) (.pointer none)=some (.bool true):=by
 have h2:lS prog t (.pointer (some a))=true:=by
  rw[<-h];unfold lS;cases prog.underlying t with
  |none=>rfl
  |some d=>cases d<;>rfl
 constructor<;>simp[bin,eE,nL,h,h2,eqV]
section
variable {H00 H0 H H' : aF} {F : Part → Nat → Prop} {y : Lay} {p : PlanD} {ev wv nv : Value} {c : Cfg} {t : Nat} {s : NS} {N N' : Nat → Prop}
theorem NodeAt.aP5 (h:NodeAt H0 H F y p ev wv nv c t s)(he:Ext H00 H0)(hp:PV H00 p ev wv nv):NodeAt H00 H F y p ev wv nv c t s:=
 {h with ext:=he.tr h.ext,old:=λb hb=>aSa he.1 (h.old b hb),plan:=hp}
theorem NodeAt.aC1 (h:NodeAt H0 H F y p ev wv nv c t s)(he:Ext H0 H')(hm:Mv N N' H H')(hd: ∀b,Un F b-> ¬N b):NodeAt H0 H' F y p ev wv nv c t s/\ ∀b,Un F b-> ¬N' b:=
 ⟨{h with ext:=he,sep:=h.sep.zA (vJ _ _ _ _ _ _ _) hm hd},λb hb hn=>(hm.own b hn).elim (hd b hb) λhl=>by have:=h.sep.rD b hb;omega⟩
end
def ptC (a:Option Addr):List Value:=[.pointer a]
theorem Js (a:Option Addr):(ptC a).length=1:=rfl
theorem aP7 (a:Option Addr):dV (ptC a)=true:=rfl
theorem aP6 (t:TypeId)(a:Option Addr)(H:aF):dT t 1 1 [.pointer none] [(0,.pointer a)] H=some (.slice (some ⟨H.length,0,none⟩) 1 1,H++[.cells (ptC a) t .row]):=rfl
theorem qS {α:Type}{el:α->List Value}{e:TypeId}{sz:Nat}{H H':aF}{v:Value}{xs:List α}(h:Rw el e sz H v xs)(he:Ext H H'):Rw el e sz H' v xs:=h.eY λb hb=>he.2 b (h.gU hb) id
theorem aP8 {α β:Type}{el:α->List Value}{el':β->List Value}{e e':TypeId}{sz sz':Nat}{H H':aF}{u v:Value}{xs:List α}{ys:List β}(h:Rw el e sz H v xs)(hu:Rw el' e' sz' H u ys)(hne:e≠e')(hf:Fr (cJ u) H H'):Rw el e sz H' v xs:=h.eY λb hb=>hf.2 b (h.gU hb) λhh=>by
 obtain⟨c1,h1⟩:=h.blk hb;obtain⟨c2,h2⟩:=hu.blk hh;rw[h1] at h2;cases h2;exact hne rfl
end Go.Proofs.YtkeilicinggjmaaGreatDoor
namespace Go.Proofs.YtkeilicinggjmaaGreatDoor
open Go.Proofs.Tryz
open Go.Abs Go.Abs.M
def kx:Pkt:=⟨0,1,0,7⟩
theorem aQa {i:Int}(h:(Lit.int .u32 i).wf=true):0<=i/\i<4294967296:=by
 simp[Lit.wf,IntKind.min,IntKind.max,IntKind.signed,IntKind.bits] at h;omega
theorem Sy {i:Int}(h:(Lit.int .i64 i).wf=true): -9223372036854775808<=i/\i<9223372036854775808:=by
 simp[Lit.wf,IntKind.min,IntKind.max,IntKind.signed,IntKind.bits] at h;omega
theorem aP9 {G:aF}{n:Nat}{cs:List Value}(h:Rp prog G n 54 cs): ∃x:Pkt,Value.agg ⟨cs⟩=x.dN/\x.ok:=by
 have hf:Lc prog 54=some [(3,0),(3,1),(3,2),(37,3)]:=by kernel_rfl
 have c0:prog.cellsOf 54=4:=by kernel_rfl
 have c1:prog.cellsOf 37=1:=by kernel_rfl
 obtain⟨m,hl,hh⟩:=h.aFU hf;rw[c0] at hl
 match cs,hl with
 |[x0,x1,x2,x3],_=>
  have f0:=hh (3,0) (by simp)
  have f1:=hh (3,1) (by simp)
  have f2:=hh (3,2) (by simp)
  have f3:=hh (37,3) (by simp)
  simp only[szI,c1,List.drop_zero,List.drop_succ_cons,List.take_succ_cons,List.take_zero] at f0 f1 f2 f3;obtain⟨a0,h0,w0⟩:=f0.Cn (k:= .i64) (by kernel_rfl)
  obtain⟨a1,h1,w1⟩:=f1.Cn (k:= .i64) (by kernel_rfl)
  obtain⟨a2,h2,w2⟩:=f2.Cn (k:= .i64) (by kernel_rfl)
  obtain⟨a3,h3,w3⟩:=f3.Cn (k:= .u32) (by kernel_rfl)
  cases h0;cases h1;cases h2;cases h3
  exact⟨⟨a0,a1,a2,a3⟩,rfl,Sy w0,Sy w1,Sy w2,aQa w3⟩
end Go.Proofs.YtkeilicinggjmaaGreatDoor
noncomputable section
namespace Go.Proofs.YtkeilicinggjmaaGreatDoor
open Go.Proofs.Tryz
open Go.Abs Go.Abs.M
variable (O:aH)(L:LV)(k:KV)(N P Q R S T U V W X Y Z a b c d e f g i j l m n o p q r s t u v w x y z A B C D E F G H I J zz zy zx zw zv zu zt zs zr zq zp zo zn zm zl zk zj zi zh zg zf ze zd zc zb za yz yy yx yw yv yu yt ys yr yq yp yo yn ym yl yk yj yi yh yg yf ye yd yc yb ya xz xy xx xw xv xu xt xs xr xq xp xo xn xm xl xk xj xi xh xg xf xe xd xc xb xa wz wy wx ww wv wu wt ws wr wq wp wo wn wm wl wk wj wi wh wg wf we wd wc wb wa vz:Value)(h:aF)
theorem aQt:bT prog O L 6 [N,P,Q,R] h=ob (O (.func 10) [N,P,Q,R] h) λaa h=>ob (cX 28 [(.I 0),(.slice none 0 0),(.I 0),(.I 0),(.I 0),(.I 0),(.I 0),(.I 0),(.slice none 0 0),(.int .u16 0),(.slice none 0 0)] .fix h) λab h=>ob (stN 11 ab aa h) λac h=>ob (ldN 11 ab h) λad h=>ob (O (.func 21) [ad] h) λae h=>ob (aG (ext 0 ae) h) λaf h=>ob (aG (ext 1 ae) h) λag h=>ob (aG (bin prog .neq 51 ag (.int .u16 0)) h) λah h=>ob (gd ah false (cI af) h) λai h=>ob (gd ah false (aG (bin prog .eql 60 ai (.pointer none))) h) λaj h=>ob (aG (cQ ah (.bool true) aj) h) λak h=>ob (gd ak false (O (.func 22) []) h) λal h=>ob (gd ak false (aG (un prog .not al)) h) λam h=>ob (aG (cQ ak (.bool true) am) h) λan h=>aO an (some (aL [(.bool false)],h)) (ob (O (.func 23) [af] h) λao h=>ob (cX 28 [(.I 0),(.slice none 0 0),(.I 0),(.I 0),(.I 0),(.I 0),(.I 0),(.I 0),(.slice none 0 0),(.int .u16 0),(.slice none 0 0)] .fix h) λap h=>ob (stN 11 ap ao h) λaq h=>ob (O (.func 24) [af] h) λar h=>ob (aG (aJ 10 ap) h) λau h=>ob (ld1 au h) λav h=>ifB (true) (ob (aG (aZ av) h) λaw h=>ob (aG (aJ 0 ab) h) λax h=>ob (ld1 ax h) λay h=>ifB (true) (ob (aG (bin prog .neq 3 aw ay) h) λaz h=>ob (gd az false (aG (aJ 10 ap)) h) λba h=>ob (gd az false (ld1 ba) h) λbb h=>ifB (true) (ob (gd az false (aG (aT 1 bb (.I 0))) h) λbc h=>ob (gd az false (ld1 bc) h) λbd h=>ifB (true) (ob (gd az false (aG (aZ bd)) h) λbe h=>ob (gd az false (aG (aJ 0 ab)) h) λbf h=>ob (gd az false (ld1 bf) h) λbg h=>ifB (true) (ob (gd az false (aG (bin prog .neq 3 be bg)) h) λbh h=>ob (aG (cQ az (.bool true) bh) h) λbi h=>ob (gd bi false (aG (aJ 8 ap)) h) λbj h=>ob (gd bi false (ld1 bj) h) λbk h=>ifB (true) (ob (gd bi false (aG (aZ bk)) h) λbl h=>ob (gd bi false (aG (aJ 2 ab)) h) λbm h=>ob (gd bi false (ld1 bm) h) λbn h=>ifB (true) (ob (gd bi false (aG (bin prog .neq 3 bl bn)) h) λbo h=>ob (aG (cQ bi (.bool true) bo) h) λbp h=>ob (gd bp false (aG (aJ 1 ap)) h) λbq h=>ob (gd bp false (ld1 bq) h) λbr h=>ifB (true) (ob (gd bp false (aG (aZ br)) h) λbs h=>ob (gd bp false (aG (aJ 1 ab)) h) λbt h=>ob (gd bp false (ld1 bt) h) λbu h=>ifB (true) (ob (gd bp false (aG (aZ bu)) h) λbv h=>ob (gd bp false (aG (bin prog .neq 3 bs bv)) h) λbw h=>ob (aG (cQ bp (.bool true) bw) h) λbx h=>ob (gd bx false (cI ar) h) λbz h=>ob (gd bx false (aG (aZ bz)) h) λca h=>ob (gd bx false (aG (aJ 1 ab)) h) λcb h=>ob (gd bx false (ld1 cb) h) λcc h=>ifB (true) (ob (gd bx false (aG (aZ cc)) h) λcd h=>ob (gd bx false (aG (bin prog .mul 3 (.I 2) cd)) h) λce h=>ob (gd bx false (aG (bin prog .neq 3 ca ce)) h) λcf h=>ob (aG (cQ bx (.bool true) cf) h) λcg h=>aO cg (some (aL [(.bool false)],h)) (ob (aG (aJ 10 ap) h) λch h=>ob (ld1 ch h) λci h=>ob (aG (aT 1 ci (.I 0)) h) λcj h=>ob (ld1 cj h) λck h=>ob (aG (aT 1 ck (.I 0)) h) λcl h=>ob (stN 1 cl (.I 77) h) λcm h=>ob (aG (aJ 8 ap) h) λcn h=>ob (ld1 cn h) λco h=>ob (aG (aT 1 co (.I 0)) h) λcp h=>ob (stN 1 cp (.I 77) h) λcq h=>ob (aG (aJ 1 ap) h) λcr h=>ob (ld1 cr h) λcs h=>ob (aG (aT 2 cs (.I 0)) h) λct h=>ob (aG (aJ 0 ct) h) λcu h=>ob (stN 1 cu (.I 77) h) λcv h=>ob (aG (aT 2 ar (.I 0)) h) λcw h=>ob (aG (aJ 0 cw) h) λcx h=>ob (stN 1 cx (.I 77) h) λcy h=>ob (O (.func 23) [af] h) λcz h=>ob (cX 28 [(.I 0),(.slice none 0 0),(.I 0),(.I 0),(.I 0),(.I 0),(.I 0),(.I 0),(.slice none 0 0),(.int .u16 0),(.slice none 0 0)] .fix h) λda h=>ob (stN 11 da cz h) λdb h=>ob (aG (aJ 10 da) h) λdc h=>ob (ld1 dc h) λdd h=>ifB (true) (ob (aG (aT 1 dd (.I 0)) h) λde h=>ob (ld1 de h) λdf h=>ifB (true) (ob (aG (aT 1 df (.I 0)) h) λdg h=>ob (ld1 dg h) λdh h=>ifB (true) (ob (aG (aJ 10 ab) h) λdi h=>ob (ld1 di h) λdj h=>ifB (true) (ob (aG (aT 1 dj (.I 0)) h) λdk h=>ob (ld1 dk h) λdl h=>ifB (true) (ob (aG (aT 1 dl (.I 0)) h) λdm h=>ob (ld1 dm h) λdn h=>ifB (true) (ob (aG (bin prog .eql 3 dh dn) h) λdp h=>ob (gd dp true (aG (aJ 8 da)) h) λdq h=>ob (gd dp true (ld1 dq) h) λdr h=>ifB (true) (ob (gd dp true (aG (aT 1 dr (.I 0))) h) λds h=>ob (gd dp true (ld1 ds) h) λdt h=>ifB (true) (ob (gd dp true (aG (aJ 8 ab)) h) λdu h=>ob (gd dp true (ld1 du) h) λdv h=>ifB (true) (ob (gd dp true (aG (aT 1 dv (.I 0))) h) λdw h=>ob (gd dp true (ld1 dw) h) λdx h=>ifB (true) (ob (gd dp true (aG (bin prog .eql 3 dt dx)) h) λdy h=>ob (aG (cQ dp dy (.bool false)) h) λdz h=>ob (gd dz true (aG (aJ 1 da)) h) λea h=>ob (gd dz true (ld1 ea) h) λeb h=>ifB (true) (ob (gd dz true (aG (aT 2 eb (.I 0))) h) λec h=>ob (gd dz true (ldN 2 ec) h) λed h=>ifB (true) (ob (gd dz true (aG (aJ 1 ab)) h) λee h=>ob (gd dz true (ld1 ee) h) λef h=>ifB (true) (ob (gd dz true (aG (aT 2 ef (.I 0))) h) λeg h=>ob (gd dz true (ldN 2 eg) h) λeh h=>ifB (true) (ob (gd dz true (aG (bin prog .eql 34 ed eh)) h) λei h=>ob (aG (cQ dz ei (.bool false)) h) λej h=>ob (gd ej true (cI af) h) λek h=>ob (gd ej true (O (.func 24) [ek]) h) λel h=>ifB (true) (ob (gd ej true (aG (aT 2 el (.I 0))) h) λem h=>ob (gd ej true (aG (aJ 0 em)) h) λen h=>ob (gd ej true (ld1 en) h) λeo h=>ifB (true) (ob (gd ej true (aG (bin prog .neq 3 eo (.I 77))) h) λep h=>ob (aG (cQ ej ep (.bool false)) h) λeq h=>some (aL [eq],h))))))))))))))))))))))))))))):=by kernel_rfl
def Tj:Code:=bR [1,1,1,1,0,1,0,0] (cG prog 7)
def Tl:KV:=(dY 2 (eK prog O L (bR [1,1,1,1,1] (cG prog 7)) (eX prog Tryz.f7)))
theorem aQw:Tl O L (.exit 2) [a,b,c,d,e,f,g,i,j,l,m,n,o,p,q,r,s,t,u,v,w,x,y,z,A,B,C,D,E,F,G,H,I,J,zz,zy,zx,zw,zv,zu,zt,zs,zr,zq,zp,zo,zn,zm,zl,zk,zj,zi,zh,zg,zf,ze,zd,zc] h=ob (O (.func 27) [n] h) λaa h=>ob (aG (bin prog .rem 5 e (.int .u8 30)) h) λab h=>ob (eA prog 5 3 ab h) λac h=>ob (aG (bin prog .eql 3 aa ac) h) λad h=>some (aL [ad],h):=by kernel_rfl
theorem aDg:aN prog O L Tj k [a,b,c,d,e,f,g,i,j,l,m,n,o,p,q,r,s,t,u,v,w,x,y,z,A,B,C,D,E,F,G,H,I,J,zz,zy,zx,zw,zv,zu,zt,zs,zr,zq,zp,zo,zn,zm,zl,zk,zj,zi,zh,zg,zf,ze,zd,zc] h=ob (aG (bin prog .lss 3 q (.I 6)) h) λaa h=>aO aa (ob (O (.func 26) [n,q] h) λab h=>ob (aG (aZ ab) h) λac h=>ob (aG (bin prog .gtr 3 ac (.I 0)) h) λad h=>aO ad (k .ret [a,b,c,d,e,f,g,i,j,l,(.bool false),n,o,p,q,r,s,t,u,v,w,x,y,z,A,B,C,D,E,F,G,H,I,J,zz,zy,zx,zw,zv,zu,zt,zs,zr,q,aa,zo,zn,n,q,ab,ac,ad,zh,zg,zf,ze,zd,zc] h) (ob (aG (bin prog .add 3 q (.I 1)) h) λae h=>k .normal [a,b,c,d,e,f,g,i,j,l,m,n,o,p,ae,r,s,t,u,v,w,x,y,z,A,B,C,D,E,F,G,H,I,J,zz,zy,zx,zw,zv,zu,zt,zs,zr,q,aa,q,ae,n,q,ab,ac,ad,zh,zg,zf,ze,zd,zc] h)) (k (.exit 2) [a,b,c,d,e,f,g,i,j,l,m,n,o,p,q,r,s,t,u,v,w,x,y,z,A,B,C,D,E,F,G,H,I,J,zz,zy,zx,zw,zv,zu,zt,zs,zr,q,aa,zo,zn,zm,zl,zk,zj,zi,zh,zg,zf,ze,zd,zc] h):=by kernel_rfl
def Ti:Code:=bR [1,1,1,0,1,0,0] (cG prog 7)
def Tk:KV:=(dY 0 (eK prog O L (bR [1,1,1,1] (cG prog 7)) (eX prog Tryz.f7)))
theorem aQv:Tk O L (.exit 0) [a,b,c,d,e,f,g,i,j,l,m,n,o,p,q,r,s,t,u,v,w,x,y,z,A,B,C,D,E,F,G,H,I,J,zz,zy,zx,zw,zv,zu,zt,zs,zr,zq,zp,zo,zn,zm,zl,zk,zj,zi,zh,zg,zf,ze,zd,zc] h=L (aN prog O L Tj) (Tl O L) [a,b,c,d,e,f,g,i,j,l,m,n,o,p,(.I 0),r,s,t,u,v,w,x,y,z,A,B,C,D,E,F,G,H,I,J,zz,zy,zx,zw,zv,zu,zt,zs,zr,zq,zp,zo,zn,zm,zl,zk,zj,zi,zh,zg,zf,ze,zd,zc] h:=by kernel_rfl
theorem aDf:aN prog O L Ti k [a,b,c,d,e,f,g,i,j,l,m,n,o,p,q,r,s,t,u,v,w,x,y,z,A,B,C,D,E,F,G,H,I,J,zz,zy,zx,zw,zv,zu,zt,zs,zr,zq,zp,zo,zn,zm,zl,zk,zj,zi,zh,zg,zf,ze,zd,zc] h=ob (aG (bin prog .rem 5 e (.int .u8 30)) h) λaa h=>ob (eA prog 5 3 aa h) λab h=>ob (aG (bin prog .lss 3 p ab) h) λac h=>aO ac (ob (O (.func 25) [n] h) λad h=>ob (aG (bin prog .add 3 p (.I 1)) h) λae h=>k .normal [a,b,c,d,e,f,g,i,j,l,m,n,o,ae,q,r,s,t,u,v,w,x,y,z,A,B,C,D,E,F,G,H,I,J,p,e,aa,ab,ac,p,ae,n,ad,zq,zp,zo,zn,zm,zl,zk,zj,zi,zh,zg,zf,ze,zd,zc] h) (k (.exit 0) [a,b,c,d,e,f,g,i,j,l,m,n,o,p,q,r,s,t,u,v,w,x,y,z,A,B,C,D,E,F,G,H,I,J,p,e,aa,ab,ac,zu,zt,zs,zr,zq,zp,zo,zn,zm,zl,zk,zj,zi,zh,zg,zf,ze,zd,zc] h):=by kernel_rfl
theorem aQx:bT prog O L 7 [N,P,Q,R,S] h=ob (O (.func 10) [N,P,Q,R] h) λaa h=>ob (O (.func 21) [aa] h) λab h=>ob (aG (ext 0 ab) h) λac h=>ob (aG (ext 1 ab) h) λad h=>ob (aG (bin prog .neq 51 ad (.int .u16 0)) h) λae h=>ob (gd ae false (cI ac) h) λaf h=>ob (gd ae false (aG (bin prog .eql 60 af (.pointer none))) h) λag h=>ob (aG (cQ ae (.bool true) ag) h) λah h=>ob (gd ah false (O (.func 22) []) h) λai h=>ob (gd ah false (aG (un prog .not ai)) h) λaj h=>ob (aG (cQ ah (.bool true) aj) h) λak h=>aO ak (some (aL [(.bool false)],h)) (L (aN prog O L Ti) (Tk O L) [N,P,Q,R,S,undef,undef,undef,undef,undef,(.bool false),ac,ad,(.I 0),undef,ab,N,P,Q,R,aa,ab,ac,ad,ad,ae,ae,af,ag,ah,ah,ai,aj,ak,undef,undef,undef,undef,undef,undef,undef,undef,undef,undef,undef,undef,undef,undef,undef,undef,undef,undef,undef,undef,undef,undef,undef,undef] h):=by kernel_rfl
theorem aQy:bT prog O L 9 [N,P,Q,R,S] h=ob (cX 54 (Value.cells S).toList .fix h) λaa h=>ob (O (.func 10) [N,P,Q,(.int .u16 0)] h) λab h=>ob (cX 28 [(.I 0),(.slice none 0 0),(.I 0),(.I 0),(.I 0),(.I 0),(.I 0),(.I 0),(.slice none 0 0),(.int .u16 0),(.slice none 0 0)] .fix h) λac h=>ob (stN 11 ac ab h) λad h=>ob (ldN 11 ac h) λae h=>ob (O (.func 21) [ae] h) λaf h=>ob (aG (ext 0 af) h) λag h=>ob (aG (ext 1 af) h) λah h=>ob (aG (bin prog .neq 51 ah (.int .u16 0)) h) λai h=>ob (gd ai false (cI ag) h) λaj h=>ob (gd ai false (aG (bin prog .eql 60 aj (.pointer none))) h) λak h=>ob (aG (cQ ai (.bool true) ak) h) λal h=>ob (gd al false (O (.func 22) []) h) λam h=>ob (gd al false (aG (un prog .not am)) h) λan h=>ob (aG (cQ al (.bool true) an) h) λao h=>aO ao (some (aL [(.bool false)],h)) (ob (aG (aJ 0 ac) h) λap h=>ob (ld1 ap h) λaq h=>ob (eA prog 5 3 R h) λar h=>ob (aG (bin prog .add 3 aq ar) h) λau h=>ob (aG (aJ 0 aa) h) λav h=>ob (stN 1 av au h) λaw h=>ob (ldN 4 aa h) λax h=>ob (cX 54 [(.I 0),(.I 0),(.I 0),(.int .u32 0)] .fix h) λay h=>ob (stN 4 ay ax h) λaz h=>ob (aG (aJ 0 ay) h) λba h=>ob (stN 1 ba (.I 0) h) λbb h=>ob (aG (aJ 1 ay) h) λbc h=>ob (stN 1 bc au h) λbd h=>ob (ldN 4 ay h) λbe h=>ob (cX 54 [(.I 0),(.I 0),(.I 0),(.int .u32 0)] .fix h) λbf h=>ob (stN 4 bf be h) λbg h=>ob (aG (aJ 1 bf) h) λbh h=>ob (stN 1 bh (.I 1) h) λbi h=>ob (aG (aJ 2 ac) h) λbj h=>ob (ld1 bj h) λbk h=>ob (eA prog 5 3 R h) λbl h=>ob (aG (bin prog .add 3 bk bl) h) λbm h=>ob (aG (aJ 2 bf) h) λbn h=>ob (stN 1 bn bm h) λbo h=>ob (ldN 4 aa h) λbp h=>ob (O (.func 28) [ag,bp] h) λbq h=>ob (aG (bin prog .eql 51 bq (.int .u16 1)) h) λbr h=>ob (gd br true (cI ag) h) λbs h=>ob (gd br true (ldN 4 ay) h) λbt h=>ob (gd br true (O (.func 28) [bs,bt]) h) λbu h=>ob (gd br true (aG (bin prog .eql 51 bu (.int .u16 1))) h) λbv h=>ob (aG (cQ br bv (.bool false)) h) λbw h=>ob (gd bw true (cI ag) h) λbx h=>ob (gd bw true (ldN 4 bf) h) λbz h=>ob (gd bw true (O (.func 28) [bx,bz]) h) λca h=>ob (gd bw true (aG (bin prog .eql 51 ca (.int .u16 1))) h) λcb h=>ob (aG (cQ bw cb (.bool false)) h) λcc h=>ob (gd cc true (cI ag) h) λcd h=>ob (gd cc true (O (.func 29) [cd,(.I 0),(.I 0)]) h) λce h=>ob (gd cc true (aG (bin prog .eql 51 ce (.int .u16 1))) h) λcf h=>ob (aG (cQ cc cf (.bool false)) h) λcg h=>ob (gd cg true (cI ag) h) λch h=>ob (gd cg true (O (.func 29) [ch,(.I (-1)),(.I 0)]) h) λci h=>ob (gd cg true (aG (bin prog .eql 51 ci (.int .u16 1))) h) λcj h=>ob (aG (cQ cg cj (.bool false)) h) λck h=>ob (gd ck true (cI ag) h) λcl h=>ob (gd ck true (cI au) h) λcm h=>ob (gd ck true (O (.func 30) [cl,cm]) h) λcn h=>ob (gd ck true (aG (bin prog .eql 30 cn (.pointer none))) h) λco h=>ob (aG (cQ ck co (.bool false)) h) λcp h=>ob (gd cp true (cI ag) h) λcq h=>ob (gd cp true (O (.func 30) [cq,(.I (-1))]) h) λcr h=>ob (gd cp true (aG (bin prog .eql 30 cr (.pointer none))) h) λcs h=>ob (aG (cQ cp cs (.bool false)) h) λct h=>ob (gd ct true (cI ag) h) λcu h=>ob (gd ct true (aG (aJ 1 ac)) h) λcv h=>ob (gd ct true (ld1 cv) h) λcw h=>ob (gd ct true (aG (aZ cw)) h) λcx h=>ob (gd ct true (aG (bin prog .mul 3 (.I 2) cx)) h) λcy h=>ob (gd ct true (cI R) h) λcz h=>ob (gd ct true (eA prog 5 3 cz) h) λda h=>ob (gd ct true (aG (bin prog .add 3 cy da)) h) λdb h=>ob (gd ct true (O (.func 31) [cu,db]) h) λdc h=>ob (gd ct true (aG (bin prog .eql 76 dc (.pointer none))) h) λdd h=>ob (aG (cQ ct dd (.bool false)) h) λde h=>ob (gd de true (cI ag) h) λdf h=>ob (gd de true (cI au) h) λdg h=>ob (gd de true (O (.func 26) [df,dg]) h) λdh h=>ob (gd de true (aG (aZ dh)) h) λdi h=>ob (gd de true (aG (bin prog .eql 3 di (.I 0))) h) λdj h=>ob (aG (cQ de dj (.bool false)) h) λdk h=>some (aL [dk],h)):=by kernel_rfl
theorem aQg:bT prog O L 24 [N] h=ob (aG (aP N) h) λaa h=>ob (aG (aJ 11 aa) h) λab h=>ob (ld1 ab h) λac h=>ob (O (.func 68) [ac] h) λad h=>some (aL [ad],h):=by kernel_rfl
theorem aQm:bT prog O L 31 [N,P] h=ob (aG (bin prog .lss 3 P (.I 0)) h) λaa h=>ob (gd aa false (cI P) h) λab h=>ob (gd aa false (cI N) h) λac h=>ob (gd aa false (aG (aP ac)) h) λad h=>ob (gd aa false (aG (aJ 11 ad)) h) λae h=>ob (gd aa false (ld1 ae) h) λaf h=>ob (gd aa false (aG (aZ af)) h) λag h=>ob (gd aa false (aG (bin prog .geq 3 ab ag)) h) λah h=>ob (aG (cQ aa (.bool true) ah) h) λai h=>aO ai (some (aL [(.pointer none)],h)) (ob (aG (aP N) h) λaj h=>ob (aG (aJ 13 aj) h) λak h=>ob (ld1 ak h) λal h=>ifB (true) (ob (aG (aP N) h) λam h=>ob (aG (aJ 11 am) h) λan h=>ob (ld1 an h) λao h=>ifB (true) (ob (aG (aT 2 ao P) h) λap h=>ob (ldN 2 ap h) λaq h=>ifB (true) (ob (nN (.str [true,true]) (.pointer none) false al aq h) λar h=>ifB (true) (some (aL [ar],h)))))):=by kernel_rfl
theorem aQk:bT prog O L 27 [N] h=ob (aG (aP N) h) λaa h=>ob (aG (aJ 14 aa) h) λab h=>ob (ld1 ab h) λac h=>some (aL [ac],h):=by kernel_rfl
def S0:Code:=bR [1,1,1,1,0,1,0,0] (cG prog 21)
def S2:KV:=(dY 2 (eK prog O L (bR [1,1,1,1,1] (cG prog 21)) (eX prog Tryz.f21)))
theorem aQc:S2 O L (.exit 2) [a,b,c,d,e,f,g,i,j,l,m,n,o,p,q,r,s,t,u,v,w,x,y,z,A,B,C,D,E,F,G,H,I,J,zz,zy,zx,zw,zv,zu,zt,zs,zr,zq,zp,zo,zn,zm,zl,zk,zj,zi,zh,zg,zf,ze,zd,zc,zb,za,yz] h=some (aL [f,(.int .u16 0)],h):=by kernel_rfl
theorem aC5:aN prog O L S0 k [a,b,c,d,e,f,g,i,j,l,m,n,o,p,q,r,s,t,u,v,w,x,y,z,A,B,C,D,E,F,G,H,I,J,zz,zy,zx,zw,zv,zu,zt,zs,zr,zq,zp,zo,zn,zm,zl,zk,zj,zi,zh,zg,zf,ze,zd,zc,zb,za,yz] h=ob (aG (bin prog .lss 3 zm zn) h) λaa h=>aO aa (ob (aG (aT 2 zo zm) h) λab h=>ob (ldN 2 ab h) λac h=>ob (cX 67 [(.I 0),(.I 0)] .fix h) λad h=>ob (stN 2 ad ac h) λae h=>ob (aG (aP f) h) λaf h=>ob (aG (aJ 13 af) h) λag h=>ob (ld1 ag h) λah h=>ifB (true) (ob (ldN 2 ad h) λai h=>ifB (true) (ob (aG (aJ 7 b) h) λaj h=>ob (ld1 aj h) λak h=>ifB (true) (ob (O (.func 67) [ak] h) λal h=>ifB (chk ((ldN 2 ad) h) ai&&(chk ((ld1 ag) h) ah&&(true))) (ob (qW (.str [true,true]) ah ai al h) λam h=>ifB (true) (ob (aG (bin prog .add 3 zm (.I 1)) h) λan h=>k .normal [a,b,c,d,e,f,g,i,ad,l,m,n,o,p,q,r,s,t,u,v,w,x,y,z,A,B,C,D,E,F,G,H,I,J,zz,zy,zx,zw,zv,zu,zt,zs,zr,zq,zp,zo,zn,an,aa,ab,ac,f,af,ag,ah,ai,aj,ak,al,an,yz] h)))))) (k (.exit 2) [a,b,c,d,e,f,g,i,j,l,m,n,o,p,q,r,s,t,u,v,w,x,y,z,A,B,C,D,E,F,G,H,I,J,zz,zy,zx,zw,zv,zu,zt,zs,zr,zq,zp,zo,zn,zm,aa,zk,zj,zi,zh,zg,zf,ze,zd,zc,zb,za,yz] h):=by kernel_rfl
def Sz:Code:=bR [1,1,1,0,1,0,0] (cG prog 21)
def S1:KV:=(dY 0 (eK prog O L (bR [1,1,1,1] (cG prog 21)) (eX prog Tryz.f21)))
theorem aQb:S1 O L (.exit 0) [a,b,c,d,e,f,g,i,j,l,m,n,o,p,q,r,s,t,u,v,w,x,y,z,A,B,C,D,E,F,G,H,I,J,zz,zy,zx,zw,zv,zu,zt,zs,zr,zq,zp,zo,zn,zm,zl,zk,zj,zi,zh,zg,zf,ze,zd,zc,zb,za,yz] h=ob (aG (aP f) h) λaa h=>ob (aG (aJ 11 aa) h) λab h=>ob (ld1 ab h) λac h=>ob (aG (aZ ac) h) λad h=>L (aN prog O L S0) (S2 O L) [a,b,c,d,e,f,g,i,j,l,m,n,o,p,q,r,s,t,u,v,w,x,y,z,A,B,C,D,E,F,G,H,I,J,zz,zy,zx,zw,zv,zu,zt,zs,f,aa,ab,ac,ad,(.I 0),zl,zk,zj,zi,zh,zg,zf,ze,zd,zc,zb,za,yz] h:=by kernel_rfl
theorem aC4:aN prog O L Sz k [a,b,c,d,e,f,g,i,j,l,m,n,o,p,q,r,s,t,u,v,w,x,y,z,A,B,C,D,E,F,G,H,I,J,zz,zy,zx,zw,zv,zu,zt,zs,zr,zq,zp,zo,zn,zm,zl,zk,zj,zi,zh,zg,zf,ze,zd,zc,zb,za,yz] h=ob (aG (bin prog .lss 3 z y) h) λaa h=>aO aa (ob (aG (aP f) h) λab h=>ob (aG (aJ 12 ab) h) λac h=>ob (ld1 ac h) λad h=>ifB (true) (ob (aG (aP f) h) λae h=>ob (aG (aJ 0 ae) h) λaf h=>ob (ldN 11 af h) λag h=>ifB (true) (ob (O (.func 11) [ag,z] h) λah h=>ifB (chk ((ld1 ac) h) ad&&(true)) (ob (dT 30 1 1 [(.pointer none)] [(0,ah)] h) λai h=>ob (app 30 1 8 ad ai h) λaj h=>ifB (true) (ob (aG (aP f) h) λak h=>ob (aG (aJ 12 ak) h) λal h=>ob (stN 1 al aj h) λam h=>ifB (true) (ob (aG (bin prog .add 3 z (.I 1)) h) λan h=>k .normal [a,b,c,d,e,f,z,i,j,l,m,n,o,p,q,r,s,t,u,v,w,x,y,an,aa,z,f,f,ab,ac,ad,f,ae,af,ag,z,ah,ai,aj,ak,al,an,zr,zq,zp,zo,zn,zm,zl,zk,zj,zi,zh,zg,zf,ze,zd,zc,zb,za,yz] h)))))) (k (.exit 0) [a,b,c,d,e,f,g,i,j,l,m,n,o,p,q,r,s,t,u,v,w,x,y,z,aa,B,C,D,E,F,G,H,I,J,zz,zy,zx,zw,zv,zu,zt,zs,zr,zq,zp,zo,zn,zm,zl,zk,zj,zi,zh,zg,zf,ze,zd,zc,zb,za,yz] h):=by kernel_rfl
theorem aQd:bT prog O L 21 [N] h=ob (cX 28 (Value.cells N).toList .fix h) λaa h0=>ob (ldN 11 aa h0) λab h1=>ob (O (.func 34) [ab] h1) λac h2=>ob (aG (bin prog .neq 51 ac (.int .u16 0)) h2) λad h3=>aO ad (some (aL [(.pointer none),ac],h3)) (ob (ldN 11 aa h3) λae h4=>ifB (true) (ob (O (.func 65) [ae] h4) λaf h5=>ifB (true) (ob (ldN 11 aa h5) λag h6=>ifB (chk ((ldN 11 aa) h4) ag&&(true)) (ob (O (.func 66) [ag] h6) λah h7=>ifB (true) (ob (qH h7) λai h8=>ob (aG (bld prog 149 [(0,af),(1,ah),(3,ai)]) h8) λaj h9=>ob (cX 149 (Value.cells aj).toList .fix h9) λak h10=>ob (aG (aJ 0 aa) h10) λal h11=>ob (ld1 al h11) λam h12=>L (aN prog O L Sz) (S1 O L) [N,aa,(.pointer none),(.int .u16 0),ac,ak,undef,undef,undef,ab,ac,ac,ad,undef,ae,af,ag,ah,ai,aj,ak,al,am,(.I 0),undef,undef,undef,undef,undef,undef,undef,undef,undef,undef,undef,undef,undef,undef,undef,undef,undef,undef,undef,undef,undef,undef,undef,undef,undef,undef,undef,undef,undef,undef,undef,undef,undef,undef,undef,undef,undef] h12))))):=by kernel_rfl
theorem aC9:bT prog O L 28 [N,P] h=ob (cX 54 (Value.cells P).toList .fix h) λaa h=>ob (aG (aJ 0 aa) h) λab h=>ob (ld1 ab h) λac h=>ob (O (.func 30) [N,ac] h) λad h=>ob (aG (bin prog .neq 30 ad (.pointer none)) h) λae h=>aO ae (ob (ldN 4 aa h) λaf h=>ob (O (.func 18) [ad,af] h) λag h=>some (aL [ag],h)) (some (aL [(.int .u16 1)],h)):=by kernel_rfl
theorem aQe:bT prog O L 22 [] h=ob (dT 5 1 1 [(.int .u8 0)] [(0,(.int .u8 0))] h) λaa h=>ob (O (.func 10) [aa,(.int .u8 1),(.int .u8 0),(.int .u16 0)] h) λab h=>ob (O (.func 21) [ab] h) λac h=>ob (aG (ext 0 ac) h) λad h=>ob (aG (ext 1 ac) h) λae h=>ob (aG (bin prog .neq 51 ae (.int .u16 0)) h) λaf h=>ob (gd af false (cI ad) h) λag h=>ob (gd af false (aG (bin prog .eql 60 ag (.pointer none))) h) λah h=>ob (aG (cQ af (.bool true) ah) h) λai h=>ob (gd ai false (cI ad) h) λaj h=>ob (gd ai false (O (.func 30) [aj,(.I 0)]) h) λak h=>ob (gd ai false (aG (bin prog .eql 30 ak (.pointer none))) h) λal h=>ob (aG (cQ ai (.bool true) al) h) λam h=>ob (gd am false (cI ad) h) λan h=>ob (gd am false (O (.func 31) [an,(.I 0)]) h) λao h=>ob (gd am false (aG (bin prog .eql 76 ao (.pointer none))) h) λap h=>ob (aG (cQ am (.bool true) ap) h) λaq h=>ob (gd aq false (cI ad) h) λar h=>ob (gd aq false (O (.func 30) [ar,(.I 1)]) h) λau h=>ob (gd aq false (aG (bin prog .eql 30 au (.pointer none))) h) λav h=>ob (aG (cQ aq (.bool true) av) h) λaw h=>ob (gd aw false (cI ad) h) λax h=>ob (gd aw false (O (.func 30) [ax,(.I 1)]) h) λay h=>ob (gd aw false (O (.func 42) [ay]) h) λaz h=>ob (gd aw false (aG (bin prog .eql 83 az (.pointer none))) h) λba h=>ob (aG (cQ aw (.bool true) ba) h) λbb h=>aO bb (some (aL [(.bool false)],h)) (ob (aG (bld prog 54 [(0,(.I 0)),(1,(.I 1)),(3,(.int .u32 7))]) h) λbc h=>ob (O (.func 28) [ad,bc] h) λbd h=>ob (O (.func 25) [ad] h) λbe h=>ob (O (.func 25) [ad] h) λbf h=>ob (O (.func 26) [ad,(.I 1)] h) λbg h=>ob (aG (bin prog .eql 51 bd (.int .u16 0)) h) λbh h=>ob (gd bh true (cI bg) h) λbi h=>ob (gd bh true (aG (aZ bi)) h) λbj h=>ob (gd bh true (aG (bin prog .eql 3 bj (.I 1))) h) λbk h=>ob (aG (cQ bh bk (.bool false)) h) λbl h=>ob (gd bl true (cI bg) h) λbm h=>ob (gd bl true (aG (aT 4 bm (.I 0))) h) λbn h=>ob (gd bl true (aG (aJ 3 bn)) h) λbo h=>ob (gd bl true (ld1 bo) h) λbp h=>ob (gd bl true (aG (bin prog .eql 37 bp (.int .u32 7))) h) λbq h=>ob (aG (cQ bl bq (.bool false)) h) λbr h=>ob (gd br true (cI ad) h) λbs h=>ob (gd br true (O (.func 27) [bs]) h) λbt h=>ob (gd br true (aG (bin prog .eql 3 bt (.I 2))) h) λbu h=>ob (aG (cQ br bu (.bool false)) h) λbv h=>ob (gd bv true (cI ad) h) λbw h=>ob (gd bv true (O (.func 24) [bw]) h) λbx h=>ob (gd bv true (aG (aZ bx)) h) λbz h=>ob (gd bv true (aG (bin prog .eql 3 bz (.I 2))) h) λca h=>ob (aG (cQ bv ca (.bool false)) h) λcb h=>ob (gd cb true (cI ad) h) λcc h=>ob (gd cb true (O (.func 23) [cc]) h) λcd h=>ob (gd cb true (aG (Ak 0 cd)) h) λce h=>ob (gd cb true (aG (bin prog .eql 3 ce (.I 2))) h) λcf h=>ob (aG (cQ cb cf (.bool false)) h) λcg h=>ob (gd cg true (cI ad) h) λch h=>ob (gd cg true (O (.func 30) [ch,(.I 2)]) h) λci h=>ob (gd cg true (aG (bin prog .eql 30 ci (.pointer none))) h) λcj h=>ob (aG (cQ cg cj (.bool false)) h) λck h=>ob (gd ck true (cI ad) h) λcl h=>ob (gd ck true (O (.func 31) [cl,(.I 2)]) h) λcm h=>ob (gd ck true (aG (bin prog .eql 76 cm (.pointer none))) h) λcn h=>ob (aG (cQ ck cn (.bool false)) h) λco h=>ob (gd co true (cI ad) h) λcp h=>ob (gd co true (O (.func 29) [cp,(.I 9),(.I 0)]) h) λcq h=>ob (gd co true (aG (bin prog .eql 51 cq (.int .u16 1))) h) λcr h=>ob (aG (cQ co cr (.bool false)) h) λcs h=>some (aL [cs],h)):=by kernel_rfl
theorem aQf:bT prog O L 23 [N] h=ob (cX 28 [(.I 0),(.slice none 0 0),(.I 0),(.I 0),(.I 0),(.I 0),(.I 0),(.I 0),(.slice none 0 0),(.int .u16 0),(.slice none 0 0)] .fix h) λaa h=>ob (aG (aP N) h) λab h=>ob (aG (aJ 0 ab) h) λac h=>ob (ldN 11 ac h) λad h=>ob (O (.func 65) [ad] h) λae h=>ob (stN 11 aa ae h) λaf h=>ob (ldN 11 aa h) λw6 _=>some (aL [w6],h):=by kernel_rfl
def S4:Code:=bR [1,1,0,0,1,1,0,0,1,1,0,0] (cG prog 25)
def S7:KV:=(dY 2 (dY 1 (eK prog O L (bR [1,1,0,0,1,1,1] (cG prog 25)) k)))
def S5 (O:aH)(L:LV) (k:KV) (a b c d e f g i j l m n o p q r s t u v w x y z A:Value) (h:aF):OV:=ob (aG (bin prog .add 3 m (.I 1)) h) λaa h=>k .normal [a,b,c,d,e,f,g,i,j,l,aa,n,o,p,q,r,s,t,u,v,w,x,y,z,aa] h
theorem aQi:S7 O L k (.exit 2) [a,b,c,d,e,f,g,i,j,l,m,n,o,p,q,r,s,t,u,v,w,x,y,z,A] h=S5 O L k a b c d e f g i j l m n o p q r s t u v w x y z A h:=by kernel_rfl
theorem aC7:aN prog O L S4 k [a,b,c,d,e,f,g,i,j,l,m,n,o,p,q,r,s,t,u,v,w,x,y,z,A] h=ob (aG (bin prog .lss 3 u t) h) λaa h=>aO aa (ob (O (.func 29) [a,c,(.I 0)] h) λab h=>ob (aG (bin prog .add 3 u (.I 1)) h) λac h=>k .normal [a,b,c,d,e,f,g,i,j,l,m,n,o,p,q,r,s,t,ac,aa,a,c,ab,ac,A] h) (k (.exit 2) [a,b,c,d,e,f,g,i,j,l,m,n,o,p,q,r,s,t,u,aa,w,x,y,z,A] h):=by kernel_rfl
def S3:Code:=bR [1,1,0,0] (cG prog 25)
def S6 (O:aH)(L:LV):KV:=(dY 0 (eX prog Tryz.f25))
theorem aQh:S6 O L (.exit 0) [a,b,c,d,e,f,g,i,j,l,m,n,o,p,q,r,s,t,u,v,w,x,y,z,A] h=some (aL [],h):=by kernel_rfl
theorem aC6:aN prog O L S3 k [a,b,c,d,e,f,g,i,j,l,m,n,o,p,q,r,s,t,u,v,w,x,y,z,A] h=ob (aG (bin prog .lss 3 m l) h) λaa h=>aO aa (ob (O (.func 31) [a,m] h) λab h=>ob (O (.func 70) [ab] h) λac h=>ob (aG (aZ ac) h) λad h=>L (aN prog O L S4) (S7 O L k) [a,b,m,d,e,f,g,i,j,l,m,aa,m,a,m,ab,ac,ad,(.I 0),v,w,x,y,z,A] h) (k (.exit 0) [a,b,c,d,e,f,g,i,j,l,m,aa,o,p,q,r,s,t,u,v,w,x,y,z,A] h):=by kernel_rfl
theorem aQj:bT prog O L 25 [N] h=ob (O (.func 69) [N] h) λaa h=>ob (aG (aP N) h) λab h=>ob (aG (aJ 11 ab) h) λac h=>ob (ld1 ac h) λad h=>ob (aG (aZ ad) h) λae h=>L (aN prog O L S3) (S6 O L) [N,undef,undef,N,aa,N,ab,ac,ad,ae,(.I 0),undef,undef,undef,undef,undef,undef,undef,undef,undef,undef,undef,undef,undef,undef] h:=by kernel_rfl
theorem aC8:bT prog O L 26 [N,P] h=ob (O (.func 30) [N,P] h) λaa h=>ob (aG (bin prog .neq 30 aa (.pointer none)) h) λab h=>aO ab (ob (O (.func 42) [aa] h) λac h=>ob (O (.func 46) [ac] h) λad h=>some (aL [ad],h)) (some (aL [(.slice none 0 0)],h)):=by kernel_rfl
theorem S8:bT prog O L 29 [N,P,Q] h=ob (O (.func 31) [N,P] h) λaa h=>ob (aG (bin prog .eql 76 aa (.pointer none)) h) λab h=>aO ab (some (aL [(.int .u16 1)],h)) (ob (O (.func 71) [aa,Q] h) λac h=>ob (aG (ext 0 ac) h) λad h=>ob (aG (ext 1 ac) h) λae h=>ob (aG (un prog .not ae) h) λaf h=>aO af (some (aL [(.int .u16 1)],h)) (ob (aG (aP N) h) λag h=>ob (aG (aJ 12 ag) h) λah h=>ob (ld1 ah h) λai h=>ifB (true) (ob (aG (aP N) h) λaj h=>ob (aG (aJ 11 aj) h) λak h=>ob (ld1 ak h) λal h=>ifB (true) (ob (aG (aT 2 al P) h) λam h=>ob (aG (aJ 1 am) h) λan h=>ob (ld1 an h) λao h=>ifB (true) (ob (aG (aT 1 ai ao) h) λap h=>ob (ld1 ap h) λaq h=>ifB (true) (ob (aG (aP N) h) λar h=>ob (aG (aJ 11 ar) h) λau h=>ob (ld1 au h) λav h=>ifB (true) (ob (aG (aT 2 av P) h) λaw h=>ob (aG (aJ 0 aw) h) λax h=>ob (ld1 ax h) λay h=>ifB (true) (ob (O (.func 45) [aq,ay,ad] h) λaz h=>ifB (true) (some (aL [az],h)))))))))):=by kernel_rfl
theorem aQl:bT prog O L 30 [N,P] h=ob (aG (aP N) h) λaa h=>ob (aG (aJ 12 aa) h) λab h=>ob (ld1 ab h) λac h=>ob (O (.func 72) [ac,P] h) λad h=>some (aL [ad],h):=by kernel_rfl
def Td:Code:=bR [1,1,0,1,0,0,1,1,0,0,1,1,0,0] (cG prog 69)
def Th:KV:=(dY 4 (dY 3 (eK prog O L (bR [1,1,0,1,0,0,1,1,1] (cG prog 69)) k)))
def Te (O:aH)(L:LV) (k:KV) (a b c d e f g i j l m n o p q r s t u v w x y z A B C D E F G H I J zz zy zx zw zv zu zt zs zr zq zp zo zn zm zl zk zj zi zh zg zf ze zd zc zb za yz yy yx yw yv yu yt ys:Value) (h:aF):OV:=ob (aG (bin prog .add 3 zx (.I 1)) h) λaa h=>k .normal [a,b,c,d,e,f,g,i,j,l,m,n,o,p,q,r,s,t,u,v,w,x,y,z,A,B,C,D,E,F,G,H,I,J,zz,zy,aa,zw,zv,zu,zt,zs,zr,zq,zp,zo,zn,zm,zl,zk,zj,zi,zh,zg,zf,ze,zd,zc,zb,za,aa,yy,yx,yw,yv,yu,yt,ys] h
theorem aQr:Th O L k (.exit 4) [a,b,c,d,e,f,g,i,j,l,m,n,o,p,q,r,s,t,u,v,w,x,y,z,A,B,C,D,E,F,G,H,I,J,zz,zy,zx,zw,zv,zu,zt,zs,zr,zq,zp,zo,zn,zm,zl,zk,zj,zi,zh,zg,zf,ze,zd,zc,zb,za,yz,yy,yx,yw,yv,yu,yt,ys] h=Te O L k a b c d e f g i j l m n o p q r s t u v w x y z A B C D E F G H I J zz zy zx zw zv zu zt zs zr zq zp zo zn zm zl zk zj zi zh zg zf ze zd zc zb za yz yy yx yw yv yu yt ys h:=by kernel_rfl
theorem aDe:aN prog O L Td k [a,b,c,d,e,f,g,i,j,l,m,n,o,p,q,r,s,t,u,v,w,x,y,z,A,B,C,D,E,F,G,H,I,J,zz,zy,zx,zw,zv,zu,zt,zs,zr,zq,zp,zo,zn,zm,zl,zk,zj,zi,zh,zg,zf,ze,zd,zc,zb,za,yz,yy,yx,yw,yv,yu,yt,ys] h=ob (aG (bin prog .lss 3 zq zr) h) λaa h=>aO aa (ob (aG (aT 2 zs zq) h) λab h=>ob (ldN 2 ab h) λac h=>ob (cX 43 [(.I 0),(.slice none 0 0)] .fix h) λad h=>ob (stN 2 ad ac h) λae h=>ob (aG (aP a) h) λaf h=>ob (aG (aJ 13 af) h) λag h=>ob (ld1 ag h) λah h=>ifB (true) (ob (aG (aJ 0 ad) h) λai h=>ob (ld1 ai h) λaj h=>ifB (true) (ob (aG (bld prog 67 [(0,g),(1,aj)]) h) λak h=>ob (nN (.str [true,true]) (.pointer none) false ah ak h) λal h=>ifB (true) (ob (aG (aJ 1 ad) h) λam h=>ob (ld1 am h) λan h=>ifB (true) (ob (O (.func 122) [al,an] h) λao h=>ifB (true) (ob (aG (bin prog .add 3 zq (.I 1)) h) λap h=>k .normal [a,b,c,d,e,f,g,i,j,ad,m,n,o,p,q,r,s,t,u,v,w,x,y,z,A,B,C,D,E,F,G,H,I,J,zz,zy,zx,zw,zv,zu,zt,zs,zr,ap,aa,ab,ac,a,af,ag,ah,g,ai,aj,ak,al,am,an,ao,ap,yz,yy,yx,yw,yv,yu,yt,ys] h)))))) (k (.exit 4) [a,b,c,d,e,f,g,i,j,l,m,n,o,p,q,r,s,t,u,v,w,x,y,z,A,B,C,D,E,F,G,H,I,J,zz,zy,zx,zw,zv,zu,zt,zs,zr,zq,aa,zo,zn,zm,zl,zk,zj,zi,zh,zg,zf,ze,zd,zc,zb,za,yz,yy,yx,yw,yv,yu,yt,ys] h):=by kernel_rfl
def Tc:Code:=bR [1,1,0,1,0,0] (cG prog 69)
def Tg:KV:=(dY 2 (eK prog O L (bR [1,1,1] (cG prog 69)) (eX prog Tryz.f69)))
theorem aQq:Tg O L (.exit 2) [a,b,c,d,e,f,g,i,j,l,m,n,o,p,q,r,s,t,u,v,w,x,y,z,A,B,C,D,E,F,G,H,I,J,zz,zy,zx,zw,zv,zu,zt,zs,zr,zq,zp,zo,zn,zm,zl,zk,zj,zi,zh,zg,zf,ze,zd,zc,zb,za,yz,yy,yx,yw,yv,yu,yt,ys] h=ob (aG (aP a) h) λaa h=>ob (aG (aJ 14 aa) h) λab h=>ob (ld1 ab h) λac h=>ob (aG (bin prog .add 3 ac (.I 1)) h) λad h=>ob (aG (aP a) h) λae h=>ob (aG (aJ 14 ae) h) λaf h=>ob (stN 1 af ad h) λag h=>some (aL [],h):=by kernel_rfl
theorem aDd:aN prog O L Tc k [a,b,c,d,e,f,g,i,j,l,m,n,o,p,q,r,s,t,u,v,w,x,y,z,A,B,C,D,E,F,G,H,I,J,zz,zy,zx,zw,zv,zu,zt,zs,zr,zq,zp,zo,zn,zm,zl,zk,zj,zi,zh,zg,zf,ze,zd,zc,zb,za,yz,yy,yx,yw,yv,yu,yt,ys] h=ob (aG (bin prog .lss 3 zx zy) h) λaa h=>aO aa (ob (aG (aT 1 zz zx) h) λab h=>ob (ld1 ab h) λac h=>ob (aG (aZ ac) h) λad h=>L (aN prog O L Td) (Th O L k) [a,b,c,d,e,f,zx,ac,j,l,m,n,o,p,q,r,s,t,u,v,w,x,y,z,A,B,C,D,E,F,G,H,I,J,zz,zy,zx,aa,zx,ab,ac,ac,ad,(.I 0),zp,zo,zn,zm,zl,zk,zj,zi,zh,zg,zf,ze,zd,zc,zb,za,yz,yy,yx,yw,yv,yu,yt,ys] h) (k (.exit 2) [a,b,c,d,e,f,g,i,j,l,m,n,o,p,q,r,s,t,u,v,w,x,y,z,A,B,C,D,E,F,G,H,I,J,zz,zy,zx,aa,zv,zu,zt,zs,zr,zq,zp,zo,zn,zm,zl,zk,zj,zi,zh,zg,zf,ze,zd,zc,zb,za,yz,yy,yx,yw,yv,yu,yt,ys] h):=by kernel_rfl
def Tb:Code:=bR [1,0,1,0,0] (cG prog 69)
def Tf:KV:=(dY 0 (eK prog O L (bR [1,1] (cG prog 69)) (eX prog Tryz.f69)))
theorem aQp:Tf O L (.exit 0) [a,b,c,d,e,f,g,i,j,l,m,n,o,p,q,r,s,t,u,v,w,x,y,z,A,B,C,D,E,F,G,H,I,J,zz,zy,zx,zw,zv,zu,zt,zs,zr,zq,zp,zo,zn,zm,zl,zk,zj,zi,zh,zg,zf,ze,zd,zc,zb,za,yz,yy,yx,yw,yv,yu,yt,ys] h=ob (aG (aZ c) h) λaa h=>L (aN prog O L Tc) (Tg O L) [a,b,c,d,e,f,g,i,j,l,m,n,o,p,q,r,s,t,u,v,w,x,y,z,A,B,C,D,E,F,G,H,I,J,c,aa,(.I 0),zw,zv,zu,zt,zs,zr,zq,zp,zo,zn,zm,zl,zk,zj,zi,zh,zg,zf,ze,zd,zc,zb,za,yz,yy,yx,yw,yv,yu,yt,ys] h:=by kernel_rfl
theorem aDc:aN prog O L Tb k [a,b,c,d,e,f,g,i,j,l,m,n,o,p,q,r,s,t,u,v,w,x,y,z,A,B,C,D,E,F,G,H,I,J,zz,zy,zx,zw,zv,zu,zt,zs,zr,zq,zp,zo,zn,zm,zl,zk,zj,zi,zh,zg,zf,ze,zd,zc,zb,za,yz,yy,yx,yw,yv,yu,yt,ys] h=ob (aG (bin prog .lss 3 x w) h) λaa h=>aO aa (ob (aG (aT 1 v x) h) λab h=>ob (ld1 ab h) λac h=>ob (oJ O (.func (.func 13) #[ac] #[]) [] h) λad h=>ob (aG (aT 1 c x) h) λae h=>ob (stN 1 ae ad h) λaf h=>ob (aG (bin prog .add 3 x (.I 1)) h) λag h=>k .normal [a,b,c,x,ac,(.func (.func 13) #[ac] #[]),g,i,j,l,m,n,o,p,q,r,s,t,u,v,w,ag,aa,x,ab,ac,ac,(.func (.func 13) #[ac] #[]),c,x,(.func (.func 13) #[ac] #[]),ad,ae,ag,zz,zy,zx,zw,zv,zu,zt,zs,zr,zq,zp,zo,zn,zm,zl,zk,zj,zi,zh,zg,zf,ze,zd,zc,zb,za,yz,yy,yx,yw,yv,yu,yt,ys] h) (k (.exit 0) [a,b,c,d,e,f,g,i,j,l,m,n,o,p,q,r,s,t,u,v,w,x,aa,z,A,B,C,D,E,F,G,H,I,J,zz,zy,zx,zw,zv,zu,zt,zs,zr,zq,zp,zo,zn,zm,zl,zk,zj,zi,zh,zg,zf,ze,zd,zc,zb,za,yz,yy,yx,yw,yv,yu,yt,ys] h):=by kernel_rfl
theorem aQs:bT prog O L 69 [N] h=ob (aG (aP N) h) λaa h=>ob (aG (aJ 12 aa) h) λab h=>ob (ld1 ab h) λac h=>ob (aG (aZ ac) h) λad h=>ob (lR 35 1 24 [(.slice none 0 0)] ad ad h) λae h=>ob (aG (aP N) h) λaf h=>ob (aG (aJ 12 af) h) λag h=>ob (ld1 ag h) λah h=>ob (aG (aZ ah) h) λai h=>L (aN prog O L Tb) (Tf O L) [N,undef,ae,undef,undef,undef,undef,undef,undef,undef,N,aa,ab,ac,ad,ae,N,af,ag,ah,ai,(.I 0),undef,undef,undef,undef,undef,undef,undef,undef,undef,undef,undef,undef,undef,undef,undef,undef,undef,undef,undef,undef,undef,undef,undef,undef,undef,undef,undef,undef,undef,undef,undef,undef,undef,undef,undef,undef,undef,undef,undef,undef,undef,undef,undef,undef,undef,undef] h:=by kernel_rfl
theorem aDb:bT prog O L 68 [N] h=ob (aG (bin prog .eql 64 N (.slice none 0 0)) h) λaa h=>aO aa (some (aL [(.slice none 0 0)],h)) (ob (dT 67 2 0 [(.I 0),(.I 0)] [] h) λab h=>ob (app 67 2 16 ab N h) λac h=>some (aL [ac],h)):=by kernel_rfl
def S9:Code:=bR [1,1,0,1,0,0] (cG prog 65)
def Ta:KV:=(dY 0 (eK prog O L (bR [1,1,1] (cG prog 65)) (eX prog Tryz.f65)))
theorem aQn:Ta O L (.exit 0) [a,b,c,d,e,f,g,i,j,l,m,n,o,p,q,r,s,t,u,v,w,x,y,z,A,B,C,D,E,F,G,H,I] h=ob (ldN 11 b h) λaa h=>ob (stN 11 c aa h) λab h=>ob (ldN 11 c h) λw31 _=>some (aL [w31],h):=by kernel_rfl
theorem aDa:aN prog O L S9 k [a,b,c,d,e,f,g,i,j,l,m,n,o,p,q,r,s,t,u,v,w,x,y,z,A,B,C,D,E,F,G,H,I] h=ob (aG (bin prog .lss 3 w v) h) λaa h=>aO aa (ob (aG (aT 1 u w) h) λab h=>ob (ld1 ab h) λac h=>ob (aG (aJ 10 b) h) λad h=>ob (ld1 ad h) λae h=>ifB (true) (ob (O (.func 81) [ac] h) λaf h=>ifB (chk ((ld1 ad) h) ae&&(true)) (ob (aG (aT 1 ae w) h) λag h=>ob (stN 1 ag af h) λah h=>ifB (true) (ob (aG (bin prog .add 3 w (.I 1)) h) λai h=>k .normal [a,b,c,w,ac,f,g,i,j,l,m,n,o,p,q,r,s,t,u,v,ai,aa,w,ab,ac,ad,ae,w,ac,af,ag,ai,I] h)))) (k (.exit 0) [a,b,c,d,e,f,g,i,j,l,m,n,o,p,q,r,s,t,u,v,w,aa,y,z,A,B,C,D,E,F,G,H,I] h):=by kernel_rfl
theorem aQo:bT prog O L 65 [N] h=ob (cX 28 (Value.cells N).toList .fix h) λaa h0=>ob (cX 28 [(.I 0),(.slice none 0 0),(.I 0),(.I 0),(.I 0),(.I 0),(.I 0),(.I 0),(.slice none 0 0),(.int .u16 0),(.slice none 0 0)] .fix h0) λab h1=>ob (aG (aJ 1 aa) h1) λac h2=>ob (ld1 ac h2) λad h3=>ifB (true) (ob (O (.func 119) [ad] h3) λae h4=>ifB (true) (ob (aG (aJ 8 aa) h4) λaf h5=>ob (ld1 af h5) λag h6=>ifB (chk ((ld1 af) h3) ag&&(true)) (ob (O (.func 81) [ag] h6) λah h7=>ifB (true) (ob (aG (aJ 10 aa) h7) λai h8=>ob (ld1 ai h8) λaj h9=>ifB (chk ((ld1 ai) h6) aj&&(chk ((ld1 ai) h3) aj&&(true))) (ob (O (.func 120) [aj] h9) λak h10=>ifB (true) (ob (aG (aJ 1 aa) h10) λal h11=>ob (stN 1 al ae h11) λam h12=>ifB (true) (ob (aG (aJ 8 aa) h12) λan h13=>ob (stN 1 an ah h13) λao h14=>ifB (true) (ob (aG (aJ 10 aa) h14) λap h15=>ob (stN 1 ap ak h15) λaq h16=>ifB (true) (ob (aG (aJ 10 aa) h16) λar h17=>ob (ld1 ar h17) λau h18=>ob (aG (aZ au) h18) λav h19=>L (aN prog O L S9) (Ta O L) [N,aa,ab,undef,undef,ac,ad,ae,af,ag,ah,ai,aj,ak,al,an,ap,ar,au,av,(.I 0),undef,undef,undef,undef,undef,undef,undef,undef,undef,undef,undef,undef] h19))))))))):=by kernel_rfl
theorem aQu:bT prog O L 72 [N,P] h=ob (aG (bin prog .lss 3 P (.I 0)) h) λaa h=>ob (gd aa false (cI P) h) λab h=>ob (gd aa false (cI N) h) λac h=>ob (gd aa false (aG (aZ ac)) h) λad h=>ob (gd aa false (aG (bin prog .geq 3 ab ad)) h) λae h=>ob (aG (cQ aa (.bool true) ae) h) λaf h=>aO af (some (aL [(.pointer none)],h)) (ob (aG (aT 1 N P) h) λag h=>ob (ld1 ag h) λah h=>some (aL [ah],h)):=by kernel_rfl
theorem aC2:bT prog O L 119 [N] h=ob (aG (bin prog .eql 24 N (.slice none 0 0)) h) λaa h=>aO aa (some (aL [(.slice none 0 0)],h)) (ob (dT 34 2 0 [(.I 0),(.I 0)] [] h) λab h=>ob (app 34 2 16 ab N h) λac h=>some (aL [ac],h)):=by kernel_rfl
theorem aC3:bT prog O L 120 [N] h=ob (aG (bin prog .eql 26 N (.slice none 0 0)) h) λaa h=>aO aa (some (aL [(.slice none 0 0)],h)) (ob (dT 25 1 0 [(.slice none 0 0)] [] h) λab h=>ob (app 25 1 24 ab N h) λac h=>some (aL [ac],h)):=by kernel_rfl
end Go.Proofs.YtkeilicinggjmaaGreatDoor
end
namespace Go.Abs
open M
theorem aDi {n:Nat}(h:n<65536):fC (gP n)=n:=((aA8 h).mp rfl).symm
theorem aQD {f:Frm}(h:eZ f=true)(hk:f.kind≠1):f.src=0/\f.dst=0/\f.body=0:=by
 unfold eZ at h;rw[if_neg hk] at h;simp only[aR2,decide_eq_true_eq] at h
 exact⟨h.2.1.1.2,h.2.1.2,h.2.2⟩
theorem Ad {n:Nat}(h:n<256):(by8 n).toNat=n:=by rw[vA];omega
theorem aQB {f:Frm}(h:f.ok)(hk:f.kind≠1)(hs:eZ f=true):kH (oE f)=f:=by
 obtain⟨s1,s2,s3⟩:=aQD hs hk;have hb:mX f=[by8 f.kind,by8 f.lane,by8 (f.seq/256),by8 f.seq]:=by unfold mX;rw[if_neg hk];rfl
 have he:oE f=[by8 f.kind,by8 f.lane,by8 (f.seq/256),by8 f.seq]++gP (crc (mX f)):=by unfold oE;rw[hb]
 have h1:=Ad h.kind;have h2:=Ad h.lane;have h3:fC [by8 (f.seq/256),by8 f.seq]=f.seq:=aDi h.seq;rw[he];cases f;simp only at*;simp only[kH,List.cons_append,List.getD_cons_zero,List.getD_cons_succ,h1,h2,h3,s1,s2,s3]
theorem aQC {f:Frm}(h:f.ok)(hk:f.kind=1):oF (oE f)=f:=by
 have hb:mX f=[by8 f.kind,by8 f.lane,by8 (f.seq/256),by8 f.seq,by8 f.src,by8 f.dst,by8 (f.body/65536/256),by8 (f.body/65536),by8 (f.body/256),by8 f.body]:=by unfold mX;rw[if_pos hk];rfl
 have he:oE f=[by8 f.kind,by8 f.lane,by8 (f.seq/256),by8 f.seq,by8 f.src,by8 f.dst,by8 (f.body/65536/256),by8 (f.body/65536),by8 (f.body/256),by8 f.body]++gP (crc (mX f)):=by unfold oE;rw[hb]
 have h1:=Ad h.kind;have h2:=Ad h.lane;have h4:=Ad h.src;have h5:=Ad h.dst;have h3:fC [by8 (f.seq/256),by8 f.seq]=f.seq:=aDi h.seq;have h6:fC [by8 (f.body/65536/256),by8 (f.body/65536),by8 (f.body/256),by8 f.body]=f.body:=by
  have:=h.body;rw[aA7,vA,vA,vA,vA];omega
 rw[he];cases f;simp only at*;simp only[oF,kH,List.cons_append,List.getD_cons_zero,List.getD_cons_succ,h1,h2,h3,h4,h5,h6]
theorem aDh {f:Frm}(h:f.ok):((oE f).getD 0 0).toNat=f.kind:=by
 unfold oE mX zK;simp only[List.cons_append,List.getD_cons_zero];exact Ad h.kind
theorem aQz {f:Frm}(h:f.ok)(hs:eZ f=true):pC (oE f)=some f:=by
 rw[aMg];unfold Qy;have hl:=Qz f;by_cases hk:f.kind=1
 ·rw[if_pos hk] at hl
  rw[if_neg U]
  simp only[if_pos (show((oE f).getD 0 0).toNat=1/\12<=(oE f).length from⟨by rw[aDh h];exact hk,by omega⟩)]
  rw[aQC h hk,if_pos (by unfold pD;rw[if_pos hs])]
 ·rw[if_neg hk] at hl
  rw[if_neg U]
  simp only[if_neg (show¬(((oE f).getD 0 0).toNat=1/\12<=(oE f).length) from λhh=>hk (by rw[<-aDh h];exact hh.1))]
  rw[aQB h hk hs,if_pos (by unfold pD;rw[if_pos hs])]
theorem aQA {f:Frm}(hs:eZ f=true):qO f=oE f:=by unfold qO pD;rw[if_pos hs];rfl
end Go.Abs
namespace Go.Proofs.YtkeilicinggjmaaGreatDoor
open Go.Proofs.Tryz
open Go.Abs Go.Abs.M
open Classical
theorem aDj (t:TypeId)(a:Addr)(h:lS prog t (.pointer none)=true):bin prog .neq t (.pointer (some a)) (.pointer none)=some (.bool true):=by
 have h2:lS prog t (.pointer (some a))=true:=by
  rw[<-h];unfold lS;cases prog.underlying t with
  |none=>rfl
  |some d=>cases d<;>rfl
 simp[bin,eE,nL,h,h2,eqV]
section
variable {m : Nat} {H0 H : aF} {F : Part → Nat → Prop} {y : Lay} {p : PlanD} {ev wv nv : Value} {c : Cfg}
end
section
variable {H : aF} {m : Nat} {p : PlanD} {ev wv nv v : Value}
theorem Jv {t e:TypeId}(h:prog.underlying t=some (.slice e)):bin prog .eql t (.slice none 0 0) (.slice none 0 0)=some (.bool true)/\ ∀b o n c,bin prog .eql t (.slice (some ⟨b,o,none⟩) n c) (.slice none 0 0)=some (.bool false):=by
 constructor
 ·simp[bin,eE,nL,lS,eqV,h]
 ·intro b o n c
  simp[bin,eE,nL,lS,eqV,h]
theorem Jt {α:Type}{el:α->List Value}{e:TypeId}{sz by':Nat}(hsz: ∀x,(el x).length=sz)(hall: ∀x,dV (el x)=true)(h0:0<sz){xs:List α}(h:Rs el e H v xs)(hr:hP xs.length by'=true):
  (v= .slice none 0 0/\xs=[])∨((∃b o n c,v= .slice (some ⟨b,o,none⟩) n c)/\ ∃u H',app e sz by' (.slice (some ⟨H.length,0,none⟩) 0 0) v (H++[.cells [] e .row])=some (u,H')/\Ext H H'/\Rw el e sz H' u xs/\New H u):=by
 have hx:Ext H (H++[.cells [] e .row]):=Fr.app _ _ _;have hc:=h;rcases h with h|⟨b,o,cap,h,_⟩
 ·exact .inl h
 ·have z:Rw el e sz (H++[.cells [] e .row]) (.slice (some ⟨H.length,0,none⟩) 0 0) []:=⟨by simp,.inr ⟨H.length,0,[],rfl,aRZ _,by simp,by simp⟩⟩
  obtain⟨u,H',g1,g2,g3,g4⟩:=z.yY hsz hall h0 (by':=by') (H0:=H) (hc.ext hx) (λb ⟨_,_,_,h⟩=>by cases h;exact aRZ _) hx (by simpa using hr)
  exact .inr ⟨⟨b,o,_,_,h⟩,u,H',g1,g4,g2,g3⟩
theorem aDk {xs:List Int}(h:Is H v xs)(hl:xs.length<=1000)(hm:0<m): ∃u H',lvl prog pkN m (.func 81) [v] H=some (u,H')/\Ext H H'/\Iw H' u xs/\New H u:=by
 have q:=Jv (t:=25) (e:=3) (by kernel_rfl)
 rcases Jt (by':=8) gV pR aC h (iE (n:=1000) aC hl) with⟨rfl,rfl⟩|⟨⟨b,o,n,c,rfl⟩,u,H',g1,g2⟩
 ·refine⟨_,H,cS (cH rfl) hm ?_,Fr.kO _ _,Rw.kP,New.mT _⟩
  rw[Nh];simp -implicitDefEqProofs only[gsR,q.1]
 ·have b0:dT 3 1 0 [.I 0] [] H=some (.slice (some ⟨H.length,0,none⟩) 0 0,H++[.cells [] 3 .row]):=rfl
  refine⟨u,H',cS (cH rfl) hm ?_,g2⟩;rw[Nh];simp -implicitDefEqProofs only[gsR,q.2,b0,g1]
theorem aQE {xs:List Ed}(h:Es H v xs)(hl:xs.length<=1000)(hm:0<m): ∃u H',lvl prog pkN m (.func 119) [v] H=some (u,H')/\Ext H H'/\Ew H' u xs/\New H u:=by
 have q:=Jv (t:=24) (e:=34) (by kernel_rfl)
 rcases Jt (by':=16) o7 Ba aC h (iE (n:=1000) aC hl) with⟨rfl,rfl⟩|⟨⟨b,o,n,c,rfl⟩,u,H',g1,g2⟩
 ·refine⟨_,H,cS (cH rfl) hm ?_,Fr.kO _ _,Rw.kP,New.mT _⟩
  rw[aC2];simp -implicitDefEqProofs only[gsR,q.1]
 ·have b0:dT 34 2 0 [.I 0,.I 0] [] H=some (.slice (some ⟨H.length,0,none⟩) 0 0,H++[.cells [] 34 .row]):=rfl
  refine⟨u,H',cS (cH rfl) hm ?_,g2⟩;rw[aC2];simp -implicitDefEqProofs only[gsR,q.2,b0,g1]
theorem aQF {xs:List Ed}(h:Hs H v xs)(hl:xs.length<=1000)(hm:0<m): ∃u H',lvl prog pkN m (.func 68) [v] H=some (u,H')/\Ext H H'/\Hw H' u xs/\New H u:=by
 have q:=Jv (t:=64) (e:=67) (by kernel_rfl)
 rcases Jt (by':=16) o7 Ba aC h (iE (n:=1000) aC hl) with⟨rfl,rfl⟩|⟨⟨b,o,n,c,rfl⟩,u,H',g1,g2⟩
 ·refine⟨_,H,cS (cH rfl) hm ?_,Fr.kO _ _,Rw.kP,New.mT _⟩
  rw[aDb];simp -implicitDefEqProofs only[gsR,q.1]
 ·have b0:dT 67 2 0 [.I 0,.I 0] [] H=some (.slice (some ⟨H.length,0,none⟩) 0 0,H++[.cells [] 67 .row]):=rfl
  refine⟨u,H',cS (cH rfl) hm ?_,g2⟩;rw[aDb];simp -implicitDefEqProofs only[gsR,q.2,b0,g1]
theorem aQG {us:List SV}(h:Rs sC 25 H v us)(hl:us.length<=1000)(hm:0<m): ∃u H',lvl prog pkN m (.func 120) [v] H=some (u,H')/\Ext H H'/\Rw sC 25 1 H' u us/\New H u:=by
 have q:=Jv (t:=26) (e:=25) (by kernel_rfl)
 rcases Jt (by':=24) Bd Hl aC h (iE (n:=1000) aC hl) with⟨rfl,rfl⟩|⟨⟨b,o,n,c,rfl⟩,u,H',g1,g2⟩
 ·refine⟨_,H,cS (cH rfl) hm ?_,Fr.kO _ _,Rw.kP,New.mT _⟩
  rw[aC3];simp -implicitDefEqProofs only[gsR,q.1]
 ·have b0:dT 25 1 0 [.slice none 0 0] [] H=some (.slice (some ⟨H.length,0,none⟩) 0 0,H++[.cells [] 25 .row]):=rfl
  refine⟨u,H',cS (cH rfl) hm ?_,g2⟩;rw[aC3];simp -implicitDefEqProofs only[gsR,q.2,b0,g1]
theorem Tm {e:TypeId}{us:List SV}(h:Rw sC e 1 H v us){i:Nat}(hi:i<us.length)(x:SV): ∃c cs,cJ v c/\H[c]? =some (.cells cs e .row)/\aT 1 v (.I (i:Nat))=some (.Q c i)/\ld1 (.Q c i) H=some (us[i].1,H)/\
  stN 1 (.Q c i) x.1 H=some (undef,H.set c (.cells (cs.set i x.1) e .row))/\Rw sC e 1 (H.set c (.cells (cs.set i x.1) e .row)) v (us.set i x):=by
 have hf: ∀us:List SV,(us.map sC).flatten=us.map (·.1):=by
  intro us;induction us with
  |nil=>rfl
  |cons a us ih=>rw[aSp,aSu,ih];rfl
 rcases h with⟨h1,⟨rfl,h2⟩|⟨c,cap,rest,rfl,h2,h3,h4⟩⟩
 ·omega
 ·rw[hf] at h4
  refine⟨c,_,⟨_,_,_,rfl⟩,h4,?_,dI h4 ?_,qN h4 aC (by simp;omega) (by rw[x.2.2]) x.2.1,?_⟩
  ·rw[pQ _ _ _ _ _ _ _ U U]
   simp
  ·rw[aRX (by simpa using hi),aR7,aRW hi]
   rfl
  ·refine⟨by rw[hf];simp,.inr ⟨c,cap,rest,by rw[List.length_set],by rw[List.length_set];exact h2,by rw[List.length_set];exact h3,?_⟩⟩
   rw[aR0 (aRU.mp h4).1,hf,List.map_set,List.set_append_left _ _ (by simpa using hi)]
theorem aQI {xss:List (List Int)}(h:Rows H v xss): ∃us:List SV,Rs sC 25 H v us/\us.length=xss.length/\ ∀(i:Nat)(u:SV)(xs:List Int),us[i]? =some u->xss[i]? =some xs->Is H u.1 xs:=by
 obtain⟨us,h1,h2,h3⟩:=h;have hs: ∀u∈us,dV [u]=true/\u.cells= #[u]:=λu hu=>by
  obtain⟨i,hi⟩:=List.getElem?_of_mem hu;have hl:=(aRU.mp hi).1;rcases h3 i u _ hi (aRW U) with⟨rfl,_⟩|⟨b,o,cap,rfl,_⟩<;>exact⟨rfl,rfl⟩
 obtain⟨ws,hw⟩: ∃ws:List SV,ws.map (·.1)=us:=by
  clear h1 h2 h3;induction us with
  |nil=>exact⟨[],rfl⟩
  |cons a us ih=>
   obtain⟨ws,hw⟩:=ih λu hu=>hs u (aSb _ hu)
   exact⟨⟨a,hs a (aR3 ..)⟩::ws,congrArg (a:: ·) hw⟩
 have hl:ws.length=us.length:=by rw[<-hw,aR8]
 refine⟨ws,?_,by omega,λi u xs hu hx=>h3 i u.1 xs (by rw[<-hw,aR7,hu];rfl) hx⟩
 unfold Rs at h1⊢;rw[C9,hw,hl];rcases h1 with⟨a,b⟩|⟨b,o,cap,a1,a2,a3⟩
 ·exact .inl ⟨a,aSc.mp (by rw[hl,b];rfl)⟩
 ·exact .inr ⟨b,o,cap,a1,a2,λhne=>a3 λhz=>hne (aSc.mp (by rw[hl,hz];rfl))⟩
theorem Ju {xss:List (List Int)}{us:List SV}(h:Rs sC 25 H v us)(hl:us.length=xss.length)(h3: ∀(i:Nat)(u:SV)(xs:List Int),us[i]? =some u->xss[i]? =some xs->Is H u.1 xs):Rows H v xss:=by
 refine⟨us.map (·.1),?_,by rw[aR8,hl],λi u xs hu hx=> ?_⟩
 ·unfold Rs at h⊢
  rw[<-C9,aR8];rcases h with⟨a,b⟩|⟨b,o,cap,a1,a2,a3⟩
  ·exact .inl ⟨a,by rw[b];rfl⟩
  ·exact .inr ⟨b,o,cap,a1,a2,λhne=>a3 λhz=>hne (by rw[hz];rfl)⟩
 ·rw[aR7] at hu
  cases hw:us[i]? with
  |none=>rw[hw] at hu;cases hu
  |some w=>
   rw[hw] at hu;cases hu;exact h3 i w xs hw hx
structure Clo (H H':aF)(p:PlanD)(ev wv nv:Value):Prop where
 pv:PV H' p ev wv nv
 ext:Ext H H'
 e:Ew H' ev p.edges/\New H ev
 w:Iw H' wv p.weights/\New H wv
 n: ∃us:List SV,Rw sC 25 1 H' nv us/\New H nv/\us.length=p.next.length/\ ∀(i:Nat)(u:SV)(xs:List Int),us[i]? =some u->p.next[i]? =some xs->Iw H' u.1 xs/\New H u.1
theorem aQH {Hb:aF}{pb zb:Nat}(hb0:Hb.length<=pb)(hb1:Hb.length<=zb)(hne:pb≠zb)(hE:p.edges.length<=17592186043000)(hW:p.weights.length<=17592186043000)(hN:p.next.length<=1000)(hN2: ∀xs∈p.next,xs.length<=1000)(hm:100<m):
  ∀(q i l:Nat)(H1:aF)(us:List SV),p.next.length-i=q->i<=p.next.length->q<l->Ext Hb H1->H1[pb]? =some (plB p ev wv nv)->H1[zb]? =some plZ->Ew H1 ev p.edges->New Hb ev->Iw H1 wv p.weights->New Hb wv->Rw sC 25 1 H1 nv us->New Hb nv->us.length=p.next.length->
   (∀(j:Nat)(u:SV)(xs:List Int),us[j]? =some u->p.next[j]? =some xs->Is H1 u.1 xs/\(∀b,cJ nv b-> ¬cJ u.1 b)/\(j<i->Iw H1 u.1 xs/\New Hb u.1))-> ∀(x0 x3 x4 x5 x6 x7 x8 x9 bS cE aV aR aS aQ aW aX bQ bO bK aY bC bE bG bH bI bJ bM bN:Value),
  ∃H2 u2,aM l (aN prog (lvl prog pkN m) (aM m) S9) (Ta (lvl prog pkN m) (aM m)) [x0,(.Q pb 0),(.Q zb 0),x3,x4,x5,x6,x7,x8,x9,bS,cE,aV,aR,aS,aQ,aW,aX,nv,(.I (p.next.length:Nat)),(.I (i:Nat)),bQ,bO,bK,aY,bC,bE,bG,bH,bI,bJ,bM,bN] H1=some (u2,H2)/\u2=plV p ev wv nv/\Clo Hb H2 p ev wv nv:=by
 intro q;induction q with
 |zero=>
  intro i l H1 us hq hi hl he hb hz e1 e2 w1 w2 r1 r2 hul hall;intros;obtain⟨l,rfl⟩:=aB l U
  obtain rfl:i=p.next.length:=U
  have e:decide ((p.next.length:Int)<(p.next.length:Nat))=false:=by simp
  have l11:=lC hb;obtain⟨H2,hH2⟩:=aD (H1.set zb (plB p ev wv nv));have st:stN 11 (.Q zb 0) (plV p ev wv nv) H1=some (undef,H2):=by
   have e1':(plV p ev wv nv).cells.toList=plC p ev wv nv:=rfl;have hpv:PV H1 p ev wv nv:=⟨e1.rs,w1.rs,Ju r1.rs hul λj u xs hu hx=>(hall j u xs hu hx).1,hE,by omega,by omega⟩
   rw[mA 11 _ _ _ rfl,hz,e1',hH2];unfold plZ;rw[oK _ _ _ _ _ _ aC (by simp[plC]) hpv.Db]
   simp[eT,plC,plB]
  have hzl:=dO hz;have b2:H2[zb]? =some (plB p ev wv nv):=by rw[hH2,aR0 hzl]
  have l11z:=lC b2;have hk: ∀b,b≠zb->H2[b]? =H1[b]? :=λb hbz=>by rw[hH2,aRV (λhh=>hbz hh.symm)]
  have hnh: ∀{α:Type}{el:α->List Value}{e:TypeId}{sz:Nat}{w:Value}{xs:List α},Rw el e sz H1 w xs->Rw el e sz H2 w xs:=λh=>h.eY λb hbb=>hk b λhh=>by
   obtain⟨cs,hc⟩:=h.blk hbb;rw[hh,hz] at hc;cases hc
  have he2:Ext Hb H2:=by rw[hH2];exact pU he hb1
  refine⟨H2,_,?_,rfl,⟨⟨(hnh e1).rs,(hnh w1).rs,Ju (hnh r1).rs hul λj u xs hu hx=>(hnh ((hall j u xs hu hx).2.2 (aRU.mp hx).1).1).rs,hE,by omega,by omega⟩,he2,⟨hnh e1,e2⟩,⟨hnh w1,w2⟩,us,hnh r1,r2,hul,λj u xs hu hx=> ?_⟩⟩
  ·rw[dR,aDa]
   simp -implicitDefEqProofs only[gsR,e];rw[aQn];simp -implicitDefEqProofs only[gsR,l11,st,l11z]
  ·have:=(hall j u xs hu hx).2.2 (aRU.mp hx).1
   exact⟨hnh this.1,this.2⟩
 |succ q ih=>
  intro i l H1 us hq hi hl he hb hz e1 e2 w1 w2 r1 r2 hul hall;intros;obtain⟨l,rfl⟩:=aB l U
  have e:decide ((i:Int)<(p.next.length:Nat))=true:=aSE U
  have e3:=aA (i:=i) U
  have hi1:i<us.length:=U
  have hxi:p.next[i]? =some p.next[i]:=aRW U
  have hui:us[i]? =some us[i]:=aRW hi1;obtain⟨hIs,hap,_⟩:=hall i _ _ hui hxi;obtain⟨u,H2,g1,x2,g2,g3⟩:=aDk hIs (hN2 _ (aR4 hxi)) (m:=m) U
  obtain⟨su,rfl⟩: ∃su:SV,su.1=u:=by
   obtain⟨s1,s2⟩:=Rw.uW g2
   exact⟨⟨u,s2,Array.toList_inj.mp s1⟩,rfl⟩
  have r1':=qS r1 x2;obtain⟨c,cs,p1,p2,p3,p4,_,_⟩:=Tm r1 hi1 su;obtain⟨c',cs',q1,q2,q3,_,q5,q6⟩:=Tm r1' hi1 su
  obtain rfl:c'=c:=by
   obtain⟨o,n,k,hh⟩:=p1;obtain⟨o',n',k',hh'⟩:=q1;rw[hh] at hh';cases hh';rfl
  have hcb:Hb.length<=c':=r2 _ q1;obtain⟨H3,hH3⟩:=aD (H2.set c' (.cells (cs'.set i su.1) 25 .row));rw[<-hH3] at q5 q6;have l10: ∀G,Ext H1 G->ld1 (.pointer (some ⟨pb,10,none⟩)) G=some (nv,G):=λG hG=>eC (eS hb hG) 10 nv rfl
  have l10a:=l10 H1 (Fr.kO _ _);have l10b:=l10 H2 x2;have ck:chk (some (nv,H2)) nv=true:=by rcases r1 with⟨_,⟨rfl,_⟩|⟨_,_,_,rfl,_⟩⟩<;>exact Iu _ _ _ _
  have hk: ∀b,b≠c'->H3[b]? =H2[b]? :=λb hbz=>by rw[hH3,aRV (λhh=>hbz hh.symm)]
  have he3:Ext Hb H3:=by rw[hH3];exact pU (he.tr x2) hcb
  have hkR: ∀{α:Type}{el:α->List Value}{e:TypeId}{sz:Nat}{w:Value}{xs:List α},Rw el e sz H1 w xs->e≠25->Rw el e sz H3 w xs:=λh hne=>(qS h x2).eY λb hbb=>hk b λhh=>by
   obtain⟨cs,hc⟩:=(qS h x2).blk hbb;rw[hh,q2] at hc;cases hc;exact hne rfl
  have hkF: ∀{b:Nat}{cs1:List Value},H1[b]? =some (.cells cs1 28 .fix)->H3[b]? =some (.cells cs1 28 .fix):=λh=>by
   have h2:=eS h x2;rw[hk _ (λhh=>by rw[hh,q2] at h2;cases h2),h2]
  rw[dR,aDa];simp -implicitDefEqProofs only[gsR,e,p3,p4,l10a,g1,l10b,ck,q3,q5,cR,e3];have hnu: ∀b,cJ su.1 b-> ¬cJ nv b:=λb h1 h2=>by
   have:=g3 b h1;have:=r1.gU h2;omega
  refine ih (i+1) l H3 (us.set i su) U U U he3 (hkF hb) (hkF hz) (hkR e1 aC) e2 (hkR w1 aC) w2 q6 r2 (by rw[List.length_set];exact hul) (λj u xs hu hx=> ?_) ..
  have hjl:j<us.length:=by have:=(aRU.mp hu).1;rwa [List.length_set] at this
  by_cases hji:j=i
  ·subst hji
   rw[aR0 hjl] at hu;cases hu;rw[hxi] at hx;cases hx;have hiw:Iw H3 su.1 p.next[j]:=g2.eY λb hbb=>hk b λhh=>hnu b hbb (by rw[hh];exact q1)
   exact⟨hiw.rs,λb h1 h2=>hnu b h2 h1,λ_=>⟨hiw,λb hbb=>aSa he.1 (g3 b hbb)⟩⟩
  ·rw[aRV (λhh=>hji hh.symm)] at hu
   obtain⟨a1,a2,a3⟩:=hall j u xs hu hx;have hs:Is H3 u.1 xs:=(a1.ext x2).Gc λb hbb _=>hk b λhh=>a2 b (by rw[hh];exact q1) hbb
   refine⟨hs,a2,λhj=> ?_⟩
   obtain⟨a4,a5⟩:=a3 U
   exact⟨(qS a4 x2).eY λb hbb=>hk b λhh=>a2 b (by rw[hh];exact q1) hbb,a5⟩
theorem aDl (hp:PV H p ev wv nv)(hE:p.edges.length<=1000)(hW:p.weights.length<=1000)(hN:p.next.length<=1000)(hN2: ∀xs∈p.next,xs.length<=1000)(hN0: ∀xs∈p.next,xs≠[])(hm:2000<m):
    ∃H' ev' wv' nv',lvl prog pkN m (.func 65) [plV p ev wv nv] H=some (plV p ev' wv' nv',H')/\Clo H H' p ev' wv' nv':=by
  obtain⟨H0,hH0⟩:=aD (H++[plB p ev wv nv]);have x0:Ext H H0:=by rw[hH0];exact Fr.app _ _ _
  have b0:H0[H.length]? =some (plB p ev wv nv):=by rw[hH0];exact fA _ _
  have e0:H++[Blk.cells (plV p ev wv nv).cells.toList 28 .fix]=H0:=by rw[hH0];rfl
  obtain⟨H1,hH1⟩:=aD (H0++[plZ]);have x1:Ext H0 H1:=by rw[hH1];exact Fr.app _ _ _
  have z1:H1[H0.length]? =some plZ:=by rw[hH1];exact fA _ _
  have b1:=eS b0 x1;have hx1:=x0.tr x1;have hl0:H0.length=H.length+1:=by rw[hH0];simp
  obtain⟨e',H2,g2,x2,e2,ne2⟩:=aQE (hp.ext hx1).e hE (m:=m-1) U
  have l1:=eC b1 1 ev rfl;have b2:=eS b1 x2;have l8a:=eC b1 8 wv rfl;have l8:=eC b2 8 wv rfl;obtain⟨w',H3,g3,x3,w3,nw3⟩:=aDk ((hp.ext hx1).ext x2).w hW (m:=m-1) U
  have b3:=eS b2 x3;have l10a:=eC b1 10 nv rfl;have l10b:=eC b2 10 nv rfl;have l10:=eC b3 10 nv rfl;obtain⟨us,us1,us2,us3⟩:=aQI hp.n;obtain⟨n',H4,g4,x4,n4,nn4⟩:=aQG (us1.ext ((hx1.tr x2).tr x3)) U (m:=m-1) U
  have b4:=eS b3 x4;have hx4:Ext H H4:=((hx1.tr x2).tr x3).tr x4;have ckw: ∀G,chk (some (wv,G)) wv=true:=λG=>by rcases hp.w with⟨rfl,_⟩|⟨_,_,_,rfl,_⟩<;>exact Iu _ _ _ _
  have ckn: ∀G,chk (some (nv,G)) nv=true:=λG=>by
    obtain⟨us,h1,_⟩:=hp.n;rcases h1 with⟨rfl,_⟩|⟨_,_,_,rfl,_⟩<;>exact Iu _ _ _ _
  have hpb:H.length≠H0.length:=U
  -- the plan is the clone's now
  have hs: ∀{G:aF}{a b c:Value},G[H.length]? =some (plB p a b c)-> ∀{α:Type}{el:α->List Value}{e:TypeId}{sz:Nat}{w:Value}{xs:List α}(G2:aF),Rw el e sz G w xs->(∀b,b≠H.length->G2[b]? =G[b]?)->Rw el e sz G2 w xs:=λhb _ _ _ _ _ _ _ h hk=>h.eY λb hbb=>hk b λhh=>by
    obtain⟨cs,hc⟩:=h.blk hbb;rw[hh,hb] at hc;cases hc
  obtain⟨H5,hH5⟩:=aD (H4.set H.length (plB p e' wv nv));have k5: ∀b,b≠H.length->H5[b]? =H4[b]? :=λb hb=>by rw[hH5,aRV (λhh=>hb hh.symm)]
  have b5:H5[H.length]? =some (plB p e' wv nv):=by rw[hH5];exact fW b4
  have e4:=qS (qS e2 x3) x4;have w4:=qS w3 x4;obtain⟨s1,s2⟩:=Rw.uW e2;obtain⟨s3,s4⟩:=Rw.uW w3;obtain⟨s5,s6⟩:=Rw.uW n4;have st5:stN 1 (.Q H.length 1) e' H4=some (undef,H5):=by rw[hH5];exact qN b4 aC (by simp[plC]) s1 s2
  obtain⟨H6,hH6⟩:=aD (H5.set H.length (plB p e' w' nv));have k6: ∀b,b≠H.length->H6[b]? =H4[b]? :=λb hb=>by rw[hH6,aRV (λhh=>hb hh.symm),k5 b hb]
  have b6:H6[H.length]? =some (plB p e' w' nv):=by rw[hH6];exact fW b5
  have st6:stN 1 (.Q H.length 8) w' H5=some (undef,H6):=by rw[hH6];exact qN b5 aC (by simp[plC]) s3 s4
  obtain⟨H7,hH7⟩:=aD (H6.set H.length (plB p e' w' n'));have k7: ∀b,b≠H.length->H7[b]? =H4[b]? :=λb hb=>by rw[hH7,aRV (λhh=>hb hh.symm),k6 b hb]
  have b7:H7[H.length]? =some (plB p e' w' n'):=by rw[hH7];exact fW b6
  have st7:stN 1 (.Q H.length 10) n' H6=some (undef,H7):=by rw[hH7];exact qN b6 aC (by simp[plC]) s5 s6
  have l10c:=eC b7 10 n' rfl;have n7:=hs b4 H7 n4 k7;have hln:=n7.rX;rw[us2] at hln;have x7:Ext H H7:=⟨by rw[hH7,hH6,hH5];simp only[List.length_set];exact hx4.1,λb hb _=>by rw[k7 b U,hx4.2 b hb id]⟩
  have hxl:=hx1.1;have hx2l:=x2.1;have hx3l:=x3.1;have main: ∃H' u,lvl prog pkN m (.func 65) [plV p ev wv nv] H=some (u,H')/\u=plV p e' w' n'/\Clo H H' p e' w' n':=by
    refine gN (cH rfl) U ?_
    rw[aQo];simp -implicitDefEqProofs only[gsR,e0,Bf,<-hH1,l1,g2,l8a,l8,ckw,g3,l10a,l10b,l10,ckn,g4,st5,st6,st7,l10c,hln];exact aQH (Hb:=H) (pb:=H.length) (zb:=H0.length) (m:=m-1) (aRZ _) U hpb U U hN hN2 U p.next.length 0 (m-1) H7 us U U U x7 b7 (by rw[k7 _ (Ne.symm hpb),eS (eS (eS z1 x2) x3) x4]) (hs b4 H7 e4 k7) (λb hb=>aSa hxl (ne2 b hb)) (hs b4 H7 w4 k7) (λb hb=>aSa hxl (aSa hx2l (nw3 b hb))) n7 (λb hb=>aSa hxl (aSa hx2l (aSa hx3l (nn4 b hb)))) us2 (λj u xs hu hx=>by
        have hi:=us3 j u xs hu hx;have hlt: ∀b,cJ u.1 b->b<H.length:=λb hb=>by
          rcases hi with⟨_,h2⟩|⟨b',o,cap,h1,_,h3⟩
          · exact absurd h2 (hN0 _ (aR4 hx))
          · obtain⟨o',n,c,hh⟩:=hb
            rw[h1] at hh;cases hh;obtain⟨_,_,_,_,_,_,h4⟩:=h3 (hN0 _ (aR4 hx));exact dO h4
        exact⟨hi.Gc λb hb _=>x7.2 b (hlt b hb) id,λb h1 h2=>by have:=hlt b h2;have:=nn4 b h1;omega,λh=>by omega⟩) ..
  obtain⟨H',u,h1,rfl,h2⟩:=main
  exact⟨H',_,_,_,h1,h2⟩
end
end Go.Proofs.YtkeilicinggjmaaGreatDoor
namespace Go.Abs
open M
theorem aDn {req:Nat->Nat->Bool}{n:Nat}(hr: ∀i o,i<n->req i o=false)(first:Bool)(s:Mat):rnd req n first s=s:=by
 have hg: ∀o,mU req s.m s.g n o=none:=λo=>by
  unfold mU;split
  ·rfl
  ·rw[Gj]
   intro i hi;rw[hr i o hi,Bool.and_false]
 have ha: ∀(t:Mat)(i:Nat),acc (mU req s.m s.g n) n first t i=t:=λt i=>by
  unfold acc;split
  ·have:kG (λk=>mU req s.m s.g n k==some i) (t.a.getD i 0) n=none:=by
    rw[Gj];intro k _;rw[hg k];rfl
   rw[this]
  ·rfl
 unfold rnd;have: ∀(l:List Nat)(t:Mat),l.foldl (acc (mU req s.m s.g n) n first) t=t:=λl=>by
  induction l with
  |nil=>exact λ_=>rfl
  |cons i l ih=>
   intro t;rw[List.foldl_cons,ha,ih]
 exact this _ _
theorem aQN {req:Nat->Nat->Bool}{n:Nat}(hr: ∀i o,i<n->req i o=false)(r:Nat)(g a:List Nat):oV req n r g a=⟨List.replicate n (-1),g,a⟩:=by
 unfold oV;rw[aDn hr];have: ∀k (s:Mat),vX req n k s=s:=λk=>by
  induction k with
  |zero=>exact λ_=>rfl
  |succ k ih=>
   intro s;unfold vX;rw[aDn hr,ih]
 exact this _ _
theorem aQL {c:Cfg}{s:NS}(h:s.hL=[]):lD c s=s:=by
 have h1: ∀k,nS c s k=s:=λk=>by
  unfold nS;rw[h]
  split<;>rfl
 unfold lD;have: ∀l:List Nat,l.foldl (nS c) s=s:=λl=>by
  induction l with
  |nil=>rfl
  |cons k l ih=>rw[List.foldl_cons,h1,ih]
 exact this _
theorem aQJ {c:Cfg}{s:NS}(h:s.rL=[])(i o:Nat):lX c s i o=false:=by
 have hm: ∀k,iB c s i o k=false:=λk=>by
  unfold iB qP pZ;rw[h];simp
 unfold lX;rw[show iB c s i o=λ_=>false from funext hm]
 simp
theorem aDm (c:Cfg)(n:Nat)(s:NS×kJ): ∀l:List Nat,(∀i∈l,i<n)->pX c (List.replicate n (-1)) l s=s
 |[],_=>rfl
 |i::l,h=>by
  unfold pX;have e:(List.replicate n (-1:Int)).getD i 0= -1:=by
   rw[aRY,aSB,if_pos (h i (aR3 ..))];rfl
  rw[e,if_neg U]
  exact aDm c n s l λj hj=>h j (aSb _ hj)
theorem aQO {c:Cfg}{s:NS}(h1:s.hL=[])(h2:s.rL=[]):qA c s=({s with ticks:=s.ticks+1},if(s.ticks+1)%c.every=0 then oO c s else []):=by
 unfold qA;simp only;rw[aQL h1,aQN (λi o _=>aQJ h2 i o)]
 simp only;rw[aDm c c.aK _ _ λi hi=>aSy.mp hi]
 rfl
def tH (c:Cfg)(j:Nat):NS:={NS.mY c with ticks:=j}
theorem aQM (c:Cfg)(j:Nat):qA c (tH c j)=(tH c (j+1),if(j+1)%c.every=0 then oO c (NS.mY c) else []):=aQO rfl rfl
theorem Tn {α:Type}{f:Nat->List α}{L:Nat}: ∀{a:Nat},(∀i,i<a->(f i).length=L)->((List.range a).flatMap f).length=a*L
 |0,_=>by simp
 |a+1,h=>by
  rw[aSt,List.flatMap_append,aR6,Tn (a:=a) (λi hi=>h i U)]
  simp[h a U,Nat.add_mul]
theorem aQK (c:Cfg)(s:NS):(oO c s).length=2*c.by'.length*c.lanes:=by
 unfold oO;rw[Tn (L:=c.lanes*2) λi _=>Tn (L:=2) λk _=>rfl]
 rw[Nat.mul_comm c.lanes 2,<-Nat.mul_assoc,Nat.mul_comm c.by'.length 2]
theorem aQP (f:Frm):(qO f).length<=12:=by
 unfold qO pD;split
 ·rw[aSn,Qz]
  split<;>omega
 ·simp
def OutOk (c:Cfg)(os:kJ):Prop:= ∀o∈os,o.1∈c.by'/\o.2.length<=12
theorem OutOk.To (c:Cfg):OutOk c []:=λ_ h=>by cases h
theorem OutOk.app {c:Cfg}{a b:kJ}(h1:OutOk c a)(h2:OutOk c b):OutOk c (a++b):=λo ho=>(List.mem_append.mp ho).elim (h1 o) (h2 o)
theorem aDr {c:Cfg}{o:Nat}(h1:1<=o)(h2:o<c.aK)(f:Frm):(tY c o f).1∈c.by'/\(tY c o f).2.length<=12:=by
 unfold Cfg.aK at h2;unfold tY;refine⟨?_,aQP f⟩;simp only;rw[aRY,aRW U,aSn]
 exact List.getElem_mem _
theorem aQS {c:Cfg}(s:NS)(i:Nat){o:Nat}(h2:o<c.aK):OutOk c (pF c s i o).2:=by
 unfold pF;split
 ·exact OutOk.To c
 ·simp only
  split
  ·exact OutOk.To c
  ·rename_i hne
   intro x hx;rw[List.mem_singleton] at hx;subst hx;exact aDr U h2 _
theorem aDq {c:Cfg}{m:List Int}(hm: ∀x∈m,x= -1∨0<=x/\x<(c.aK:Int))(hp:0<c.aK): ∀(l:List Nat)(s:NS×kJ),OutOk c s.2->OutOk c (pX c m l s).2
 |[],_,h=>h
 |i::l,s,h=>by
  unfold pX;refine aDq hm hp l _ ?_;split
  ·rename_i h0
   have:(m.getD i 0).toNat<c.aK:=by
    rw[aRY];cases hg:m[i]? with
    |none=>simpa using hp
    |some x=>
     rcases hm x (aR4 hg) with h1|h1
     ·subst h1
      simpa using hp
     ·simp only[aSn]
      omega
   exact h.app (aQS _ _ this)
  ·exact h
theorem aQQ (c:Cfg)(s:NS):OutOk c (oO c s):=by
 intro o ho;unfold oO at ho;obtain⟨i,hi,ho⟩:=List.mem_flatMap.mp ho;obtain⟨k,hk,ho⟩:=List.mem_flatMap.mp ho;have hi:=aSy.mp hi;simp only[aSd,aSk,or_false] at ho;rcases ho with rfl|rfl<;>exact aDr U (by unfold Cfg.aK;omega) _
theorem aQU {c:Cfg}{t:Nat}{s:NS}(hc:c.ok)(h:NInv c t s):OutOk c (qA c s).2:=by
 have h1:=h.aMU hc;have hp:0<c.aK:=by unfold Cfg.aK;omega
 have h2:=MatI.aBq (req:=lX c (Go.Abs.lD c s)) (rounds:=c.rounds) hp h1.gl h1.al h1.g h1.a;unfold qA;simp only;have h3:=aDq h2.m hp (List.range c.aK) ({Go.Abs.lD c s with g:=(oV (lX c (Go.Abs.lD c s)) c.aK c.rounds (Go.Abs.lD c s).g (Go.Abs.lD c s).a).g,a:=(oV (lX c (Go.Abs.lD c s)) c.aK c.rounds (Go.Abs.lD c s).g (Go.Abs.lD c s).a).a},[]) (OutOk.To c);split
 ·exact h3.app (aQQ _ _)
 ·exact h3
theorem aQR (c:Cfg)(s:NS)(i o:Nat):(pF c s i o).2.length<=1:=by
 unfold pF;split
 ·exact Nat.zero_le _
 ·simp only
  split
  ·exact Nat.zero_le _
  ·exact aRZ _
theorem aDp (c:Cfg)(m:List Int): ∀(l:List Nat)(s:NS×kJ),(pX c m l s).2.length<=l.length+s.2.length
 |[],s=>by simp[pX]
 |i::l,s=>by
  unfold pX;refine aSa (aDp c m l _) ?_;split
  ·have:=aQR c s.1 i (m.getD i 0).toNat
   simp only[aR6,aSg];omega
  ·simp only[aSg]
   omega
theorem aQT {c:Cfg}(hc:c.ok)(s:NS):(qA c s).2.length<=36:=by
 have h5:=hc.by';have h3:=hc.lanes.2;have h1:=aDp c (oV (lX c (Go.Abs.lD c s)) c.aK c.rounds (Go.Abs.lD c s).g (Go.Abs.lD c s).a).m (List.range c.aK) ({Go.Abs.lD c s with g:=(oV (lX c (Go.Abs.lD c s)) c.aK c.rounds (Go.Abs.lD c s).g (Go.Abs.lD c s).a).g,a:=(oV (lX c (Go.Abs.lD c s)) c.aK c.rounds (Go.Abs.lD c s).g (Go.Abs.lD c s).a).a},[]);rw[aSo] at h1;have h2:2*c.by'.length*c.lanes<=2*5*3:=Nat.mul_le_mul U h3
 unfold qA;simp only;unfold Cfg.aK at h1;simp only[List.length_nil] at h1;split
 ·rw[aR6,aQK]
  unfold Cfg.aK;omega
 ·unfold Cfg.aK
  omega
structure FS where
 n:Nat->NS
 l:Nat->List (List UInt8)
 k:Nat
structure FC where
 c:Nat->Cfg
 N:Nat
 hs:List (Int×Int)
 bag:Nat
def aDs (room:Nat)(bss:List (List UInt8))(bs:List UInt8):List (List UInt8):=if bss.length=room then bss else bss++[bs]
def aDo (C:FC)(v w:Nat):Nat:=C.hs.idxOf ((v:Int),(w:Int))
def sI (C:FC)(v:Nat)(l:Nat->List (List UInt8))(o:Nat×List UInt8):Nat->List (List UInt8):=up1 l (aDo C v o.1) (aDs C.bag (l (aDo C v o.1)) o.2)
def tI (C:FC)(s:FS)(v:Nat):kJ:=(qA (C.c v) (s.n v)).2
def qT (C:FC)(s:FS)(i v:Nat):NS:=if v<i then(qA (C.c v) (s.n v)).1 else s.n v
def uD (C:FC)(s:FS)(i:Nat):Nat->List (List UInt8):=(List.range i).foldl (λl v=>(tI C s v).foldl (sI C v) l) s.l
def yC (C:FC)(s:FS):FS:=⟨qT C s C.N,uD C s C.N,s.k+1⟩
def yB (C:FC)(h k:Nat)(s:FS):Nat×FS:=
 match (s.l h)[k]? with
 |none=>(1,s)
 |some b=>
  let v:=(C.hs.getD h (0,0)).2.toNat
  let r:=pG (C.c v) (C.hs.getD h (0,0)).1 b (s.n v)
  (r.1,{s with n:=up1 s.n v r.2,l:=up1 s.l h ((s.l h).eraseIdx k)})
def B5 (C:FC)(h:Nat):Nat->FS->FS
 |0,s=>s
 |q+1,s=>B5 C h q (yB C h 0 s).2
def Eh (C:FC):List Nat->FS->FS
 |[],s=>s
 |h::l,s=>Eh C l (B5 C h (s.l h).length s)
def vM (C:FC)(s:FS):FS:=Eh C (List.range C.hs.length) (yC C s)
def FS.vL (C:FC):FS:=⟨λv=>NS.mY (C.c v),λ_=>[],0⟩
end Go.Abs
noncomputable section
namespace Go.Proofs.YtkeilicinggjmaaGreatDoor
open Go.Proofs.Tryz
open Go.Abs Go.Abs.M
variable (O:aH)(L:LV)(k:KV)(N P Q R S T U V W X Y Z a b c d e f g i j l m n o p q r s t u v w x y z A B C D E F G H I J zz zy zx zw zv zu zt zs zr zq zp zo zn zm zl zk zj zi zh zg zf ze zd zc zb za yz yy yx yw yv yu yt ys yr yq yp yo yn ym yl yk yj yi yh yg yf ye yd yc yb ya xz xy xx xw xv xu xt xs xr xq xp xo xn xm xl xk xj xi xh xg xf xe xd xc xb xa wz wy wx ww wv wu wt ws wr wq wp wo wn wm wl wk wj wi wh wg wf we wd wc wb wa vz:Value)(h:aF)
def Tp:Code:=bR [1,1,0,1,0,0] (cG prog 70)
def Tq:KV:=(dY 0 (eK prog O L (bR [1,1,1] (cG prog 70)) (eX prog Tryz.f70)))
theorem aQX:Tq O L (.exit 0) [a,b,c,d,e,f,g,i,j,l,m,n,o,p,q,r,s,t,u,v,w,x] h=some (aL [d],h):=by kernel_rfl
theorem aDw:aN prog O L Tp k [a,b,c,d,e,f,g,i,j,l,m,n,o,p,q,r,s,t,u,v,w,x] h=ob (aG (bin prog .lss 3 n m) h) λaa h=>aO aa (ob (aG (aT 1 l n) h) λab h=>ob (ld1 ab h) λac h=>ob (O (.func 123) [ac] h) λad h=>ob (dT 22 1 1 [(.slice none 0 0)] [(0,ad)] h) λae h=>ob (app 22 1 24 d ae h) λaf h=>ob (aG (bin prog .add 3 n (.I 1)) h) λag h=>k .normal [a,b,c,af,e,ac,g,i,j,l,m,ag,aa,ab,ac,d,ac,ad,ae,af,ag,x] h) (k (.exit 0) [a,b,c,d,e,f,g,i,j,l,m,n,aa,p,q,r,s,t,u,v,w,x] h):=by kernel_rfl
theorem aQY:bT prog O L 70 [N] h=ob (aG (aP N) h) λaa h=>ob (aG (aJ 0 aa) h) λab h=>ob (ld1 ab h) λac h=>ob (aG (aZ ac) h) λad h=>L (aN prog O L Tp) (Tq O L) [N,undef,(.slice none 0 0),(.slice none 0 0),undef,undef,N,aa,ab,ac,ad,(.I 0),undef,undef,undef,undef,undef,undef,undef,undef,undef,undef] h:=by kernel_rfl
theorem aDx:bT prog O L 71 [N,P] h=ob (O (.func 124) [N,P] h) λaa h=>ob (aG (ext 0 aa) h) λab h=>ob (aG (ext 1 aa) h) λac h=>aO ac (ob (aG (aP N) h) λad h=>ob (aG (aJ 0 ad) h) λae h=>ob (ld1 ae h) λaf h=>ob (aG (bin prog .add 3 P (.I 1)) h) λag h=>ob (O (.func 125) [af,P,ag] h) λah h=>ob (aG (aP N) h) λai h=>ob (aG (aJ 0 ai) h) λaj h=>ob (stN 1 aj ah h) λak h=>some (aL [ab,ac],h)) (some (aL [ab,ac],h)):=by kernel_rfl
theorem aDu:bT prog O L 123 [N] h=ob (aG (bin prog .eql 22 N (.slice none 0 0)) h) λaa h=>aO aa (some (aL [(.slice none 0 0)],h)) (ob (dT 5 1 0 [(.int .u8 0)] [] h) λab h=>ob (app 5 1 1 ab N h) λac h=>some (aL [ac],h)):=by kernel_rfl
theorem aQW:bT prog O L 67 [N] h=ob (aG (bin prog .lss 3 N (.I 1)) h) λaa h=>ob (gd aa false (cI N) h) λab h=>ob (gd aa false (aG (bin prog .gtr 3 ab (.I 64))) h) λac h=>ob (aG (cQ aa (.bool true) ac) h) λad h=>aO ad (some (aL [(.pointer none)],h)) (ob (aG (bld prog 230 [(1,N)]) h) λae h=>ob (cX 230 (Value.cells ae).toList .fix h) λaf h=>some (aL [af],h)):=by kernel_rfl
theorem aDt:bT prog O L 122 [N,P] h=ob (aG (aP N) h) λaa h=>ob (aG (aJ 0 aa) h) λab h=>ob (ld1 ab h) λac h=>ifB (true) (ob (aG (aZ ac) h) λad h=>ob (aG (aP N) h) λae h=>ob (aG (aJ 1 ae) h) λaf h=>ob (ld1 af h) λag h=>ifB (true) (ob (aG (bin prog .eql 3 ad ag) h) λah h=>aO ah (some (aL [(.bool false)],h)) (ob (aG (aP N) h) λai h=>ob (aG (aJ 0 ai) h) λaj h=>ob (ld1 aj h) λak h=>ifB (true) (ob (O (.func 123) [P] h) λal h=>ifB (chk ((ld1 aj) h) ak&&(true)) (ob (dT 22 1 1 [(.slice none 0 0)] [(0,al)] h) λam h=>ob (app 22 1 24 ak am h) λan h=>ifB (true) (ob (aG (aP N) h) λao h=>ob (aG (aJ 0 ao) h) λap h=>ob (stN 1 ap an h) λaq h=>ifB (true) (some (aL [(.bool true)],h)))))))):=by kernel_rfl
theorem aDv:bT prog O L 124 [N,P] h=ob (aG (bin prog .lss 3 P (.I 0)) h) λaa h=>ob (gd aa false (cI P) h) λab h=>ob (gd aa false (cI N) h) λac h=>ob (gd aa false (aG (aP ac)) h) λad h=>ob (gd aa false (aG (aJ 0 ad)) h) λae h=>ob (gd aa false (ld1 ae) h) λaf h=>ob (gd aa false (aG (aZ af)) h) λag h=>ob (gd aa false (aG (bin prog .geq 3 ab ag)) h) λah h=>ob (aG (cQ aa (.bool true) ah) h) λai h=>aO ai (some (aL [(.slice none 0 0),(.bool false)],h)) (ob (aG (aP N) h) λaj h=>ob (aG (aJ 0 aj) h) λak h=>ob (ld1 ak h) λal h=>ob (aG (aT 1 al P) h) λam h=>ob (ld1 am h) λan h=>some (aL [an,(.bool true)],h)):=by kernel_rfl
theorem aQV:bT prog O L 125 [N,P,Q] h=ob (aG (aZ N) h) λaa h=>ob (slc prog 1 N (some P) (some Q) (some aa) h) λab h=>ob (aG (bin prog .eql 3 P Q) h) λac h=>aO ac (some (aL [N],h)) (ob (aG (aZ N) h) λad h=>ob (slc prog 1 N none (some P) none h) λae h=>ifB (true) (ob (slc prog 1 N (some Q) none none h) λaf h=>ifB (true) (ob (app 22 1 24 ae af h) λag h=>ifB (true) (ob (aG (aZ ag) h) λah h=>ob (slc prog 1 ag (some ah) (some ad) none h) λai h=>ob (clr 1 [(.slice none 0 0)] ai h) λaj h=>some (aL [ag],h))))):=by kernel_rfl
end Go.Proofs.YtkeilicinggjmaaGreatDoor
end
namespace Go.Proofs.YtkeilicinggjmaaGreatDoor.Lk
open Go.Proofs.Tryz
open Go.Abs Go.Abs.M
theorem eBn (a:Addr)(n c:Nat):bin prog .eql 22 (.slice (some a) n c) (.slice none 0 0)=some (.bool false):=by
 have h:prog.underlying 22=some (.slice 5):=by kernel_rfl
 simp[bin,eE,nL,lS,h,eqV]
theorem aQ0:bin prog .eql 22 (.slice none 0 0) (.slice none 0 0)=some (.bool true):=by
 have h:prog.underlying 22=some (.slice 5):=by kernel_rfl
 simp[bin,eE,nL,lS,h,eqV]
theorem bL (n:Int):bld prog 230 [(1,.I n)]=some (.agg #[.slice none 0 0,.I n]):=rfl
theorem Jy:prog.cellsOf 22=1:=by kernel_rfl
theorem neRU:22≠5:=by decide
abbrev yD:=Row 22 5
section
variable {pr : iA} {H : aF} {m : Nat}
theorem aQ5 {n:Nat}(h:n<=1000000):hP n 1=true:=by simp[hP];omega
theorem aDz {n:Nat}(h:n<=1000000):hP n 24=true:=by simp[hP];omega
theorem aDy (hn:pr (.func 123)=none){u:Value}{bs:List UInt8}(h:Br H u bs)(hl:bs.length<=1000000)(hm:0<m):
  ∃u' H',lvl prog pr m (.func 123) [u] H=some (u',H')/\Ext H H'/\Bo 5 H' u' bs/\ ∀b,qL u' b->H.length<=b:=by
 rcases h.aGH with rfl|⟨b,o,n,c,rfl⟩
 ·have hb:bs=[]:=by
   rcases h with⟨h,_⟩|⟨_,_,_,_,_,_,h,_⟩
   ·exact h
   ·cases h
  refine⟨.slice none 0 0,H,cS hn hm ?_,Fr.kO _ _,.inl ⟨hb,.inl rfl⟩,λb hl=> ?_⟩
  ·rw[aDu]
   simp -implicitDefEqProofs only[aQ0,r_opt,ob_some,iteV_true,oneOf_one]
  ·obtain⟨o,n,c,hv⟩:=hl
   cases hv
 ·have g0:dT 5 1 0 [.int .u8 0] [] H=some (.slice (some ⟨H.length,0,none⟩) 0 0,H++[.cells [] 5 .row]):=rfl
  have hold: ∀b,b<H.length->(H++[Blk.cells [] 5 .row])[b]? =H[b]? :=λb hb=>aRX hb
  have hbr:Br (H++[Blk.cells [] 5 .row]) (.slice (some ⟨b,o,none⟩) n c) bs:=by
   rcases h with h|⟨b',o',c',cs,e,k,h1,h2,h3,h4⟩
   ·exact .inl h
   ·exact .inr ⟨b',o',c',cs,e,k,h1,h2,by rw[hold _ (aRU.mp h3).1,h3],h4⟩
  obtain⟨v',H',g1,g2,g3,g4,g5⟩:=Mf (by':=1) (v:= .slice (some ⟨H.length,0,none⟩) 0 0) (n:=0) (cs:=[]) (e:=5) (sz:=1) (H:=H++[Blk.cells [] 5 .row])
   ⟨rfl,.inr ⟨H.length,0,[],rfl,aRZ _,rfl,by simp⟩⟩ hbr.aGL hbr.aGK (by rw[aSf];exact aQ5 hl) (aGM bs) aC
  simp only[aR6,aSg,List.length_nil] at g3 g4 g5;refine⟨v',H',cS hn hm ?_,⟨by omega,λb hb _=> ?_⟩,Bo.aGO (by simpa using g2),λb hl=> ?_⟩
  ·rw[aDu]
   simp -implicitDefEqProofs only[eBn,r_opt,ob_some,iteV_false,oneOf_one,g0,g1]
  ·rw[g4 b U (λ⟨o,n,c,hh⟩=>by cases hh;omega),hold b hb]
  ·obtain⟨o,n,c,hv⟩:=hl
   rcases g5 b ⟨o,_,c,hv⟩ with⟨o,n,c,hh⟩|hh
   ·cases hh
    exact aRZ _
   ·omega
structure IsLink (H:aF)(a:Nat)(bss:List (List UInt8))(room:Nat)(F:Nat->Prop):Prop where
 ex: ∃v G,H[a]? =some (.cells [v,.I room] 230 .fix)/\yD H v bss G/\ ¬G a/\ ∀b,G b->F b
 at_:F a
 lt: ∀b,F b->b<H.length
 few:bss.length<=room/\room<=64
 small: ∀bs∈bss,bs.length<=100000
theorem IsLink.Ae {H':aF}{a:Nat}{bss:List (List UInt8)}{room:Nat}{F:Nat->Prop}(h:IsLink H a bss room F)(hk: ∀b,F b->H'[b]? =H[b]?)(hl:H.length<=H'.length):IsLink H' a bss room F:=by
 obtain⟨v,G,h1,h2,h3,h4⟩:=h.ex
 exact⟨⟨v,G,by rw[hk a h.at_,h1],h2.Ga (λb hb=>hk b (h4 b hb)) hl,h3,h4⟩,h.at_,λb hb=>aR9 (h.lt b hb) hl,h.few,h.small⟩
theorem IsLink.aQZ {a:Nat}{bss:List (List UInt8)}{room:Nat}{F F':Nat->Prop}(h:IsLink H a bss room F)(hF: ∀b,F b->F' b)(hl: ∀b,F' b->b<H.length):IsLink H a bss room F':=by
 obtain⟨v,G,h1,h2,h3,h4⟩:=h.ex
 exact⟨⟨v,G,h1,h2,h3,λb hb=>hF b (h4 b hb)⟩,hF a h.at_,hl,h.few,h.small⟩
theorem aQ3 (hn:pr (.func 67)=none)(hm:0<m)(n:Nat)(h:1<=n/\n<=64): ∃H',lvl prog pr m (.func 67) [.I n] H=some (.Q H.length 0,H')/\Ext H H'/\IsLink H' H.length [] n (Nw H H'):=by
 have e1:decide ((n:Int)<1)=false:=aSF U
 have e2:decide (64<(n:Int))=false:=aSF U
 refine⟨H++[.cells [.slice none 0 0,.I n] 230 .fix],cS hn hm ?_,Fr.app _ _ _,⟨⟨.slice none 0 0,λ_=>False,by simp,Row.W7.mpr (λb hb=>hb.elim),id,λb hb=>hb.elim⟩,⟨aRZ _,by simp⟩,λb hb=>hb.2,⟨by simp,h.2⟩,by simp⟩⟩
 rw[aQW];simp -implicitDefEqProofs only[b_lss,b_gtr,e1,e2,r_opt,r_ret,ob_some,r_gdff,r_gdff2,pick_f,iteV_false,bL,x_newB,oneOf_one];rfl
theorem Ei (hv:Value)(room:Nat){a:Nat}(h:H[a]? =some (.cells [hv,.I room] 230 .fix)):ld1 (.Q a 0) H=some (hv,H):=by rw[kM,h];rfl
theorem aQ2 (hv:Value)(room:Nat){a:Nat}(h:H[a]? =some (.cells [hv,.I room] 230 .fix)):ld1 (.Q a 1) H=some (.I room,H):=by rw[kM,h];rfl
section
variable {a room : Nat} {bss : List (List UInt8)} {F : Nat → Prop}
theorem aQ1 (hn:pr (.func 124)=none)(h:IsLink H a bss room F)(hm:0<m)(i:Int)(hi:i<0∨(bss.length:Int)<=i):
  lvl prog pr m (.func 124) [.Q a 0,.I i] H=some (.tuple #[.slice none 0 0,.bool false],H):=by
 obtain⟨v,G,h1,h2,h3,h4⟩:=h.ex;have l0:=Ei v room h1;have hl:=h2.Gb;refine cS hn hm ?_;rw[aDv];by_cases h0:i<0
 ·have e1:decide (i<0)=true:=aSE h0
  simp -implicitDefEqProofs only[b_lss,e1,r_opt,r_ret,ob_some,r_gdtf,r_gdtf2,r_gdu,r_gdu2,pick_t,iteV_true,oneOf_two]
 ·have e1:decide (i<0)=false:=aSF h0
  have e2:decide ((bss.length:Int)<=i)=true:=aSE U
  simp -implicitDefEqProofs only[b_lss,b_geq,e1,e2,r_nil,r_fAddr,aSf,l0,hl,r_opt,r_ret,ob_some,r_gdff,r_gdff2,pick_f,iteV_true,oneOf_two]
def Jw (room:Nat)(bss:List (List UInt8))(bs:List UInt8):List (List UInt8):=if bss.length=room then bss else bss++[bs]
theorem aQ4 (hn:pr (.func 122)=none)(hc:pr (.func 123)=none)(h:IsLink H a bss room F)(hm:100<=m){u:Value}{bs:List UInt8}(hb:Br H u bs)(hl:bs.length<=100000):
  ∃H',lvl prog pr m (.func 122) [.Q a 0,u] H=some (.bool (decide (bss.length<room)),H')/\Fr F H H'/\IsLink H' a (Jw room bss bs) room (Up F H H'):=by
 obtain⟨v,G,h1,h2,h3,h4⟩:=h.ex;have l0:=Ei v room h1;have l1:=aQ2 v room h1;have hlen:=h2.Gb;by_cases hf:bss.length=room
 ·have e1:((bss.length:Int)==(room:Int))=true:=by simp[hf]
  refine⟨H,cS hn U ?_,Fr.kO _ _,?_⟩
  ·rw[aDt]
   have e2:decide (bss.length<room)=false:=aSF U
   simp -implicitDefEqProofs only[r_nil,r_fAddr,aSf,l0,l1,hlen,b_eql,e1,e2,r_opt,ob_some,ifB_true,iteV_true,oneOf_one]
  ·unfold Jw
   rw[if_pos hf];exact h.aQZ (λb hb=> .inl hb) λb hb=>hb.elim (h.lt b) λhx=>hx.2
 ·have hlt:bss.length<room:=by
   have:=h.few.1;omega
  have e1:((bss.length:Int)==(room:Int))=false:=by simp;omega
  have e2:decide (bss.length<room)=true:=aSE hlt;obtain⟨u',H1,c1,c2,c3,c4⟩:=aDy hc hb U (m:=m-1) U
  have ha:=h.lt a h.at_;have h1':H1[a]? =some (.cells [v,.I room] 230 .fix):=by rw[c2.2 a ha id,h1]
  have h2':yD H1 v bss G:=h2.Ga (λb hb=>c2.2 b (h2.A6 b hb) id) c2.1
  have l0':=Ei v room h1';have hck:chk (ld1 (.Q a 0) H1) v=true:=by
   rw[l0'];obtain⟨us,hi⟩:=h2';obtain⟨_,⟨rfl,_⟩|⟨c,cap,rest,rfl,_⟩⟩:=hi.row<;>simp[chk,veq]
  obtain⟨w,H2,v',H3,g1,g2,g3,g4,g5⟩:=h2'.W8 neRU c3 (λb hl hF=>by have:=c4 b hl;have:=h2.A6 b hF;omega) (by':=24) (aDz (by have:=h.few;omega)) (.slice none 0 0)
  have hH3:H3[a]? =some (.cells [v,.I room] 230 .fix):=by rw[g5.2 a (by have:=c2.1;omega) h3,h1']
  have hlt3:=(aRU.mp hH3).1;have hst:stN 1 (.Q a 0) v' H3=some (undef,H3.set a (.cells [v',.I room] 230 .fix)):=by
   obtain⟨us,hi⟩:=g4;obtain⟨_,⟨rfl,_⟩|⟨c,cap,rest,rfl,_⟩⟩:=hi.row<;>rw[mA 1 a 0 _ rfl,hH3]<;>rfl
  refine⟨H3.set a (.cells [v',.I room] 230 .fix),cS hn U ?_,⟨by have:=c2.1;have:=g5.1;simp;omega,λb hb hF=> ?_⟩,?_⟩
  ·rw[aDt]
   simp -implicitDefEqProofs only[r_nil,r_fAddr,aSf,l0,l1,hlen,b_eql,e1,e2,r_opt,ob_some,ifB_true,iteV_false,oneOf_one,c1,hck,Bool.and_true,g1,g3,hst]
  ·rw[oL (λhx=>hF (by rw[hx];exact h.at_)),g5.2 b (by have:=c2.1;omega) (λhx=>hF (h4 b hx)),c2.2 b hb id]
  ·unfold Jw
   rw[if_neg hf];have hna: ¬Up (λb=>G b∨qL u' b) H1 H3 a:=by
    rintro ((hx|hx)|hx)
    ·exact h3 hx
    ·have:=c4 a hx
     omega
    ·have:=c2.1
     omega
   refine⟨⟨v',Up (λb=>G b∨qL u' b) H1 H3,by rw[aR0 hlt3],g4.Ga (λb hb=>oL λhx=>hna (by rw[<-hx];exact hb)) (by simp),hna,λb hb=> ?_⟩,.inl h.at_,λb hb=> ?_,⟨by simp;omega,h.few.2⟩,?_⟩
   ·rcases hb with(hx|hx)|hx
    ·exact .inl (h4 b hx)
    ·exact .inr ⟨c4 b hx,by have:=g4.A6 b (.inl (.inr hx));simpa using this⟩
    ·exact .inr ⟨by have:=c2.1;omega,by simpa using hx.2⟩
   ·rcases hb with hb|hb
    ·have:=h.lt b hb
     have:=c2.1;have:=g5.1;simp;omega
    ·exact hb.2
   ·intro x hx
    rcases List.mem_append.mp hx with hx|hx
    ·exact h.small x hx
    ·rw[List.mem_singleton] at hx
     subst hx;exact hl
end
end
section
variable {pr : iA} {H : aF} {m : Nat}
theorem aQ7 (hn:pr (.func 125)=none)(hm:0<m){v:Value}{n:Nat}{cs:List Value}(h:RowC 22 1 H v n cs){i:Nat}(hi:i<n)(hall:dV cs=true):
  ∃v' H',lvl prog pr m (.func 125) [v,.I i,.I (i+1:Nat)] H=some (v',H')/\RowC 22 1 H' v' (n-1) (cs.eraseIdx i)/\(∀b,cJ v' b->cJ v b)/\H'.length=H.length/\ ∀b,¬cJ v b->H'[b]? =H[b]? :=by
 obtain⟨hcs,⟨rfl,h0⟩|⟨c,cap,rest,rfl,hcap,hrest,hb⟩⟩:=h
 ·omega
 rw[Nat.mul_one] at hcs hrest;have hlt:=(aRU.mp hb).1;obtain⟨k,hk⟩: ∃k,n=i+1+k:=⟨n-(i+1),by omega⟩
 obtain⟨y,hy⟩: ∃y,(cs.drop i).drop k=[y]:=by
  have:((cs.drop i).drop k).length=1:=by simp;omega
  exact List.length_eq_one_iff.mp this
 have hsplit:cs++rest=cs.take i++(cs.drop i).take k++(y::rest):=by
  have h1:=List.take_append_drop i cs;have h2:=List.take_append_drop k (cs.drop i);rw[hy] at h2;rw[aR1,show y::rest=[y]++rest from rfl,<-aR1 (List.take k _),h2,<-aR1,h1]
 have hb':=hb;rw[hsplit] at hb';have hv1:=rW (P:=prog) (H:=H) (o:=0) (sz:=1) hb (λ_=>Jy) (len:=n) (cap:=cap) (lU 0 .i64 i) (lU n .i64 (i+1)) (lU cap .i64 n) U U hcap
 have hv4:=rW (P:=prog) (H:=H) (o:=0) (sz:=1) hb (λ_=>Jy) (len:=n) (cap:=cap) (lo:=none) (mx:=none) rfl (lU n .i64 i) rfl U U (aRZ _)
 have hv5:=rW (P:=prog) (H:=H) (o:=0) (sz:=1) hb (λ_=>Jy) (len:=n) (cap:=cap) (hi:=none) (mx:=none) (lU 0 .i64 (i+1)) rfl rfl U hcap (aRZ _)
 simp only[Nat.zero_mul,Nat.mul_one,aSf,Nat.add_zero,Nat.sub_zero] at hv1 hv4 hv5;have hnk:n-(i+1)=k:=U
 rw[hnk] at hv5;have hsrc:gT 1 (.slice (some ⟨c,i+1,none⟩) k (cap-(i+1))) k H=some (cs.drop (i+1)):=by
  unfold gT;by_cases h0:k=0
  ·have:cs.drop (i+1)=[]:=by apply List.drop_eq_nil_of_le;omega
   simp[h0,this]
  ·simp only
   rw[if_neg h0,hb];simp only;rw[if_pos ⟨aRZ _,by simp;omega⟩,Nat.mul_one,List.drop_append_of_le_length U,List.take_append_of_le_length (by simp;omega),List.take_of_length_le (by simp;omega)]
 have hall':dV (cs.drop (i+1))=true:=by
  unfold dV at hall⊢;rw[aSz] at hall⊢;exact λx hx=>hall x (List.mem_of_mem_drop hx)
 have happ:=aGS (by':=24) (w:= .slice (some ⟨c,i+1,none⟩) k (cap-(i+1))) (sz:=1) (n:=i) (k:=k) (cap:=cap) hb' (by simp;omega) (by simp;omega) rfl hsrc U hall'
 obtain⟨H1,hH1⟩:=aD (H.set c (.cells (cs.take i++cs.drop (i+1)++(y::rest)) 22 .row));rw[<-hH1] at happ;have hb1:H1[c]? =some (.cells (cs.take i++cs.drop (i+1)++(y::rest)) 22 .row):=by rw[hH1,aR0 hlt]
 have hv8:=rW (P:=prog) (H:=H1) (o:=0) (sz:=1) hb1 (λ_=>Jy) (len:=i+k) (cap:=cap) (mx:=none) (lU 0 .i64 (i+k)) (lU (i+k) .i64 n) rfl U hcap (aRZ _)
 simp only[Nat.mul_one,aSf] at hv8;have hn1:n-(i+k)=1:=U
 rw[hn1] at hv8;have hplen:(cs.take i++cs.drop (i+1)).length=i+k:=by simp;omega
 have hclr:clr 1 [.slice none 0 0] (.slice (some ⟨c,i+k,none⟩) 1 (cap-(i+k))) H1=some (.tuple #[],H1.set c (.cells (cs.take i++cs.drop (i+1)++(.slice none 0 0::rest)) 22 .row)):=by
  have:=uU [.slice none 0 0] [y] (cs.take i++cs.drop (i+1)) rest rfl;rw[hplen] at this;unfold clr;simp only;rw[if_neg aC,hb1]
  simp only;rw[if_pos ⟨by decide,by rw[aR6,hplen];simp,rfl,rfl⟩]
  simp only[List.replicate,aSu,List.flatten_nil,List.append_nil];rw[show y::rest=[y]++rest from rfl,<-aR1,this]
  simp
 have e1:((i:Int)==((i+1:Nat):Int))=false:=by simp;omega
 refine⟨.slice (some ⟨c,0,none⟩) (i+k) cap,H1.set c (.cells (cs.take i++cs.drop (i+1)++(.slice none 0 0::rest)) 22 .row),cS hn hm ?_,⟨?_,.inr ⟨c,cap,.slice none 0 0::rest,by congr 1;omega,by omega,by simp;omega,?_⟩⟩,?_,by rw[hH1];simp,?_⟩
 ·rw[aQV]
  simp -implicitDefEqProofs only[vT,hv1,hv4,hv5,hv8,happ,hclr,b_eql,e1,r_opt,ob_some,ifB_true,iteV_false,oneOf_one]
 ·rw[List.eraseIdx_eq_take_drop_succ,hplen];omega
 ·rw[aR0 (by rw[hH1];simpa using hlt),List.eraseIdx_eq_take_drop_succ]
 ·rintro b ⟨o,n',c',hh⟩
  cases hh
  exact⟨0,n,cap,rfl⟩
 ·intro b hh
  have hne:b≠c:=λhx=>hh ⟨0,n,cap,by rw[hx]⟩
  rw[oL hne,hH1,oL hne]
section
variable {a room : Nat} {bss : List (List UInt8)} {F : Nat → Prop}
theorem aQ9 (hn:pr (.func 71)=none)(ha:pr (.func 124)=none)(h:IsLink H a bss room F)(hm:100<=m)(i:Int)(hi:i<0∨(bss.length:Int)<=i):
  lvl prog pr m (.func 71) [.Q a 0,.I i] H=some (.tuple #[.slice none 0 0,.bool false],H):=by
 have g:=aQ1 ha h (m:=m-1) U i hi
 refine cS hn U ?_
 rw[aDx];simp -implicitDefEqProofs only[g,r_opt,ob_some,ext_0,ext_1,iteV_false,oneOf_two]
theorem aRa (hn:pr (.func 71)=none)(ha:pr (.func 124)=none)(hd:pr (.func 125)=none)(h:IsLink H a bss room F)(hm:100<=m)(i:Nat){bs:List UInt8}(hi:bss[i]? =some bs):
  ∃u H',lvl prog pr m (.func 71) [.Q a 0,.I i] H=some (.tuple #[u,.bool true],H')/\Fr F H H'/\IsLink H' a (bss.eraseIdx i) room F/\Bo 5 H' u bs/\H'.length=H.length/\ ∀c,qL u c->F c:=by
 obtain⟨v,G,h1,h2,h3,h4⟩:=h.ex;obtain⟨us,hr⟩:=h2;have hlt:i<us.length:=by
  have:=(aRU.mp hi).1;have:=hr.len;omega
 have hu:us[i]? =some us[i]:=aRW hlt;obtain⟨p,k1,k2,k3⟩:=hr.row.Wz i .i64 hlt;have k3':=k3 H rfl 0 aC
 simp only[Nat.mul_one,Nat.add_zero] at k1 k3';rw[hu,vU] at k3';have l0:=Ei v room h1;have hlen:=hr.row.Me;have e1:decide ((i:Int)<0)=false:=aSF U
 have e2:decide ((us.length:Int)<=i)=false:=aSF U
 have g:lvl prog pr (m-1) (.func 124) [.Q a 0,.I i] H=some (.tuple #[us[i],.bool true],H):=by
  refine cS ha U ?_
  rw[aDv];simp -implicitDefEqProofs only[b_lss,b_geq,e1,e2,r_nil,r_fAddr,aSf,l0,hlen,r_opt,r_ret,ob_some,r_gdff,r_gdff2,pick_f,iteV_false,oneOf_two,k1,k3']
 have hall:dV us=true:=by
  unfold dV;rw[aSz];intro x hx;obtain⟨j,hj⟩:=List.getElem?_of_mem hx;have hjl:=(aRU.mp hj).1;have:=hr.len;have:=(hr.bo j x bss[j] hj (aRW U)).Mg
  simpa[dV] using this
 obtain⟨v',H',d1,d2,d3,d4,d5⟩:=aQ7 hd (m:=m-1) U hr.row hlt hall
 have hna: ¬cJ v a:=λhh=>h3 (hr.hv a hh)
 have hwrap:IntKind.i64.wrap ((i:Int)+1)=((i+1:Nat):Int):=by
  have:=h.few;have:=hr.len;rw[dL U U]
  omega
 have hH':H'[a]? =some (.cells [v,.I room] 230 .fix):=by rw[d5 a hna,h1]
 have hst:stN 1 (.Q a 0) v' H'=some (undef,H'.set a (.cells [v',.I room] 230 .fix)):=by
  obtain⟨_,⟨rfl,_⟩|⟨c,cap,rest,rfl,_⟩⟩:=d2<;>rw[mA 1 a 0 _ rfl,hH']<;>rfl
 have hr':RowI 22 5 H' v' (us.eraseIdx i) (bss.eraseIdx i) G:=by
  refine hr.aGR neRU (by rw[List.length_eraseIdx_of_lt hlt];exact d2) ?_ d4 d3 d5 (List.eraseIdx_sublist _ _) λj u bs hu hb=> ?_
  ·have:=hr.len
   rw[List.length_eraseIdx_of_lt hlt,List.length_eraseIdx_of_lt U]
   omega
  ·rw[List.getElem?_eraseIdx] at hu hb
   by_cases hj:j<i
   ·rw[if_pos hj] at hu hb
    exact⟨j,hu,hb⟩
   ·rw[if_neg hj] at hu hb
    exact⟨j+1,hu,hb⟩
 have keep: ∀b,b≠a->(H'.set a (.cells [v',.I room] 230 .fix))[b]? =H'[b]? :=λb hb=>oL hb
 have hGa: ∀b,G b->b≠a:=λb hb hx=>h3 (by rw[<-hx];exact hb)
 refine⟨us[i],H'.set a (.cells [v',.I room] 230 .fix),cS hn U ?_,⟨by simp;omega,λb hb hF=> ?_⟩,⟨⟨v',G,?_,⟨_,hr'.W9 (λb hb=>keep b (hGa b hb)) (by simp)⟩,h3,h4⟩,h.at_,?_,⟨?_,h.few.2⟩,λx hx=>h.small x (List.mem_of_mem_eraseIdx hx)⟩,?_,by simp[d4],λc hc=>h4 c (hr.hu _ (List.getElem_mem hlt) c hc)⟩
 ·rw[aDx]
  simp -implicitDefEqProofs only[g,r_opt,ob_some,ext_0,ext_1,iteV_true,oneOf_two,r_nil,r_fAddr,aSf,l0,cR,hwrap,d1,hst]
 ·rw[keep b (λhx=>hF (by rw[hx];exact h.at_)),d5 b (λhh=>hF (h4 b (hr.hv b hh)))]
 ·exact aR0 (aRU.mp hH').1
 ·intro b hb
  simp[d4];exact h.lt b hb
 ·have:=h.few.1
  have:=(aRU.mp hi).1;rw[List.length_eraseIdx_of_lt this];omega
 ·have hm:=List.getElem_mem hlt
  refine(hr.bo i _ bs hu hi).Ct λb hl=> ?_
  rw[keep b (hGa b (hr.hu _ hm b hl)),d5 b λhh=>hr.Mh neRU hh hm hl]
end
section
variable (H0 : aF) (w : Value) (bss : List (List UInt8)) (G : Nat → Prop)
theorem aQ6 (hc:pr (.func 123)=none)(h2:yD H0 w bss G)(hl:bss.length<=100000)(hsm: ∀bs∈bss,bs.length<=100000): ∀(r i k:Nat)(H:aF)(o:Value),bss.length-i=r->i<=bss.length->r<k->0<m->Ext H0 H->yD H o (bss.take i) (Nw H0 H)-> ∀(x0 x1 x2 x4 x5 x6 x7 x8 aV aR aS aQ aW aX aU bA bP bQ:Value),
  ∃v H',aM k (aN prog (lvl prog pr m) (aM m) Tp) (Tq (lvl prog pr m) (aM m)) [x0,x1,x2,o,x4,x5,x6,x7,x8,w,(.I (bss.length:Nat)),(.I (i:Nat)),aV,aR,aS,aQ,aW,aX,aU,bA,bP,bQ] H=some (v,H')/\Ext H0 H'/\yD H' v bss (Nw H0 H'):=by
 intro r;induction r with
 |zero=>
  intro i k H o hr hi hk hm hE hO;intros;obtain⟨k,rfl⟩:=aB k U
  obtain rfl:i=bss.length:=U
  have e:decide ((bss.length:Int)<bss.length)=false:=by simp
  refine⟨o,H,?_,hE,by rw[List.take_length] at hO;exact hO⟩
  rw[dR,aDw];simp -implicitDefEqProofs only[b_lss,e,r_opt,ob_some,iteV_false,again_exit];rw[aQX];simp -implicitDefEqProofs only[oneOf_one]
 |succ r ih=>
  intro i k H o hr hi hk hm hE hO;intros;obtain⟨k,rfl⟩:=aB k U
  have e:decide ((i:Int)<bss.length)=true:=by simp;omega
  have hb:bss[i]? =some bss[i]:=aRW U
  obtain⟨u,p,g1,g2,g3,g4,g5⟩:=h2.aGP hb .i64;have hld:=g3 H (hE.2 p (h2.A6 p g2) id);have hub:Br H u bss[i]:=g4.aGF.aGI λb hl=>hE.2 b (h2.A6 b (g5 b hl)) id
  obtain⟨u',H1,c1,c2,c3,c4⟩:=aDy hc hub (by have:=hsm _ (List.getElem_mem (show i<bss.length by omega));omega) hm
  have hO1:yD H1 o (bss.take i) (Nw H0 H):=hO.Ga (λb hb=>c2.2 b hb.2 id) c2.1
  have htl:(bss.take i).length=i:=by simp;omega
  obtain⟨w',H2,v',H3,p1,p2,p3,p4,p5⟩:=hO1.W8 neRU c3 (λb hl hF=>by have:=c4 b hl;have:=hF.2;omega) (by':=24) (aDz (by rw[htl];omega)) (.slice none 0 0)
  have e3:=aA (i:=i) U
  have hE3:Ext H0 H3:=⟨by have:=hE.1;have:=c2.1;have:=p5.1;omega,λb hb _=>by
   rw[p5.2 b (by have:=hE.1;have:=c2.1;omega) (λhx=>by have:=hx.1;omega),c2.2 b (by have:=hE.1;omega) id,hE.2 b hb id]⟩
  have htk:bss.take i++[bss[i]]=bss.take (i+1):=by rw[List.take_add_one,hb];rfl
  rw[htk] at p4;have hO3:yD H3 v' (bss.take (i+1)) (Nw H0 H3):=p4.aGQ (λb hb=>by
   have h1:=hE.1;have h2:=c2.1;have h3:=p5.1;rcases hb with(hb|hb)|hb
   ·exact⟨hb.1,by have:=hb.2;omega⟩
   ·obtain⟨cs,hcs⟩:=c3.Mc b hb
    have:=(aRU.mp hcs).1
    exact⟨by have:=c4 b hb;omega,by omega⟩
   ·exact⟨by have:=hb.1;omega,hb.2⟩) (λb hb=>hb.2)
  rw[dR,aDw];simp -implicitDefEqProofs only[b_lss,e,r_opt,ob_some,iteV_true,g1,hld,c1,p1,p3,cR,e3,again_normal];exact ih (i+1) k H3 v' U U U hm hE3 hO3 ..
end
theorem aQ8 {a room:Nat}{bss:List (List UInt8)}{F:Nat->Prop}(hn:pr (.func 70)=none)(hc:pr (.func 123)=none)(h:IsLink H a bss room F)(hm:100<=m):
  ∃v H',lvl prog pr m (.func 70) [.Q a 0] H=some (v,H')/\Ext H H'/\yD H' v bss (Nw H H'):=by
 obtain⟨v,G,h1,h2,h3,h4⟩:=h.ex;have l0:=Ei v room h1;have hlen:=h2.Gb;have hf:=h.few;obtain⟨v',H',g1,g2,g3⟩:=aQ6 (pr:=pr) (m:=m-1) H v bss G hc h2 U h.small bss.length 0 (m-1) H (.slice none 0 0) U U U U (Fr.kO _ _) (Row.W7.mpr λb hb=>hb.2)
  (.Q a 0) undef (.slice none 0 0) undef undef (.Q a 0) (.Q a 0) (.Q a 0) undef undef undef undef undef undef undef undef undef undef
 refine⟨v',H',cS hn U ?_,g2,g3⟩
 rw[aQY];simp -implicitDefEqProofs only[r_nil,r_fAddr,aSf,l0,hlen,r_opt,ob_some];exact g1
end
end Go.Proofs.YtkeilicinggjmaaGreatDoor.Lk
namespace Go.Proofs.YtkeilicinggjmaaGreatDoor
open Go.Proofs.Tryz
open Go.Abs Go.Abs.M
open Classical
def qU (p:PlanD)(ev wv nv hv ns:Value)(mb k:Nat):List Value:=plC p ev wv nv++[hv,ns,.map (some mb),.I (k:Nat)]
structure FL where
 fb:Nat
 hv:Value
 ns:Value
 mb:Nat
 y:Nat->Lay
 lb:Nat->Nat
inductive FP where
 |nd (v:Nat)|lk (h:Nat)|fb|cs
def eJ (p:PlanD):FC:=⟨kL p,p.nodes.toNat,dM p,p.bag.toNat⟩
def lkF (p:PlanD)(a:FL)(j:Nat)(e:Ed):Option Value:=if(dM p).idxOf e<j then some (pt (a.lb ((dM p).idxOf e))) else none
structure OwnF (H0 H:aF)(O:FP->Nat->Prop):Prop where
 dis: ∀i j b,O i b->O j b->i=j
 lt: ∀i b,O i b->b<H.length
 old: ∀i b,O i b->H0.length<=b
 ext:Ext H0 H
structure FCst (H:aF)(O:FP->Nat->Prop)(a:FL)(p:PlanD)(ev wv nv:Value)(k n j:Nat):Prop where
 fab:H[a.fb]? =some (.cells (qU p ev wv nv a.hv a.ns a.mb k) 149 .fix)
 fabO:O .fb a.fb
 hops:Hw H a.hv (dM p)
 hopsO: ∀b,cJ a.hv b->O .cs b
 nds:Rw ptC 30 1 H a.ns ((List.range n).map λv=>some ⟨(a.y v).nb,0,none⟩)
 ndsO: ∀b,cJ a.ns b->O .cs b
 mp:IsMap edV H a.mb (lkF p a j)
 mpO:O .cs a.mb
structure FabG (H0 H:aF)(O:FP->Nat->Prop)(a:FL)(F:Nat->Part->Nat->Prop)(p:PlanD)(ev wv nv:Value)(t:Nat)(s:FS)(n j:Nat):Prop where
 ok:gY p=true
 pv:PV H0 p ev wv nv
 own:OwnF H0 H O
 cst:FCst H O a p ev wv nv s.k n j
 node: ∀v,v<n->NodeAt H0 H (F v) (a.y v) p ev wv nv (kL p v) t (s.n v)
 nodeO: ∀v,v<n-> ∀b,Un (F v) b->O (.nd v) b
 link: ∀h,h<j->Lk.IsLink H (a.lb h) (s.l h) p.bag.toNat (O (.lk h))
abbrev fE (H0 H:aF)(O:FP->Nat->Prop)(a:FL)(F:Nat->Part->Nat->Prop)(p:PlanD)(ev wv nv:Value)(t:Nat)(s:FS):Prop:=FabG H0 H O a F p ev wv nv t s p.nodes.toNat (dM p).length
section
variable {H0 H H' : aF} {O : FP → Nat → Prop} {a : FL} {F : Nat → Part → Nat → Prop} {p : PlanD} {ev wv nv : Value} {t : Nat} {s : FS} {m : Nat}
theorem OwnF.Ej (h:OwnF H0 H O)(i:FP){X X':Nat->Prop}(hX: ∀b,X b->O i b)(hm:Mv X X' H H')(hl: ∀b,X' b->b<H'.length):
  OwnF H0 H' (updI O i X')/\ ∀j,j≠i-> ∀b,O j b-> ¬X b/\H'[b]? =H[b]? :=by
 have key: ∀j,j≠i-> ∀b,O j b-> ¬X b:=λj hj b hb hx=>hj (h.dis j i b hb (hX b hx))
 have k2: ∀j,j≠i-> ∀b,O j b-> ¬X' b:=λj hj b hb hx=>(hm.own b hx).elim (key j hj b hb) λhl=>by have:=h.lt j b hb;omega
 refine⟨⟨λj k b hj hk=> ?_,λj b hj=> ?_,λj b hj=> ?_,⟨aSa h.ext.1 hm.le,λb hb _=> ?_⟩⟩,λj hj b hb=>⟨key j hj b hb,hm.keep b (h.lt j b hb) (key j hj b hb)⟩⟩
 ·by_cases hji:j=i
  ·by_cases hki:k=i
   ·rw[hji,hki]
   ·rw[hji,iK] at hj
    rw[eI _ _ hki] at hk;exact absurd hj (k2 k hki b hk)
  ·rw[eI _ _ hji] at hj
   by_cases hki:k=i
   ·rw[hki,iK] at hk
    exact absurd hk (k2 j hji b hj)
   ·rw[eI _ _ hki] at hk
    exact h.dis j k b hj hk
 ·by_cases hji:j=i
  ·rw[hji,iK] at hj
   exact hl b hj
  ·rw[eI _ _ hji] at hj
   exact aR9 (h.lt j b hj) hm.le
 ·by_cases hji:j=i
  ·rw[hji,iK] at hj
   exact(hm.own b hj).elim (λhx=>h.old i b (hX b hx)) λhl=>aSa h.ext.1 hl
  ·rw[eI _ _ hji] at hj
   exact h.old j b hj
 ·rw[hm.keep b (aR9 hb h.ext.1) (λhx=>by have:=h.old i b (hX b hx);omega),h.ext.2 b hb id]
theorem FCst.Jz {O':FP->Nat->Prop}{k n j:Nat}(h:FCst H O a p ev wv nv k n j)(h1: ∀b,O .fb b->H'[b]? =H[b]? /\O' .fb b)(h2: ∀b,O .cs b->H'[b]? =H[b]? /\O' .cs b):FCst H' O' a p ev wv nv k n j where
 fab:=by rw[(h1 _ h.fabO).1,h.fab]
 fabO:=(h1 _ h.fabO).2
 hops:=h.hops.eY λb hb=>(h2 b (h.hopsO b hb)).1
 hopsO:=λb hb=>(h2 b (h.hopsO b hb)).2
 nds:=h.nds.eY λb hb=>(h2 b (h.ndsO b hb)).1
 ndsO:=λb hb=>(h2 b (h.ndsO b hb)).2
 mp:=h.mp.zT (h2 _ h.mpO).1
 mpO:=(h2 _ h.mpO).2
theorem NodeAt.Ts {F:Part->Nat->Prop}{y:Lay}{c:Cfg}{t t':Nat}{s:NS}(h:NodeAt H0 H F y p ev wv nv c t s)(ht:t<=t'):NodeAt H0 H F y p ev wv nv c t' s:={h with inv:=h.inv.tA ht}
theorem FabG.nd (h:fE H0 H O a F p ev wv nv t s){v:Nat}(hv:v<p.nodes.toNat){F':Part->Nat->Prop}{t':Nat}{s':NS}(ht:t<=t')(hn:NodeAt H0 H' F' (a.y v) p ev wv nv (kL p v) t' s')(hm:Mv (Un (F v)) (Un F') H H'):
  fE H0 H' (updI O (.nd v) (Un F')) a (up1 F v F') p ev wv nv t' {s with n:=up1 s.n v s'}:=by
 obtain⟨h1,h2⟩:=h.own.Ej (.nd v) (h.nodeO v hv) hm hn.sep.rD;have hk: ∀j,j≠ .nd v-> ∀b,O j b->H'[b]? =H[b]? /\updI O (.nd v) (Un F') j b:=λj hj b hb=>⟨(h2 j hj b hb).2,by rw[eI _ _ hj];exact hb⟩
 refine⟨h.ok,h.pv,h1,h.cst.Jz (hk _ (by simp)) (hk _ (by simp)),λw hw=> ?_,λw hw b hb=> ?_,λk hk'=> ?_⟩
 ·by_cases hwv:w=v
  ·subst hwv
   simp only[up1,if_pos];exact hn
  ·have hne:FP.nd w≠ .nd v:=λhh=>hwv (by injection hh)
   simp only[up1,if_neg hwv]
   exact(NodeAt.aC1 (h.node w hw) h1.ext hm λb hb=>(h2 _ hne b (h.nodeO w hw b hb)).1).1.Ts ht
 ·by_cases hwv:w=v
  ·subst hwv
   rw[iK];simpa only[up1,if_pos] using hb
  ·simp only[up1,if_neg hwv] at hb
   rw[eI _ _ λhh=>hwv (by injection hh)]
   exact h.nodeO w hw b hb
 ·rw[eI _ _ (by simp)]
  exact(h.link k hk').Ae (λb hb=>(h2 (.lk k) (by simp) b hb).2) hm.le
theorem FabG.lk (h:fE H0 H O a F p ev wv nv t s){k:Nat}(hk:k<(dM p).length){G':Nat->Prop}{l':List (List UInt8)}(hl:Lk.IsLink H' (a.lb k) l' p.bag.toNat G')(hm:Mv (O (.lk k)) G' H H'):
  fE H0 H' (updI O (.lk k) G') a F p ev wv nv t {s with l:=up1 s.l k l'}:=by
 obtain⟨h1,h2⟩:=h.own.Ej (.lk k) (λ_ hb=>hb) hm hl.lt
 have hkk: ∀j,j≠ .lk k-> ∀b,O j b->H'[b]? =H[b]? /\updI O (.lk k) G' j b:=λj hj b hb=>⟨(h2 j hj b hb).2,by rw[eI _ _ hj];exact hb⟩
 refine⟨h.ok,h.pv,h1,h.cst.Jz (hkk _ (by simp)) (hkk _ (by simp)),λw hw=> ?_,λw hw b hb=> ?_,λj hj=> ?_⟩
 ·exact(NodeAt.aC1 (h.node w hw) h1.ext hm λb hb=>(h2 (.nd w) (by simp) b (h.nodeO w hw b hb)).1).1
 ·rw[eI _ _ (by simp)]
  exact h.nodeO w hw b hb
 ·by_cases hjk:j=k
  ·subst hjk
   simp only[up1,if_pos];rw[iK];exact hl
  ·have hne:FP.lk j≠ .lk k:=λhh=>hjk (by injection hh)
   simp only[up1,if_neg hjk];rw[eI _ _ hne]
   exact(h.link j hj).Ae (λb hb=>(h2 _ hne b hb).2) hm.le
theorem FabG.Tr {n j:Nat}(h:FabG H0 H O a F p ev wv nv t s n j)(hl:H.length<=H'.length)(hk: ∀i b,O i b->H'[b]? =H[b]?)(he:Ext H0 H'):FabG H0 H' O a F p ev wv nv t s n j:=by
 refine⟨h.ok,h.pv,⟨h.own.dis,λi b hb=>aR9 (h.own.lt i b hb) hl,h.own.old,he⟩,h.cst.Jz (λb hb=>⟨hk _ b hb,hb⟩) (λb hb=>⟨hk _ b hb,hb⟩),λw hw=> ?_,h.nodeO,λj hj=>(h.link j hj).Ae (λb hb=>hk _ b hb) hl⟩
 have hn:=h.node w hw;exact {hn with ext:=he,sep:=⟨λi=>(hn.sep.own i).Cv (vJ _ _ _ _ _ _ _ i) hl λb hb=>hk _ b (h.nodeO w hw b ⟨i,hb⟩),hn.sep.sep⟩}
theorem FabG.nB {n j:Nat}(h:FabG H0 H O a F p ev wv nv t s n j)(he:Ext H H'):FabG H0 H' O a F p ev wv nv t s n j:=
 h.Tr he.1 (λi b hb=>he.2 b (h.own.lt i b hb) id) (h.own.ext.tr he)
theorem FabG.aRb (h:fE H0 H O a F p ev wv nv t s):stN 1 (.Q a.fb 14) (.I (s.k+1:Nat)) H=some (undef,H.set a.fb (.cells (qU p ev wv nv a.hv a.ns a.mb (s.k+1)) 149 .fix))/\
  fE H0 (H.set a.fb (.cells (qU p ev wv nv a.hv a.ns a.mb (s.k+1)) 149 .fix)) O a F p ev wv nv t {s with k:=s.k+1}:=by
 have hb:=h.cst.fab;obtain⟨H',hH'⟩: ∃H',H'=H.set a.fb (.cells (qU p ev wv nv a.hv a.ns a.mb (s.k+1)) 149 .fix):=⟨_,rfl⟩;have hst:stN 1 (.Q a.fb 14) (.I (s.k+1:Nat)) H=some (undef,H'):=by rw[hH'];exact lN hb aC (by simp[qU,plC])
 have hk: ∀b,b≠a.fb->H'[b]? =H[b]? :=λb hb=>by rw[hH',aRV (λhh=>hb hh.symm)]
 have hne: ∀j,j≠ .fb-> ∀b,O j b->b≠a.fb:=λj hj b hb hh=>hj (h.own.dis j .fb b hb (by rw[hh];exact h.cst.fabO))
 have hl:H'.length=H.length:=by rw[hH',List.length_set]
 rw[<-hH'];refine⟨hst,⟨h.ok,h.pv,⟨h.own.dis,λi b hb=>by rw[hl];exact h.own.lt i b hb,h.own.old,?_⟩,?_,λw hw=> ?_,h.nodeO,λj hj=>(h.link j hj).Ae (λb hb=>hk b (hne _ (by simp) b hb)) U⟩⟩
 ·rw[hH']
  exact pU h.own.ext (h.own.old _ _ h.cst.fabO)
 ·have c:=h.cst
  exact⟨by rw[hH'];exact fW hb,c.fabO,c.hops.eY λb hb=>hk b (hne _ (by simp) b (c.hopsO b hb)),c.hopsO,c.nds.eY λb hb=>hk b (hne _ (by simp) b (c.ndsO b hb)),c.ndsO,c.mp.zT (hk _ (hne _ (by simp) _ c.mpO)),c.mpO⟩
 ·have hn:=h.node w hw
  exact {hn with ext:=by rw[hH'];exact pU h.own.ext (h.own.old _ _ h.cst.fabO),sep:=⟨λi=>(hn.sep.own i).Cv (vJ _ _ _ _ _ _ _ i) U λb hb=>hk b (hne _ (by simp) b (h.nodeO w hw b ⟨i,hb⟩)),hn.sep.sep⟩}
end
section
variable {H0 H H' : aF} {O : FP → Nat → Prop} {a : FL} {F : Nat → Part → Nat → Prop} {p : PlanD} {ev wv nv : Value} {t : Nat} {s : FS} {m : Nat}
theorem FabG.ld (h:fE H0 H O a F p ev wv nv t s)(j:Nat)(v:Value)(hv:(qU p ev wv nv a.hv a.ns a.mb s.k)[j]? =some v):ld1 (.Q a.fb j) H=some (v,H):=dI h.cst.fab hv
theorem FabG.vN (h:fE H0 H O a F p ev wv nv t s): ∃N,OkP p N/\p.nodes.toNat=N:=by
 obtain⟨N,hN⟩:=sW h.ok
 exact⟨N,hN,by have:=hN.hn;omega⟩
def qV (p:PlanD)(a:FL)(v:Int):Value:=if 0<=v/\v<p.nodes then pt (a.y v.toNat).nb else .pointer none
def tJ (p:PlanD)(a:FL)(h:Int):Value:=if 0<=h/\h<(dM p).length then pt (a.lb h.toNat) else .pointer none
theorem Af (h:fE H0 H O a F p ev wv nv t s)(hm:10<m)(v:Int):lvl prog pkN m (.func 30) [pt a.fb,.I v] H=some (qV p a v,H):=by
 obtain⟨N,hN,hNe⟩:=h.vN;have hn:=hN.hn;have l12:=h.ld 12 a.ns rfl;have hlen:=h.cst.nds.rX;rw[aR8,aSo,hNe] at hlen;have hat:lvl prog pkN (m-1) (.func 72) [a.ns,.I v] H=some (qV p a v,H):=by
  refine cS (cH rfl) U ?_
  rw[aQu];unfold qV;by_cases c1:v<0
  ·have d1:decide (v<0)=true:=aSE c1
   rw[if_neg U]
   simp -implicitDefEqProofs only[gsR,d1]
  ·have d1:decide (v<0)=false:=aSF c1
   by_cases c2:(N:Int)<=v
   ·have d2:decide ((N:Int)<=v)=true:=aSE c2
    rw[if_neg U]
    simp -implicitDefEqProofs only[gsR,d1,hlen,d2]
   ·have d2:decide ((N:Int)<=v)=false:=aSF c2
    rw[if_pos U]
    obtain⟨k,rfl⟩: ∃k:Nat,v=k:=⟨v.toNat,by omega⟩
    obtain⟨b,o,g1,_,g3⟩:=h.cst.nds.rs.fS Js (i:=k) (x:=some ⟨(a.y k).nb,0,none⟩) (by rw[aR7,aSC U];rfl) .i64
    have l1:=(g3 H rfl).2.1 0 _ rfl;rw[Nat.add_zero] at l1;simp -implicitDefEqProofs only[gsR,d1,hlen,d2,g1,l1,aSm]
 refine cS (cH rfl) U ?_
 rw[aQl];simp -implicitDefEqProofs only[gsR,l12,hat]
theorem Tt:KeyC (.str [true,true]) edV:=⟨λx y=>by
 obtain⟨x1,x2⟩:=x;obtain⟨y1,y2⟩:=y;simp[edV,edC,lM,eqT,Bool.beq_eq_decide_eq,Bool.decide_and]⟩
theorem B6 (h:fE H0 H O a F p ev wv nv t s)(hm:10<m)(k:Int):lvl prog pkN m (.func 31) [pt a.fb,.I k] H=some (tJ p a k,H):=by
 have l11:=h.ld 11 a.hv rfl;have l13:=h.ld 13 (.map (some a.mb)) rfl;have hlen:=h.cst.hops.rX;refine cS (cH rfl) U ?_
 rw[aQm];unfold tJ;by_cases c1:k<0
 ·have d1:decide (k<0)=true:=aSE c1
  rw[if_neg U]
  simp -implicitDefEqProofs only[gsR,d1]
 ·have d1:decide (k<0)=false:=aSF c1
  by_cases c2:((dM p).length:Int)<=k
  ·have d2:decide (((dM p).length:Int)<=k)=true:=aSE c2
   rw[if_neg U]
   simp -implicitDefEqProofs only[gsR,d1,l11,hlen,d2]
  ·have d2:decide (((dM p).length:Int)<=k)=false:=aSF c2
   rw[if_pos U]
   obtain⟨j,rfl⟩: ∃j:Nat,k=j:=⟨k.toNat,by omega⟩
   have hj:(dM p)[j]? =some ((dM p)[j]' U):=aRW _
   obtain⟨b,o,g1,_,g3⟩:=h.cst.hops.rs.fS o7 hj .i64;have l2:ldN 2 (.Q b o) H=some (edV ((dM p)[j]' U),H):=(g3 H rfl).1
   have g:=h.cst.mp.zS Tt ((dM p)[j]' U) (.pointer none)
   have hix:(dM p).idxOf ((dM p)[j]' U)=j:=by
    obtain⟨N,hN,_⟩:=h.vN;have hnd:=(xK hN).1;exact List.Nodup.idxOf_getElem hnd j U
   have hf:lkF p a (dM p).length ((dM p)[j]' U)=some (pt (a.lb j)):=by
    unfold lkF;rw[hix,if_pos U]
   rw[hf,aSn] at g;simp -implicitDefEqProofs only[gsR,d1,l11,hlen,d2,l13,g1,l2,g,aSm]
theorem aDA (h:fE H0 H O a F p ev wv nv t s)(hm:0<m):lvl prog pkN m (.func 27) [pt a.fb] H=some (.I (s.k:Nat),H):=by
 have l14:=h.ld 14 (.I (s.k:Nat)) rfl;refine cS (cH rfl) U ?_
 rw[aQk];simp -implicitDefEqProofs only[gsR,l14]
theorem Tv (h:fE H0 H O a F p ev wv nv t s)(hm:10<m): ∃u H',lvl prog pkN m (.func 24) [pt a.fb] H=some (u,H')/\Ext H H'/\Hw H' u (dM p)/\New H u:=by
 have l11:=h.ld 11 a.hv rfl;have h36:=xC p;obtain⟨u,H',g1,g2⟩:=aQF h.cst.hops.rs U (m:=m-1) U
 refine⟨u,H',cS (cH rfl) U ?_,g2⟩
 rw[aQg];simp -implicitDefEqProofs only[gsR,l11,g1]
def qC (p:PlanD)(x:Pkt)(s:FS):Nat×FS:=
 if 0<=x.src/\x.src<p.nodes then let r:=tX (kL p x.src.toNat) x (s.n x.src.toNat);(r.1,{s with n:=up1 s.n x.src.toNat r.2}) else(1,s)
def Frd (O O':FP->Nat->Prop)(H H':aF):Prop:= ∀b,b<H.length->(∀i,¬O i b)->H'[b]? =H[b]? /\ ∀i,¬O' i b
theorem B7 {X X':Nat->Prop}{i:FP}(hX: ∀b,X b->O i b)(hm:Mv X X' H H'){b:Nat}(hb:b<H.length)(h: ∀j,¬O j b):H'[b]? =H[b]? /\ ∀j,¬updI O i X' j b:=by
 refine⟨hm.keep b hb λhx=>h i (hX b hx),λj hj=> ?_⟩
 by_cases hji:j=i
 ·rw[hji,iK] at hj
  exact(hm.own b hj).elim (λhx=>h i (hX b hx)) λhl=>by omega
 ·rw[eI _ _ hji] at hj
  exact h j hj
theorem J0 (h:fE H0 H O a F p ev wv nv t s)(hm:100<m)(x:Pkt)(hb:0<=x.body/\x.body<4294967296): ∃H' O' F',lvl prog pkN m (.func 28) [pt a.fb,x.dN] H=some (.int .u16 (qC p x s).1,H')/\fE H0 H' O' a F' p ev wv nv t (qC p x s).2/\Frd O O' H H':=by
 obtain⟨N,hN,hNe⟩:=h.vN;have hn:=hN.hn;obtain⟨H1,hH1⟩:=aD (H++[dK x]);have x1:Ext H H1:=by rw[hH1];exact Fr.app _ _ _
 have h1:=h.nB x1;have b1:H1[H.length]? =some (dK x):=by rw[hH1];exact fA _ _
 have e1:H++[Blk.cells (Value.cells x.dN).toList 54 .fix]=H1:=by rw[hH1];rfl
 have l0:ld1 (.Q H.length 0) H1=some (.I x.src,H1):=dI b1 rfl;have l4:ldN 4 (.Q H.length 0) H1=some (x.dN,H1):=rG b1 (aRZ 4);have g:=Af h1 (m:=m-1) U x.src
 unfold qC;by_cases c:0<=x.src/\x.src<p.nodes
 ·rw[if_pos c]
  have hv:qV p a x.src=pt (a.y x.src.toNat).nb:=if_pos c;rw[hv] at g;obtain⟨H2,F2,g2,h2,m2⟩:=aOR (h1.node x.src.toNat U) (m:=m-1) U x hb
  have n1:=λa=>aDj 30 a (by kernel_rfl)
  refine⟨H2,_,_,cS (cH rfl) U ?_,h1.nd U (aRZ _) h2 m2,λb hb ho=> ?_⟩
  ·rw[aC9]
   simp -implicitDefEqProofs only[gsR,e1,l0,g,n1,l4,g2]
  ·have:=B7 (h1.nodeO x.src.toNat U) m2 (aR9 hb x1.1) ho
   exact⟨by rw[this.1,x1.2 b hb id],this.2⟩
 ·rw[if_neg c]
  have hv:qV p a x.src= .pointer none:=if_neg c;rw[hv] at g;have n1:bin prog .neq 30 (.pointer none) (.pointer none)=some (.bool false):=by kernel_rfl
  refine⟨H1,_,_,cS (cH rfl) U ?_,h1,λb hb ho=>⟨x1.2 b hb id,ho⟩⟩
  rw[aC9];simp -implicitDefEqProofs only[gsR,e1,l0,g,n1];rfl
def Ag (p:PlanD)(v:Int)(s:FS):List Pkt:=if 0<=v/\v<p.nodes then(s.n v.toNat).hG else []
theorem Tu (h:fE H0 H O a F p ev wv nv t s)(ht:t<1000000)(hm:100<m)(v:Int): ∃H' u,lvl prog pkN m (.func 26) [pt a.fb,.I v] H=some (u,H')/\Ext H H'/\Rw Pkt.oD 54 4 H' u (Ag p v s)/\New H u:=by
 have g:=Af h (m:=m-1) U v
 unfold Ag;by_cases c:0<=v/\v<p.nodes
 ·rw[if_pos c]
  have hv:qV p a v=pt (a.y v.toNat).nb:=if_pos c;rw[hv] at g;have hn:=h.node v.toNat U
  have g2:=aCy hn (m:=m-1) U
  obtain⟨w0,w1,w2,cv,hh⟩:=hn.aO4;have:=hn.inv.hG;obtain⟨H2,u,g3,g4⟩:=aNX hh (m:=m-1) U (iE (n:=1000000) aC U)
  have n1:=λa=>aDj 30 a (by kernel_rfl)
  refine gN (cH rfl) U ⟨H2,u,?_,g4⟩
  rw[aC8];simp -implicitDefEqProofs only[gsR,g,n1,g2,g3]
 ·rw[if_neg c]
  have hv:qV p a v= .pointer none:=if_neg c;rw[hv] at g;have n1:bin prog .neq 30 (.pointer none) (.pointer none)=some (.bool false):=by kernel_rfl
  refine gN (cH rfl) U ⟨H,.slice none 0 0,?_,Fr.kO _ _,Rw.kP,New.mT _⟩
  rw[aC8];simp -implicitDefEqProofs only[gsR,g,n1]
end
section
variable {H0 H H' : aF} {O : FP → Nat → Prop} {a : FL} {F : Nat → Part → Nat → Prop} {p : PlanD} {ev wv nv : Value} {t : Nat} {s : FS} {m : Nat}
theorem Bo.rs' {u:Value}{bs:List UInt8}(h:Bo 5 H u bs):Bs H u bs:=by
 rcases h with⟨rfl,rfl|⟨b,o,c,rfl⟩⟩|⟨b,c,rest,rfl,h2,h3⟩
 ·exact .inl ⟨rfl,rfl⟩
 ·exact .inr ⟨b,o,c,rfl,Nat.zero_le _,λhne=>absurd rfl hne⟩
 ·exact .inr ⟨b,0,c,rfl,h2.2,λ_=>⟨_,_,[],rest,rfl,λ_=>rfl,by rw[h3,vE];rfl⟩⟩
theorem aRk {X:Nat->Prop}(h:Fr X H H'):Mv X X H H':=⟨h.1,λ_ hb=> .inl hb,λb hb hx=>h.2 b hb hx⟩
theorem J2 {X:Nat->Prop}(h:Fr X H H'):Mv X (Up X H H') H H':=⟨h.1,λ_ hb=>hb.imp id (·.1),λb hb hx=>h.2 b hb hx⟩
theorem Ty (hok:gY p=true){k:Nat}{e:Ed}(he:(dM p)[k]? =some e): ∃v w:Nat,e=((v:Int),(w:Int))/\v<p.nodes.toNat/\w<p.nodes.toNat:=by
 obtain⟨N,hN⟩:=sW hok;have hn:=hN.hn;have hm:=aR4 he;rw[(xK hN).2,N3 hN.ve hN.h6] at hm;have:=zF hN.ve hm
 exact⟨e.1.toNat,e.2.toNat,Prod.ext (by simp only;omega) (by simp only;omega),by omega,by omega⟩
theorem aDB (h:fE H0 H O a F p ev wv nv t s)(ht:t<1000000)(hm:1000<m)(k i:Nat)(hk:k<(dM p).length):
  ∃H' O' F',lvl prog pkN m (.func 29) [pt a.fb,.I (k:Nat),.I (i:Nat)] H=some (.int .u16 (yB (eJ p) k i s).1,H')/\fE H0 H' O' a F' p ev wv nv (t+1) (yB (eJ p) k i s).2:=by
 have g1:=B6 h (m:=m-1) U (k:Int)
 have hv:tJ p a (k:Int)=pt (a.lb k):=by
  unfold tJ;rw[if_pos U,aSm]
 rw[hv] at g1;have n1:=λb=>(sH 76 b (by kernel_rfl)).1
 have hl:=h.link k hk;unfold yB;by_cases hi:i<(s.l k).length
 ·obtain⟨bs,hbs⟩: ∃bs,(s.l k)[i]? =some bs:=⟨_,aRW hi⟩
  obtain⟨u,H1,g2,f2,l2,b2,len2,lies2⟩:=Lk.aRa (pr:=pkN) (cH rfl) (cH rfl) (cH rfl) hl (m:=m-1) U i hbs
  have h1:=h.lk hk l2 (aRk f2);have he:(dM p)[k]? =some ((dM p)[k]'hk):=aRW _;obtain⟨v,w,hvw,hv1,hw1⟩:=Ty h.ok he;rw[hvw] at he;have hC:(eJ p).hs.getD k (0,0)=((v:Int),(w:Int)):=by
   show(dM p).getD k (0,0)=_
   rw[aRY,he];rfl
  rw[hbs];simp only[hC,aSm];have l12:=h1.ld 12 a.ns rfl;have l11:=h1.ld 11 a.hv rfl;obtain⟨b,o,q1,_,q3⟩:=h1.cst.hops.rs.fS o7 he .i64;have q4:=(q3 H1 rfl).2.1 1 _ rfl;have q5:=(q3 H1 rfl).2.1 0 _ rfl;obtain⟨b',o',r1,_,r3⟩:=h1.cst.nds.rs.fS Js (i:=w) (x:=some ⟨(a.y w).nb,0,none⟩) (by rw[aR7,aSC hw1];rfl) .i64
  have r4:=(r3 H1 rfl).2.1 0 _ rfl;rw[Nat.add_zero] at r4;simp only at q4 q5;obtain⟨H2,F2,g3,h2,m2⟩:=aO2 (h1.node w hw1) U (m:=m-1) U (v:Int) (Bo.rs' b2)
  have e0:ext 0 (.tuple #[u,.bool true])=some u:=rfl;have e1:ext 1 (.tuple #[u,.bool true])=some (.bool true):=rfl;refine⟨H2,_,_,cS (cH rfl) U ?_,h1.nd hw1 (Nat.le_succ t) h2 m2⟩
  rw[S8];simp -implicitDefEqProofs only[gsR,g1,n1,g2,e0,e1,l12,l11,q1,q4,q5,r1,r4,g3];rfl
 ·have hno:(s.l k)[i]? =none:=aR5 U
  have g2:=Lk.aQ9 (pr:=pkN) (cH rfl) (cH rfl) hl (m:=m-1) U (i:Int) (.inr U)
  have e0:ext 0 (.tuple #[Value.slice none 0 0,.bool false])=some (.slice none 0 0):=rfl;have e1:ext 1 (.tuple #[Value.slice none 0 0,.bool false])=some (.bool false):=rfl;rw[hno];have hh:fE H0 H O a F p ev wv nv (t+1) s:={h with node:=λv hv=>(h.node v hv).Ts (Nat.le_succ t)}
  refine⟨H,O,F,cS (cH rfl) U ?_,hh⟩
  rw[S8];simp -implicitDefEqProofs only[gsR,g1,n1,g2,e0,e1];rfl
theorem Tw (h:fE H0 H O a F p ev wv nv t s)(hm:1000<m)(k i:Int)(hk:k<0∨(dM p).length<=k):lvl prog pkN m (.func 29) [pt a.fb,.I k,.I i] H=some (.int .u16 1,H):=by
 have g1:=B6 h (m:=m-1) U k
 have hv:tJ p a k= .pointer none:=if_neg U
 rw[hv] at g1;have n1:=(sH 76 ⟨0,0,none⟩ (by kernel_rfl)).2
 refine cS (cH rfl) U ?_
 rw[S8];simp -implicitDefEqProofs only[gsR,g1,n1]
theorem aRe (k i0:Nat)(hk:k<(dM p).length)(hm:2000<m){K:Ex->K (Value×aF)}{Q:aF->Value->Prop}{n:Nat}{T:Nat}{n9:Value}(hT:T<900000)
  {s':FS}(hK: ∀(H':aF)(O':FP->Nat->Prop)(F':Nat->Part->Nat->Prop),fE H0 H' O' a F' p ev wv nv (T+n) s'-> ∀(x1 x3 x4 x5 x6 x7 x8 cE aV aR aS aQ aW aX aU bA bP bQ bO bK aY:Value),∃H2 u2,S5 (lvl prog pkN m) (aM m) K (pt a.fb) x1 (.I (k:Nat)) x3 x4 x5 x6 x7 x8 n9 (.I (k:Nat)) cE aV aR aS aQ aW aX aU bA bP bQ bO bK aY H'=some (u2,H2)/\Q H2 u2)(hn:n<=64):
  ∀(q i l:Nat)(H:aF)(O:FP->Nat->Prop)(F:Nat->Part->Nat->Prop)(s:FS),n-i=q->i<=n->q<l->fE H0 H O a F p ev wv nv (T+i) s->B5 (eJ p) k (n-i) s=s'-> ∀(x1 x3 x4 x5 x6 x7 x8 cE aV aR aS aQ aW bA bP bQ bO bK aY:Value),
  ∃H2 u2,aM l (aN prog (lvl prog pkN m) (aM m) S4) (S7 (lvl prog pkN m) (aM m) K) [(pt a.fb),x1,(.I (k:Nat)),x3,x4,x5,x6,x7,x8,n9,(.I (k:Nat)),cE,aV,aR,aS,aQ,aW,(.I (n:Nat)),(.I (i:Nat)),bA,bP,bQ,bO,bK,aY] H=some (u2,H2)/\Q H2 u2:=by
 intro q;induction q with
 |zero=>
  intro i l H O F s hq hi hl h hd;intros;obtain⟨l,rfl⟩:=aB l U
  obtain rfl:i=n:=U
  have e:decide ((i:Int)<(i:Nat))=false:=by simp
  rw[Nat.sub_self] at hd;have hd:s=s':=hd;subst hd;rw[dR,aC7];simp -implicitDefEqProofs only[gsR,e];rw[aQi];exact hK H O F h ..
 |succ q ih=>
  intro i l H O F s hq hi hl h hd;intros;obtain⟨l,rfl⟩:=aB l U
  have e:decide ((i:Int)<(n:Nat))=true:=aSE U
  have e3:=aA (i:=i) U
  obtain⟨H1,O1,F1,g1,h1⟩:=aDB h U (m:=m) U k 0 hk
  simp only[show((0:Nat):Int)=0 from rfl] at g1
  have hq1:n-i=(n-(i+1))+1:=U
  rw[hq1] at hd;rw[dR,aC7];simp -implicitDefEqProofs only[gsR,e,g1,cR,e3];exact ih (i+1) l H1 O1 F1 _ U U U h1 hd ..
theorem FabG.Ek {t':Nat}(h:fE H0 H O a F p ev wv nv t s)(ht:t<=t'):fE H0 H O a F p ev wv nv t' s:={h with node:=λv hv=>(h.node v hv).Ts ht}
theorem aRl (i q:Nat):List.range' i (q+1)=i::List.range' (i+1) q:=rfl
theorem aRf {n:Nat}(hn:(dM p).length=n)(hm:3000<m){T:Nat}(hT:T<800000){s':FS}:
  ∀(q i l:Nat)(H:aF)(O:FP->Nat->Prop)(F:Nat->Part->Nat->Prop)(s:FS),n-i=q->i<=n->q<l->fE H0 H O a F p ev wv nv (T+64*i) s->Eh (eJ p) (List.range' i q) s=s'-> ∀(x1 x2 x3 x4 x5 x6 x7 x8 cE aV aR aS aQ aW aX aU bA bP bQ bO bK aY:Value),
  ∃H2 u2,aM l (aN prog (lvl prog pkN m) (aM m) S3) (S6 (lvl prog pkN m) (aM m)) [(pt a.fb),x1,x2,x3,x4,x5,x6,x7,x8,(.I (n:Nat)),(.I (i:Nat)),cE,aV,aR,aS,aQ,aW,aX,aU,bA,bP,bQ,bO,bK,aY] H=some (u2,H2)/\u2=aL []/\ ∃O' F',fE H0 H2 O' a F' p ev wv nv (T+64*n) s':=by
 have h36:=xC p;intro q;induction q with
 |zero=>
  intro i l H O F s hq hi hl h hd;intros;obtain⟨l,rfl⟩:=aB l U
  obtain rfl:i=n:=U
  have e:decide ((i:Int)<(i:Nat))=false:=by simp
  have hd:s=s':=hd;subst hd;refine⟨H,_,?_,rfl,O,F,h⟩;rw[dR,aC6];simp -implicitDefEqProofs only[gsR,e];rw[aQh]
 |succ q ih=>
  intro i l H O F s hq hi hl h hd;intros;obtain⟨l,rfl⟩:=aB l U
  have e:decide ((i:Int)<(n:Nat))=true:=aSE U
  have e3:=aA (i:=i) U
  have hk:i<(dM p).length:=U
  have g1:=B6 h (m:=m) U (i:Int)
  have hv:tJ p a (i:Int)=pt (a.lb i):=by
   unfold tJ;rw[if_pos U,aSm]
  rw[hv] at g1;have hl':=h.link i hk;have hfew:=hl'.few;obtain⟨v,H1,g2,x1,r1⟩:=Lk.aQ8 (pr:=pkN) (cH rfl) (cH rfl) hl' (m:=m) U
  have hlen:=r1.Gb;have h1:=h.nB x1;rw[aRl] at hd;have hd:Eh (eJ p) (List.range' (i+1) q) (B5 (eJ p) i (s.l i).length s)=s':=hd;rw[dR,aC6];simp -implicitDefEqProofs only[gsR,e,g1,g2,hlen];refine aRe (m:=m) (n:=(s.l i).length) (s':=B5 (eJ p) i (s.l i).length s) (T:=T+64*i) (Q:=λH2 u2=>u2=aL []/\ ∃O' F',fE H0 H2 O' a F' p ev wv nv (T+64*n) s') i 0 hk U U ?_ U (s.l i).length 0 m H1 O F s U U U h1 rfl ..
  intro H2 O2 F2 h2;intros;unfold S5;simp -implicitDefEqProofs only[gsR,cR,e3];exact ih (i+1) l H2 O2 F2 _ U U U (h2.Ek U) hd ..
def J1 (O:FP->Nat->Prop)(ob b:Nat):Prop:=ob<b/\ ∀j,¬O j b
structure TickI (H0 H:aF)(O:FP->Nat->Prop)(a:FL)(F:Nat->Part->Nat->Prop)(p:PlanD)(ev wv nv:Value)(t:Nat)(fs:FS)(ob:Nat)(us:List SV)(s0:FS)(i:Nat):Prop where
 fab:fE H0 H O a F p ev wv nv t fs
 row:Rw sC 35 1 H (.slice (some ⟨ob,0,none⟩) p.nodes.toNat p.nodes.toNat) us
 obf: ∀j,¬O j ob
 ob0:H0.length<=ob
 outs: ∀j,j<i-> ∃(u:SV)(w:List (Nat×Value)),us[j]? =some u/\OutR H (J1 O ob) u.1 w (tI (eJ p) s0 j)
variable {fs s0 : FS} {ob : Nat} {us : List SV} {T i : Nat}
theorem aDC {ob n c b:Nat}(h:cJ (.slice (some ⟨ob,0,none⟩) n c) b):b=ob:=by
 obtain⟨_,_,_,hh⟩:=h;cases hh;rfl
theorem TickI.obl (h:TickI H0 H O a F p ev wv nv t fs ob us s0 i)(hN:0<p.nodes.toNat):ob<H.length:=h.row.gU ⟨0,_,_,rfl⟩
theorem TickI.mv {F':Nat->Part->Nat->Prop}{t':Nat}{fs':FS}(h:TickI H0 H O a F p ev wv nv t fs ob us s0 i)(k:FP){X X':Nat->Prop}(hX: ∀b,X b->O k b)(hm:Mv X X' H H')(hf:fE H0 H' (updI O k X') a F' p ev wv nv t' fs'):TickI H0 H' (updI O k X') a F' p ev wv nv t' fs' ob us s0 i:=by
 obtain⟨N,hN,hNe⟩:=h.fab.vN;have hob:=h.obl (by have:=hN.h2;omega)
 have hfo:=B7 hX hm hob h.obf;refine⟨hf,h.row.eY λb hb=> ?_,hfo.2,h.ob0,λj hj=> ?_⟩
 ·rw[aDC hb]
  exact hfo.1
 ·obtain⟨u,w,h1,h2⟩:=h.outs j hj
  exact⟨u,w,h1,h2.Ac λb hb ⟨h3,h4⟩=>⟨(B7 hX hm hb h4).1,h3,(B7 hX hm hb h4).2⟩⟩
theorem TickI.aRc (h:TickI H0 H O a F p ev wv nv t fs ob us s0 i)(he:Ext H H'):TickI H0 H' O a F p ev wv nv t fs ob us s0 i:=
 ⟨h.fab.nB he,qS h.row he,h.obf,h.ob0,λj hj=>by
  obtain⟨u,w,h1,h2⟩:=h.outs j hj
  exact⟨u,w,h1,h2.Ac λb hb h3=>⟨he.2 b hb id,h3⟩⟩⟩
theorem aRd {v w:Nat}(hok:gY p=true)(h:w∈(kL p v).by'):((v:Int),(w:Int))∈dM p:=by
 obtain⟨N,hN⟩:=sW hok;rw[(xK hN).2,N3 hN.ve hN.h6];obtain⟨z,hz,rfl⟩:=aSx.mp (show w∈(bes p.edges v).map Int.toNat from h)
 have:=zF hN.ve hz;have e:((z.toNat:Nat):Int)=z:=U
 simp only[e];exact hz
theorem aRg {v:Nat}{lv:Value}{w:List (Nat×Value)}{outs:kJ}(hv:v<p.nodes.toNat)(hoo:OutOk (kL p v) outs)(hwl:w.length=outs.length)(hw5:w.length<1000000)(hm:1000<m){K:Ex->K (Value×aF)}{Q:aF->Value->Prop}
  (hK: ∀(H':aF)(O':FP->Nat->Prop),TickI H0 H' O' a F p ev wv nv T {fs with l:=outs.foldl (sI (eJ p) v) fs.l} ob us s0 p.nodes.toNat-> ∀(x1 x2 x3 x4 x5 x6 x7 x8 x9 bS cE aV aR aS aQ aW aX aU bA bP bQ bO bK aY bC bE bG bH bI bJ bM bN bU bV bX bY b9 cA cF cM cO cP cT dB dE dF cU cV cW cY dJ dG dH cZ dP dS dQ dX eG eH eM eN eO eP:Value),∃H2 u2,Te (lvl prog pkN m) (aM m) K (pt a.fb) x1 x2 x3 x4 x5 x6 x7 x8 x9 bS cE aV aR aS aQ aW aX aU bA bP bQ bO bK aY bC bE bG bH bI bJ bM bN bU (.slice (some ⟨ob,0,none⟩) p.nodes.toNat p.nodes.toNat) (.I (p.nodes.toNat:Nat)) (.I (v:Nat)) bV bX bY b9 cA cF cM cO cP cT dB dE dF cU cV cW cY dJ dG dH cZ dP dS dQ dX eG eH eM eN eO eP H'=some (u2,H2)/\Q H2 u2):
  ∀(q i l:Nat)(H:aF)(O:FP->Nat->Prop),w.length-i=q->i<=w.length->q<l->TickI H0 H O a F p ev wv nv T {fs with l:=(outs.take i).foldl (sI (eJ p) v) fs.l} ob us s0 p.nodes.toNat->OutR H (J1 O ob) lv w outs-> ∀(x1 x2 x3 x4 x5 x7 x8 x9 bS cE aV aR aS aQ aW aX aU bA bP bQ bO bK aY bC bE bG bH bI bJ bM bN bU bV bX bY b9 cO cP cT dB dE dF cU cV cW cY dJ dG dH cZ dP dS dQ dX eG eH eM eN eO eP:Value),
  ∃H2 u2,aM l (aN prog (lvl prog pkN m) (aM m) Td) (Th (lvl prog pkN m) (aM m) K) [(pt a.fb),x1,x2,x3,x4,x5,(.I (v:Nat)),x7,x8,x9,bS,cE,aV,aR,aS,aQ,aW,aX,aU,bA,bP,bQ,bO,bK,aY,bC,bE,bG,bH,bI,bJ,bM,bN,bU,(.slice (some ⟨ob,0,none⟩) p.nodes.toNat p.nodes.toNat),(.I (p.nodes.toNat:Nat)),(.I (v:Nat)),bV,bX,bY,b9,lv,(.I (w.length:Nat)),(.I (i:Nat)),cO,cP,cT,dB,dE,dF,cU,cV,cW,cY,dJ,dG,dH,cZ,dP,dS,dQ,dX,eG,eH,eM,eN,eO,eP] H=some (u2,H2)/\Q H2 u2:=by
 intro q;induction q with
 |zero=>
  intro i l H O hq hi hl h hR;intros;obtain⟨l,rfl⟩:=aB l U
  obtain rfl:i=w.length:=U
  have e:decide ((w.length:Int)<(w.length:Nat))=false:=by simp
  rw[hwl,List.take_length] at h;rw[dR,aDe];simp -implicitDefEqProofs only[gsR,e];rw[aQr];exact hK H O h ..
 |succ q ih=>
  intro i l H O hq hi hl h hR;intros;obtain⟨l,rfl⟩:=aB l U
  have e:decide ((i:Int)<(w.length:Nat))=true:=aSE U
  have e3:=aA (i:=i) U
  obtain⟨u,hu⟩: ∃u,w[i]? =some u:=⟨_,aRW U⟩
  obtain⟨o,ho⟩: ∃o,outs[i]? =some o:=⟨_,aRW U⟩
  obtain⟨u1,u2,u3⟩:=hR.at_ i u o hu ho;obtain⟨hto,h12⟩:=hoo o (aR4 ho);have hmem:=aRd h.fab.ok hto;obtain⟨k,hk⟩:=aD ((dM p).idxOf ((v:Int),(o.1:Int)));have hkl:k<(dM p).length:=by rw[hk];exact List.idxOf_lt_length_of_mem hmem
  have hf:lkF p a (dM p).length ((v:Int),(o.1:Int))=some (pt (a.lb k)):=by
   unfold lkF;rw[<-hk,if_pos hkl]
  obtain⟨b,ofs,q1,_,q3⟩:=hR.rw_.rs.fS aCM hu .i64;have q4:ldN 2 (.pointer (some ⟨b,ofs,none⟩)) H=some (.agg ⟨qR u⟩,H):=(q3 H rfl).1;obtain⟨H1,hH1⟩:=aD (H++[Blk.cells (qR u) 43 .fix]);have x1:Ext H H1:=by rw[hH1];exact Fr.app _ _ _
  have st:stN 2 (.pointer (some ⟨H.length,0,none⟩)) (.agg ⟨qR u⟩) (H++[Blk.cells [Value.int .i64 0,.slice none 0 0] 43 .fix])=some (undef,H1):=by
   rw[wD (n:=2) (vs:=qR u) (eD H _) aC rfl rfl (aRZ 2) (aCL u),mW,hH1]
   rfl
  have b1:H1[H.length]? =some (.cells (qR u) 43 .fix):=by rw[hH1];exact fA _ _
  have h1:=h.aRc x1;have R1:OutR H1 (J1 O ob) lv w outs:=hR.Ac λb hb h3=>⟨x1.2 b hb id,h3⟩
  have l13:=h1.fab.ld 13 (.map (some a.mb)) rfl;have l0:ld1 (.Q H.length 0) H1=some (.I (o.1:Nat),H1):=by rw[<-u1];exact dI b1 rfl
  have l1:ld1 (.Q H.length 1) H1=some (u.2,H1):=by rw[dI b1 rfl,(aPs u2).1]
  have bh:bld prog 67 [(0,.I (v:Nat)),(1,.I (o.1:Nat))]=some (edV ((v:Int),(o.1:Int))):=rfl;have g:=h1.fab.cst.mp.zS Tt ((v:Int),(o.1:Int)) (.pointer none);rw[hf,aSn] at g;obtain⟨H2,g2,f2,k2⟩:=Lk.aQ4 (pr:=pkN) (cH rfl) (cH rfl) (h1.fab.link k hkl) (m:=m) U (By.br (u2.ext x1)) U
  have hlk:=h1.fab.lk hkl k2 (J2 f2);have hx: ∀b,O (.lk k) b->O (.lk k) b:=λ_ hb=>hb
  have h2:=h1.mv (.lk k) hx (J2 f2) hlk;have R2:OutR H2 (J1 (updI O (.lk k) (Up (O (.lk k)) H1 H2)) ob) lv w outs:=R1.Ac λb hb ⟨h3,h4⟩=>⟨(B7 hx (J2 f2) hb h4).1,h3,(B7 hx (J2 f2) hb h4).2⟩
  have hfold:(outs.take (i+1)).foldl (sI (eJ p) v) fs.l=sI (eJ p) v ((outs.take i).foldl (sI (eJ p) v) fs.l) o:=by
   rw[List.take_add_one,ho,List.foldl_append];rfl
  have hsame:up1 ((outs.take i).foldl (sI (eJ p) v) fs.l) k (Lk.Jw p.bag.toNat ((outs.take i).foldl (sI (eJ p) v) fs.l k) o.2)=(outs.take (i+1)).foldl (sI (eJ p) v) fs.l:=by
   rw[hfold,hk];rfl
  simp only[hsame] at h2;rw[dR,aDe];simp -implicitDefEqProofs only[gsR,e,q1,q4,st,l13,l0,bh,g,l1,g2,cR,e3];exact ih (i+1) l H2 _ U U U h2 R2 ..
theorem aRj (hk:s0.k<1000000)(hm:1000<m)(hTb: ∀j,j<p.nodes.toNat->OutOk (kL p j) (tI (eJ p) s0 j)/\(tI (eJ p) s0 j).length<=36):
  ∀(q i l:Nat)(H:aF)(O:FP->Nat->Prop),p.nodes.toNat-i=q->i<=p.nodes.toNat->q<l->TickI H0 H O a F p ev wv nv T ⟨qT (eJ p) s0 p.nodes.toNat,uD (eJ p) s0 i,s0.k⟩ ob us s0 p.nodes.toNat-> ∀(x1 x2 x3 x4 x5 x6 x7 x8 x9 bS cE aV aR aS aQ aW aX aU bA bP bQ bO bK aY bC bE bG bH bI bJ bM bN bU bV bX bY b9 cA cF cM cO cP cT dB dE dF cU cV cW cY dJ dG dH cZ dP dS dQ dX eG eH eM eN eO eP:Value),
  ∃H2 u2,aM l (aN prog (lvl prog pkN m) (aM m) Tc) (Tg (lvl prog pkN m) (aM m)) [(pt a.fb),x1,x2,x3,x4,x5,x6,x7,x8,x9,bS,cE,aV,aR,aS,aQ,aW,aX,aU,bA,bP,bQ,bO,bK,aY,bC,bE,bG,bH,bI,bJ,bM,bN,bU,(.slice (some ⟨ob,0,none⟩) p.nodes.toNat p.nodes.toNat),(.I (p.nodes.toNat:Nat)),(.I (i:Nat)),bV,bX,bY,b9,cA,cF,cM,cO,cP,cT,dB,dE,dF,cU,cV,cW,cY,dJ,dG,dH,cZ,dP,dS,dQ,dX,eG,eH,eM,eN,eO,eP] H=some (u2,H2)/\u2=aL []/\ ∃O',fE H0 H2 O' a F p ev wv nv T (yC (eJ p) s0):=by
 intro q;induction q with
 |zero=>
  intro i l H O hq hi hl h;intros;obtain⟨l,rfl⟩:=aB l U
  obtain rfl:i=p.nodes.toNat:=U
  have e:decide ((p.nodes.toNat:Int)<(p.nodes.toNat:Nat))=false:=by simp
  obtain⟨st,h1⟩:=h.fab.aRb;have l14:=h.fab.ld 14 (.I (s0.k:Nat)) rfl;have e3:IntKind.i64.wrap ((s0.k:Int)+1)=((s0.k+1:Nat):Int):=by rw[dL U U];omega
  refine⟨_,_,?_,rfl,O,h1⟩;rw[dR,aDd];simp -implicitDefEqProofs only[gsR,e];rw[aQq];simp only at st;simp -implicitDefEqProofs only[gsR,l14,cR,e3,st]
 |succ q ih=>
  intro i l H O hq hi hl h;intros;obtain⟨l,rfl⟩:=aB l U
  have hiN:i<p.nodes.toNat:=U
  obtain⟨N,hN,hNe⟩:=h.fab.vN;have h6:=hN.h6;have e:decide ((i:Int)<(p.nodes.toNat:Nat))=true:=aSE U
  have e3:=aA (i:=i) U
  obtain⟨u,w,h1,h2⟩:=h.outs i hiN;obtain⟨b,o,q1,_,q3⟩:=h.row.rs.fS Bd h1 .i64;have q4:=(q3 H rfl).2.1 0 _ rfl;rw[Nat.add_zero] at q4;have hlen:=h2.rw_.rs.gW;have hwl:=h2.len;obtain⟨ho1,ho2⟩:=hTb i hiN;rw[dR,aDd];simp -implicitDefEqProofs only[gsR,e,q1,q4,hlen];refine aRg (m:=m) (T:=T) (s0:=s0) (ob:=ob) (us:=us) (F:=F) (fs:=⟨qT (eJ p) s0 p.nodes.toNat,uD (eJ p) s0 i,s0.k⟩) (v:=i) (outs:=tI (eJ p) s0 i) (Q:=λH2 u2=>u2=aL []/\ ∃O',fE H0 H2 O' a F p ev wv nv T (yC (eJ p) s0)) hiN ho1 hwl U U ?_ w.length 0 m H O U U U h h2 ..
  intro H2 O2 hh;intros;have hs:(tI (eJ p) s0 i).foldl (sI (eJ p) i) (uD (eJ p) s0 i)=uD (eJ p) s0 (i+1):=by
   unfold uD;rw[aSt,List.foldl_append];rfl
  simp only[hs] at hh;unfold Te;simp -implicitDefEqProofs only[gsR,cR,e3];exact ih (i+1) l H2 O2 U U U hh ..
theorem aRi (hT:T<1000000)(hk:s0.k<1000000)(hm:3000<m)(hTb: ∀j,j<p.nodes.toNat->OutOk (kL p j) (tI (eJ p) s0 j)/\(tI (eJ p) s0 j).length<=36):
  ∀(q i l:Nat)(H:aF)(O:FP->Nat->Prop)(F:Nat->Part->Nat->Prop)(us:List SV),p.nodes.toNat-i=q->i<=p.nodes.toNat->q<l->us.length=p.nodes.toNat->TickI H0 H O a F p ev wv nv (T+7*i) ⟨qT (eJ p) s0 i,s0.l,s0.k⟩ ob us s0 i-> ∀(x1 x3 x4 x5 x6 x7 x8 x9 bS cE aV aR aS aQ aW aX aU bO bK aY bC bE bG bH bI bJ bM bN bU cK cL cD bV bX bY b9 cA cF cM cO cP cT dB dE dF cU cV cW cY dJ dG dH cZ dP dS dQ dX eG eH eM eN eO eP:Value),
  ∃H2 u2,aM l (aN prog (lvl prog pkN m) (aM m) Tb) (Tf (lvl prog pkN m) (aM m)) [(pt a.fb),x1,(.slice (some ⟨ob,0,none⟩) p.nodes.toNat p.nodes.toNat),x3,x4,x5,x6,x7,x8,x9,bS,cE,aV,aR,aS,aQ,aW,aX,aU,a.ns,(.I (p.nodes.toNat:Nat)),(.I (i:Nat)),bO,bK,aY,bC,bE,bG,bH,bI,bJ,bM,bN,bU,cK,cL,cD,bV,bX,bY,b9,cA,cF,cM,cO,cP,cT,dB,dE,dF,cU,cV,cW,cY,dJ,dG,dH,cZ,dP,dS,dQ,dX,eG,eH,eM,eN,eO,eP] H=some (u2,H2)/\u2=aL []/\ ∃O' F',fE H0 H2 O' a F' p ev wv nv (T+42) (yC (eJ p) s0):=by
 intro q;induction q with
 |zero=>
  intro i l H O F us hq hi hl hul h;intros;obtain⟨l,rfl⟩:=aB l U
  obtain rfl:i=p.nodes.toNat:=U
  have e:decide ((p.nodes.toNat:Int)<(p.nodes.toNat:Nat))=false:=by simp
  obtain⟨N,hN,hNe⟩:=h.fab.vN;have h6:=hN.h6;have hlen:aZ (.slice (some ⟨ob,0,none⟩) p.nodes.toNat p.nodes.toNat)=some (.I (p.nodes.toNat:Nat)):=rfl;rw[dR,aDc];simp -implicitDefEqProofs only[gsR,e];rw[aQp];simp -implicitDefEqProofs only[gsR,hlen];obtain⟨H2,u2,g1,g2,O',g3⟩:=(aRj (m:=m) hk U hTb p.nodes.toNat 0 m H O U U U h ..)
  exact⟨H2,u2,g1,g2,O',F,g3.Ek U⟩
 |succ q ih=>
  intro i l H O F us hq hi hl hul h;intros;obtain⟨l,rfl⟩:=aB l U
  have hiN:i<p.nodes.toNat:=U
  obtain⟨N,hN,hNe⟩:=h.fab.vN;have h6:=hN.h6;have e:decide ((i:Int)<(p.nodes.toNat:Nat))=true:=aSE U
  have e3:=aA (i:=i) U
  have hn:=h.fab.node i hiN;have hni:qT (eJ p) s0 i i=s0.n i:=by unfold qT;rw[if_neg U]
  simp only[hni] at hn;obtain⟨b',o',r1,_,r3⟩:=h.fab.cst.nds.rs.fS Js (i:=i) (x:=some ⟨(a.y i).nb,0,none⟩) (by rw[aR7,aSC hiN];rfl) .i64
  have r4:=(r3 H rfl).2.1 0 _ rfl;rw[Nat.add_zero] at r4;obtain⟨H1,F1,v,w,g1,n1,m1,o1⟩:=aPU hn U (m:=m) U
  have hcv:oJ (lvl prog pkN m) (.func (.func 13) #[.Q ((a.y i).nb) 0] #[]) [] H=some (v,H1):=g1;have f1:=h.fab.nd hiN (t':=T+7*i+7) U n1 m1
  have hX:=h.fab.nodeO i hiN;have t1:=h.mv (.nd i) hX m1 f1;obtain⟨w1,w2⟩:=B3 o1.rw_;obtain⟨sv,rfl⟩: ∃z:SV,z.1=v:=⟨⟨v,w2,Array.toList_inj.mp w1⟩,rfl⟩;obtain⟨c,cs,p1,p2,p3,_,p5,p6⟩:=Tm t1.row (i:=i) U sv
  obtain rfl:c=ob:=aDC p1
  obtain⟨H2,hH2⟩:=aD (H1.set c (.cells (cs.set i sv.1) 35 .row));rw[<-hH2] at p5 p6;have hkp: ∀b,b≠c->H2[b]? =H1[b]? :=λb hb=>by rw[hH2,aRV (λhh=>hb hh.symm)]
  have hl2:H2.length=H1.length:=by rw[hH2,List.length_set]
  have hob:=h.obl U
  have f2:=t1.fab.Tr (H':=H2) U (λj b hb=>hkp b λhh=>t1.obf j (by rw[<-hh];exact hb)) (by rw[hH2];exact pU t1.fab.own.ext h.ob0)
  have hnew:(⟨up1 (qT (eJ p) s0 i) i (qA (kL p i) (s0.n i)).1,s0.l,s0.k⟩:FS)=⟨qT (eJ p) s0 (i+1),s0.l,s0.k⟩:=by
   congr 1
   funext j
   unfold qT up1;by_cases hj:j=i
   ·subst hj
    rw[if_pos rfl,if_pos U]
    rfl
   ·rw[if_neg hj]
    show(if j<i then(qA ((eJ p).c j) (s0.n j)).1 else s0.n j)=_
    by_cases hji:j<i
    ·rw[if_pos hji,if_pos U]
    ·rw[if_neg hji,if_neg U]
  simp only[hnew] at f2;rw[dR,aDc];simp -implicitDefEqProofs only[gsR,e,r1,r4,hcv,p3,p5,cR,e3];refine ih (i+1) l H2 _ _ (us.set i sv) U U U (by rw[List.length_set];exact hul) ⟨f2,p6,t1.obf,h.ob0,λj hj=> ?_⟩ ..
  by_cases hji:j=i
  ·subst hji
   refine⟨sv,w,by rw[aR0 U],o1.Ac λb hb ⟨h3,h4⟩=>⟨hkp b U,by omega,λk hk'=> ?_⟩⟩
   by_cases hkj:k= .nd j
   ·rw[hkj,iK] at hk'
    exact h4 hk'
   ·rw[eI _ _ hkj] at hk'
    have:=h.fab.own.lt k b hk';omega
  ·obtain⟨u,w',g2,g3⟩:=t1.outs j U
   exact⟨u,w',by rw[aRV (λhh=>hji hh.symm)];exact g2,g3.Ac λb hb h3=>⟨hkp b (by have:=h3.1;omega),h3⟩⟩
theorem aRh (h:fE H0 H O a F p ev wv nv t s)(ht:t<900000)(hk:s.k<1000000)(hm:4000<m): ∃H' O' F',lvl prog pkN m (.func 69) [pt a.fb] H=some (aL [],H')/\fE H0 H' O' a F' p ev wv nv (t+42) (yC (eJ p) s):=by
 obtain⟨N,hN,hNe⟩:=h.vN;have h6:=hN.h6;have l12:=h.ld 12 a.ns rfl;have hlen:=h.cst.nds.rX;rw[aR8,aSo] at hlen;have mk:=wW (H:=H) 35 1 24 [.slice none 0 0] .i64 .i64 (p.nodes.toNat:Int) U U U rfl
 rw[aSm] at mk;obtain⟨H1,hH1⟩:=aD (H++[Blk.cells (List.replicate p.nodes.toNat [Value.slice none 0 0]).flatten 35 .row]);rw[<-hH1] at mk;have x1:Ext H H1:=by rw[hH1];exact Fr.app _ _ _
 have h1:=h.nB x1;have l12':=h1.ld 12 a.ns rfl;obtain⟨zv,hzv⟩: ∃zv:SV,zv=⟨.slice none 0 0,rfl,rfl⟩:=⟨_,rfl⟩;have hfl:((List.replicate p.nodes.toNat zv).map sC).flatten=(List.replicate p.nodes.toNat [Value.slice none 0 0]).flatten:=by rw[List.map_replicate,hzv];rfl
 have b1:H1[H.length]? =some (.cells (List.replicate p.nodes.toNat [Value.slice none 0 0]).flatten 35 .row):=by rw[hH1];exact fA _ _
 have hrow:Rw sC 35 1 H1 (.slice (some ⟨H.length,0,none⟩) p.nodes.toNat p.nodes.toNat) (List.replicate p.nodes.toNat zv):=by
  refine⟨by rw[hfl];simp,.inr ⟨H.length,p.nodes.toNat,[],by rw[aSA],by rw[aSA];exact aRZ _,by simp,by rw[b1,hfl,List.append_nil]⟩⟩
 have hI:TickI H0 H1 O a F p ev wv nv (t+7*0) ⟨qT (eJ p) s 0,s.l,s.k⟩ H.length (List.replicate p.nodes.toNat zv) s 0:=by
  have e:(⟨qT (eJ p) s 0,s.l,s.k⟩:FS)=s:=by
   have:qT (eJ p) s 0=s.n:=by
    funext v
    unfold qT;rw[if_neg U]
   rw[this]
  rw[e]
  exact⟨h1,hrow,λj hj=>by have:=h.own.lt j _ hj;omega,h.own.ext.1,λj hj=>by omega⟩
 have hTb: ∀j,j<p.nodes.toNat->OutOk (kL p j) (tI (eJ p) s j)/\(tI (eJ p) s j).length<=36:=λj hj=>by
  have hn:=h.node j hj
  exact⟨aQU hn.ok hn.inv,aQT hn.ok _⟩
 have main: ∃H' u,lvl prog pkN m (.func 69) [pt a.fb] H=some (u,H')/\u=aL []/\ ∃O' F',fE H0 H' O' a F' p ev wv nv (t+42) (yC (eJ p) s):=by
  refine gN (cH rfl) U ?_
  rw[aQs];simp -implicitDefEqProofs only[gsR,l12,hlen,mk,l12'];exact aRi (m:=m-1) U hk U hTb p.nodes.toNat 0 (m-1) H1 O F (List.replicate p.nodes.toNat zv) U U U (by rw[aSA]) hI ..
 obtain⟨H',u,g1,rfl,O',F',g2⟩:=main
 exact⟨H',O',F',g1,g2⟩
theorem Tx (h:fE H0 H O a F p ev wv nv t s)(ht:t<700000)(hk:s.k<1000000)(hm:6000<m): ∃H' O' F',lvl prog pkN m (.func 25) [pt a.fb] H=some (aL [],H')/\fE H0 H' O' a F' p ev wv nv (t+2400) (vM (eJ p) s):=by
 obtain⟨H1,O1,F1,g1,h1⟩:=aRh h U hk (m:=m-1) U
 have l11:=h1.ld 11 a.hv rfl;have hlen:=h1.cst.hops.rX;have h36:=xC p;have main: ∃H' u,lvl prog pkN m (.func 25) [pt a.fb] H=some (u,H')/\u=aL []/\ ∃O' F',fE H0 H' O' a F' p ev wv nv (t+42+64*(dM p).length) (vM (eJ p) s):=by
  refine gN (cH rfl) U ?_
  rw[aQj];simp -implicitDefEqProofs only[gsR,g1,l11,hlen];exact aRf (m:=m-1) (n:=(dM p).length) rfl U (T:=t+42) U (dM p).length 0 (m-1) H1 O1 F1 (yC (eJ p) s) U U U h1 (by
   unfold vM;rw[List.range_eq_range']
   rfl) ..
 obtain⟨H',u,g2,rfl,O',F',h2⟩:=main
 exact⟨H',O',F',g2,h2.Ek U⟩
end
theorem aRq {κ:Type}[DecidableEq κ]{kt:KeyT}{enc:κ->Value}{H:aF}{mb:Nat}{f:κ->Option Value}(hk:KeyC kt enc)(h:IsMap enc H mb f)(k:κ)(v:Value)(hf:f k=none): ∃es c,qW kt (.map (some mb)) (enc k) v H=some (undef,H.set mb (.map es c))/\IsMap enc (H.set mb (.map es c)) mb (upd f k (some v)):=by
 obtain⟨es,c,h1,h2⟩:=h;have hlt:=(aRU.mp h1).1;have hn:=I6 hk k es 0 ((h2.no k).mp hf);refine⟨(es++[(k,v,c)]).map (mD enc),c+1,?_,_,c+1,by rw[aR0 hlt],h2.aBU v hf⟩
 unfold qW;rw[if_pos (Bu hk k)];simp only;rw[h1];simp only;rw[hn,List.map_append];rfl
section
variable {H0 H H' H1 : aF} {O : FP → Nat → Prop} {a : FL} {F : Nat → Part → Nat → Prop} {p : PlanD} {ev wv nv : Value} {t m : Nat} {s : FS}
theorem NodeAt.T0 {F:Part->Nat->Prop}{y:Lay}{c:Cfg}{t:Nat}{s:NS}(h:NodeAt H0 H F y p ev wv nv c t s)(hl:H.length<=H'.length)(hk: ∀b,Un F b->H'[b]? =H[b]?)(he:Ext H0 H'):NodeAt H0 H' F y p ev wv nv c t s:=
 {h with ext:=he,sep:=⟨λi=>(h.sep.own i).Cv (vJ _ _ _ _ _ _ _ i) hl λb hb=>hk b ⟨i,hb⟩,h.sep.sep⟩}
theorem FabG.aRn {i:Nat}(h:FabG H0 H O a F p ev wv nv 0 s i 0)(hi:i<100){Fn:Part->Nat->Prop}{y:Lay}(hn:NodeAt H H1 Fn y p ev wv nv (kL p i) 0 (s.n i)):
  ∃ns' H2 H3 O',app 30 1 8 a.ns (.slice (some ⟨H1.length,0,none⟩) 1 1) (H1++[.cells (ptC (some ⟨y.nb,0,none⟩)) 30 .row])=some (ns',H2)/\stN 1 (.Q a.fb 12) ns' H2=some (undef,H3)/\
   FabG H0 H3 O' {a with ns:=ns',y:=up1 a.y i y} (up1 F i Fn) p ev wv nv 0 s (i+1) 0:=by
 have xe:=hn.ext;obtain⟨w1,k1⟩:=h.own.Ej (.nd i) (X:=λ_=>False) (X':=Un Fn) (λ_ hb=>hb.elim) ⟨xe.1,λb hb=> .inr (hn.old b hb),λb hb _=>xe.2 b hb id⟩ hn.sep.rD
 obtain⟨O1,hO1⟩:=aD (updI O (.nd i) (Un Fn));have ocs:O1 .cs=O .cs:=by rw[hO1];exact eI _ _ (by simp)
 have ofb:O1 .fb=O .fb:=by rw[hO1];exact eI _ _ (by simp)
 rw[<-hO1] at w1;have c:=h.cst;have nds1:=qS c.nds xe;have hops1:=qS c.hops xe;have hnew:New H0 a.ns:=λb hb=>h.own.old .cs b (c.ndsO b hb)
 obtain⟨ns',H2,g1,g2,g3,g4,g5,g6⟩:=nds1.Mj (by':=8) Js aP7 aC (some ⟨y.nb,0,none⟩) hnew w1.ext (iE (n:=1000) aC (by rw[aR8,aSo];omega))
 obtain⟨O2,hO2⟩:=aD (updI O1 .cs (λb=>cJ a.hv b∨b=a.mb∨cJ ns' b))
 have mp1:IsMap edV H1 a.mb (lkF p a 0):=c.mp.zT (by
  obtain⟨es,cl,hmb,_⟩:=c.mp;rw[xe.2 _ (dO hmb) id])
 have hmb2:H2[a.mb]? =H1[a.mb]? :=by
  obtain⟨es,cl,hmb,_⟩:=mp1;refine g5.2 _ (dO hmb) λhh=> ?_
  obtain⟨cs,hc⟩:=nds1.blk hh;rw[hmb] at hc;cases hc
 have hops2:=aP8 hops1 nds1 aC g5
 obtain⟨w2,k2⟩:=w1.Ej .cs (X:=O1 .cs) (X':=λb=>cJ a.hv b∨b=a.mb∨cJ ns' b) (λ_ hb=>hb) ⟨g5.1,λb hb=>by
  rw[ocs];rcases hb with hb|hb|hb
  ·exact .inl (c.hopsO b hb)
  ·exact .inl (by rw[hb];exact c.mpO)
  ·exact(g6 b hb).imp (c.ndsO b) (·.1),λb hb hx=>g5.2 b hb λhh=>hx (by rw[ocs];exact c.ndsO b hh)⟩ (λb hb=>by
  rcases hb with hb|hb|hb
  ·exact hops2.gU hb
  ·rw[hb]
   have:=w1.lt .cs a.mb (by rw[ocs];exact c.mpO)
   exact aR9 this g5.1
  ·exact g2.gU hb)
 rw[<-hO2] at w2;have o2fb:O2 .fb=O .fb:=by rw[hO2,eI _ _ (by simp),ofb]
 have o2cs: ∀b,O2 .cs b=(cJ a.hv b∨b=a.mb∨cJ ns' b):=λb=>by rw[hO2,iK]
 have hfb2:H2[a.fb]? =some (.cells (qU p ev wv nv a.hv a.ns a.mb s.k) 149 .fix):=by
  have h1:=(k2 .fb (by simp) a.fb (by rw[ofb];exact c.fabO)).2
  rw[h1,xe.2 _ (dO c.fab) id,c.fab]
 obtain⟨s1,s2⟩:=B3 g2;obtain⟨H3,hH3⟩:=aD (H2.set a.fb (.cells (qU p ev wv nv a.hv ns' a.mb s.k) 149 .fix));have st:stN 1 (.Q a.fb 12) ns' H2=some (undef,H3):=by rw[hH3];exact qN hfb2 aC (by simp[qU,plC]) s1 s2
 have hk: ∀b,b≠a.fb->H3[b]? =H2[b]? :=λb hb=>by rw[hH3,aRV (λhh=>hb hh.symm)]
 have hl:H3.length=H2.length:=by rw[hH3,List.length_set]
 have hne: ∀j,j≠ .fb-> ∀b,O2 j b->b≠a.fb:=λj hj b hb hh=>hj (w2.dis j .fb b hb (by rw[hh,o2fb];exact c.fabO))
 have ext3:Ext H0 H3:=by rw[hH3];exact pU w2.ext (h.own.old _ _ c.fabO)
 have kN: ∀v b,O1 (.nd v) b->H3[b]? =H1[b]? /\O2 (.nd v) b:=λv b hb=>by
  have ho:O2 (.nd v) b:=by rw[hO2,eI _ _ (by simp)];exact hb
  exact⟨by rw[hk b (hne _ (by simp) b ho),(k2 (.nd v) (by simp) b hb).2],ho⟩
 refine⟨ns',H2,H3,O2,g1,st,h.ok,h.pv,⟨w2.dis,λj b hb=>by rw[hl];exact w2.lt j b hb,w2.old,ext3⟩,⟨?_,?_,?_,?_,?_,?_,?_,?_⟩,λv hv=> ?_,λv hv b hb=> ?_,λj hj=>by omega⟩
 ·rw[hH3]
  exact fW hfb2
 ·rw[o2fb];exact c.fabO
 ·exact hops2.eY λb hb=>hk b (hne .cs (by simp) b (by rw[o2cs];exact .inl hb))
 ·exact λb hb=>by rw[o2cs];exact .inl hb
 ·have e:(List.range (i+1)).map (λv=>some (⟨(up1 a.y i y v).nb,0,none⟩:Addr))=(List.range i).map (λv=>some (⟨(a.y v).nb,0,none⟩:Addr))++[some ⟨y.nb,0,none⟩]:=by
   rw[aSt,List.map_append]
   congr 1
   ·refine List.map_congr_left λv hv=> ?_
    have:=aSy.mp hv;unfold up1;rw[if_neg U]
   ·simp only[aSp,List.map_nil,up1,if_pos]
  show Rw ptC 30 1 H3 ns' ((List.range (i+1)).map λv=>some (⟨(up1 a.y i y v).nb,0,none⟩:Addr))
  rw[e];exact g2.eY λb hb=>hk b (hne .cs (by simp) b (by rw[o2cs];exact .inr (.inr hb)))
 ·exact λb hb=>by rw[o2cs];exact .inr (.inr hb)
 ·exact mp1.zT (by rw[hk _ (hne .cs (by simp) _ (by rw[o2cs];exact .inr (.inl rfl))),hmb2])
 ·rw[o2cs];exact .inr (.inl rfl)
 ·have hle:H1.length<=H3.length:=by rw[hl];exact g5.1
  by_cases hvi:v=i
  ·subst hvi
   simp only[up1,if_pos]
   exact(hn.aP5 h.own.ext h.pv).T0 hle (λb hb=>(kN v b (by rw[hO1,iK];exact hb)).1) ext3
  ·simp only[up1,if_neg hvi]
   have hn':=h.node v U
   exact(hn'.lH xe).T0 hle (λb hb=>(kN v b (by rw[hO1,eI _ _ (λhh=>hvi (by injection hh))];exact h.nodeO v U b hb)).1) ext3
 ·by_cases hvi:v=i
  ·subst hvi
   simp only[up1,if_pos] at hb
   exact(kN v b (by rw[hO1,iK];exact hb)).2
  ·simp only[up1,if_neg hvi] at hb
   exact(kN v b (by rw[hO1,eI _ _ (λhh=>hvi (by injection hh))];exact h.nodeO v U b hb)).2
theorem FabG.aRm {n j:Nat}(h:FabG H0 H O a F p ev wv nv t s n j)(hj:j<(dM p).length)(hs:s.l j=[])(xe:Ext H H1){lbn:Nat}(hl:Lk.IsLink H1 lbn [] p.bag.toNat (Nw H H1)):
  ∃H2 O',qW (.str [true,true]) (.map (some a.mb)) (edV ((dM p)[j]'hj)) (pt lbn) H1=some (undef,H2)/\FabG H0 H2 O' {a with lb:=up1 a.lb j lbn} F p ev wv nv t s n (j+1):=by
 obtain⟨N,hN⟩:=sW h.ok;have hnd:=(xK hN).1;have c:=h.cst;have hix:(dM p).idxOf ((dM p)[j]'hj)=j:=List.Nodup.idxOf_getElem hnd j hj;have h1:=h.nB xe;have mp1:=h1.cst.mp;obtain⟨es,cl,g1,g2⟩:=aRq Tt mp1 ((dM p)[j]'hj) (pt lbn) (by unfold lkF;rw[hix,if_neg U])
 obtain⟨H2,hH2⟩:=aD (H1.set a.mb (.map es cl));rw[<-hH2] at g1 g2;obtain⟨w1,k1⟩:=h.own.Ej (.lk j) (X:=λ_=>False) (X':=Nw H H1) (λ_ hb=>hb.elim) ⟨xe.1,λb hb=> .inr hb.1,λb hb _=>xe.2 b hb id⟩ (λb hb=>hb.2)
 obtain⟨O1,hO1⟩:=aD (updI O (.lk j) (Nw H H1));have ocs:O1 .cs=O .cs:=by rw[hO1];exact eI _ _ (by simp)
 have ofb:O1 .fb=O .fb:=by rw[hO1];exact eI _ _ (by simp)
 rw[<-hO1] at w1;have hk: ∀b,b≠a.mb->H2[b]? =H1[b]? :=λb hb=>by rw[hH2,aRV (λhh=>hb hh.symm)]
 have hl2:H2.length=H1.length:=by rw[hH2,List.length_set]
 have hne: ∀i,i≠ .cs-> ∀b,O1 i b->b≠a.mb:=λi hi b hb hh=>hi (w1.dis i .cs b hb (by rw[hh,ocs];exact c.mpO))
 have ext2:Ext H0 H2:=by rw[hH2];exact pU w1.ext (h.own.old _ _ c.mpO)
 have hrow: ∀{α:Type}{el:α->List Value}{e:TypeId}{sz:Nat}{w:Value}{xs:List α},Rw el e sz H1 w xs->Rw el e sz H2 w xs:=λhr=>hr.eY λb hb=>hk b λhh=>by
  obtain⟨cs,hc⟩:=hr.blk hb;obtain⟨es',cl',hm,_⟩:=mp1;rw[hh,hm] at hc;cases hc
 have hmp:upd (lkF p a j) ((dM p)[j]'hj) (some (pt lbn))=lkF p {a with lb:=up1 a.lb j lbn} (j+1):=by
  funext e
  unfold upd lkF;by_cases he:e=(dM p)[j]'hj
  ·rw[if_pos he,he,hix,if_pos U]
   simp only[up1,if_pos]
  ·rw[if_neg he]
   have hne':(dM p).idxOf e≠j:=λhh=>he (by
    have:=List.getElem_idxOf (xs:=dM p) (x:=e) (by rw[hh];exact hj)
    simp only[hh] at this;exact this.symm)
   by_cases hlt:(dM p).idxOf e<j
   ·rw[if_pos hlt,if_pos U]
    simp only[up1];rw[if_neg hne']
   ·rw[if_neg hlt,if_neg U]
 refine⟨H2,O1,g1,h.ok,h.pv,⟨w1.dis,λi b hb=>by rw[hl2];exact w1.lt i b hb,w1.old,ext2⟩,⟨?_,by rw[ofb];exact c.fabO,hrow h1.cst.hops,λb hb=>by rw[ocs];exact c.hopsO b hb,hrow h1.cst.nds,λb hb=>by rw[ocs];exact c.ndsO b hb,by rw[<-hmp];exact g2,by rw[ocs];exact c.mpO⟩,λv hv=> ?_,λv hv b hb=> ?_,λi hi=> ?_⟩
 ·show H2[a.fb]? =some (.cells (qU p ev wv nv a.hv a.ns a.mb s.k) 149 .fix)
  rw[hk _ (hne .fb (by simp) _ (by rw[ofb];exact c.fabO)),h1.cst.fab]
 ·exact(h1.node v hv).T0 U (λb hb=>hk b (hne (.nd v) (by simp) b (by rw[hO1,eI _ _ (by simp)];exact h.nodeO v hv b hb))) ext2
 ·rw[hO1,eI _ _ (by simp)]
  exact h.nodeO v hv b hb
 ·by_cases hij:i=j
  ·subst hij
   simp only[up1,if_pos];rw[hs,hO1,iK];exact hl.Ae (λb hb=>hk b (hne (.lk i) (by simp) b (by rw[hO1,iK];exact hb))) U
  ·have hne2:FP.lk i≠ .lk j:=λhh=>hij (by injection hh)
   simp only[up1,if_neg hij];rw[hO1,eI _ _ hne2]
   exact(h1.link i U).Ae (λb hb=>hk b (hne (.lk i) (by simp) b (by rw[hO1,eI _ _ hne2];exact hb))) U
def Tz (Hs:aF)(p:PlanD)(H2:aF)(u:Value):Prop:= ∃H0 O a F ev wv nv,u= .tuple #[pt a.fb,.int .u16 0]/\Ext Hs H0/\fE H0 H2 O a F p ev wv nv 0 (FS.vL (eJ p))/\ ∀G:aF,(∀b,Hs.length<=b->G[b]? =H0[b]?)->PV G p ev wv nv
theorem aRo {Hs:aF}{pb:Nat}{ev0 wv0 nv0:Value}(hs0:Ext Hs H0)(hpg: ∀G:aF,(∀b,Hs.length<=b->G[b]? =H0[b]?)->PV G p ev wv nv)(bp:H0[pb]? =some (plB p ev0 wv0 nv0))(hm:100<m){fb:Nat}{hv:Value}:
  ∀(q j l:Nat)(H:aF)(O:FP->Nat->Prop)(a:FL),(dM p).length-j=q->j<=(dM p).length->q<l->a.fb=fb->a.hv=hv->FabG H0 H O a F p ev wv nv 0 (FS.vL (eJ p)) p.nodes.toNat j-> ∀(x0 x2 x3 x4 x6 x7 x8 x9 bS cE aV aR aS aQ aW aX aU bA bP bQ bO bK aY bC bE bG bH bI bJ bM bN bU cK cL cD bV bX bY b9 cA cF cM cO dE dF cU cV cW cY dJ dG dH cZ dP dS dQ:Value),
  ∃H2 u2,aM l (aN prog (lvl prog pkN m) (aM m) S0) (S2 (lvl prog pkN m) (aM m)) [x0,(.Q pb 0),x2,x3,x4,(pt fb),x6,x7,x8,x9,bS,cE,aV,aR,aS,aQ,aW,aX,aU,bA,bP,bQ,bO,bK,aY,bC,bE,bG,bH,bI,bJ,bM,bN,bU,cK,cL,cD,bV,bX,bY,b9,cA,cF,cM,cO,hv,(.I ((dM p).length:Nat)),(.I (j:Nat)),dE,dF,cU,cV,cW,cY,dJ,dG,dH,cZ,dP,dS,dQ] H=some (u2,H2)/\Tz Hs p H2 u2:=by
 intro q;induction q with
 |zero=>
  intro j l H O a hq hj hl hfb hhv h;intros;obtain⟨l,rfl⟩:=aB l U
  obtain rfl:j=(dM p).length:=U
  have e:decide (((dM p).length:Int)<((dM p).length:Nat))=false:=by simp
  refine⟨H,_,?_,H0,O,a,F,ev,wv,nv,rfl,hs0,h,hpg⟩;rw[dR,aC5];simp -implicitDefEqProofs only[gsR,e];rw[aQc,<-hfb];rfl
 |succ q ih=>
  intro j l H O a hq hj hl hfb hhv h;intros;obtain⟨l,rfl⟩:=aB l U
  have h36:=xC p;have hjl:j<(dM p).length:=U
  have e:decide ((j:Int)<((dM p).length:Nat))=true:=aSE U
  have e3:=aA (i:=j) U
  obtain⟨x,hx⟩:=aD ((dM p)[j]'hjl);have hxj:(dM p)[j]? =some x:=by rw[hx];exact aRW _
  obtain⟨b,o,q1,_,q3⟩:=h.cst.hops.rs.fS o7 hxj .i64;rw[hhv] at q1;have q4:ldN 2 (.pointer (some ⟨b,o,none⟩)) H=some (edV x,H):=(q3 H rfl).1;obtain⟨H1,hH1⟩:=aD (H++[Blk.cells (edC x) 67 .fix]);have x1:Ext H H1:=by rw[hH1];exact Fr.app _ _ _
  have st:stN 2 (.pointer (some ⟨H.length,0,none⟩)) (edV x) (H++[Blk.cells [Value.int .i64 0,.int .i64 0] 67 .fix])=some (undef,H1):=by
   rw[wD (n:=2) (vs:=edC x) (eD H _) aC rfl rfl (aRZ 2) (Ba x),mW,hH1]
   rfl
  have b1:H1[H.length]? =some (.cells (edC x) 67 .fix):=by rw[hH1];exact fA _ _
  have h1:=h.nB x1;have l13:ld1 (.Q fb 13) H1=some (.map (some a.mb),H1):=by rw[<-hfb];exact dI h1.cst.fab rfl
  have lx: ∀{G:aF},Ext H1 G->ldN 2 (.pointer (some ⟨H.length,0,none⟩)) G=some (edV x,G):=λhG=>rG (eS b1 hG) (aRZ 2)
  have lx1:=lx (Fr.kO _ _);have l7:ld1 (.Q pb 7) H1=some (.I p.bag,H1):=eC (eS bp h1.own.ext) 7 (.I p.bag) rfl;have hbag:1<=p.bag/\p.bag<=64:=by
   have:=h.ok;unfold gY rZ wi at this;simp only[aR2,decide_eq_true_eq] at this;omega
  have ebag:((p.bag.toNat:Nat):Int)=p.bag:=U
  obtain⟨H2,g2,x2,hl2⟩:=Lk.aQ3 (pr:=pkN) (H:=H1) (cH rfl) (m:=m) U p.bag.toNat U
  rw[ebag] at g2;have lx2:=lx x2;have l13':ld1 (.Q fb 13) H2=some (.map (some a.mb),H2):=by rw[<-hfb];exact dI (h1.nB x2).cst.fab rfl
  have ck1:chk (some (edV x,H2)) (edV x)=true:=by
   obtain⟨x1,x2⟩:=x;simp[chk,veq,uI,edV,edC]
  have ck2:chk (some (Value.map (some a.mb),H2)) (.map (some a.mb))=true:=by simp[chk,veq]
  obtain⟨H3,O3,g3,h3⟩:=h1.aRm hjl rfl x2 hl2;rw[<-hx] at g3;rw[dR,aC5];simp -implicitDefEqProofs only[gsR,e,q1,q4,st,l13,lx1,l7,g2,lx2,ck1,l13',ck2,g3,cR,e3];exact ih (j+1) l H3 O3 {a with lb:=up1 a.lb j H1.length} U U U hfb hhv h3 ..
theorem aRp {Hs:aF}{pb:Nat}{ev0 wv0 nv0:Value}(hs0:Ext Hs H0)(hpg: ∀G:aF,(∀b,Hs.length<=b->G[b]? =H0[b]?)->PV G p ev wv nv)(bp:H0[pb]? =some (plB p ev0 wv0 nv0))(hck:oC p=0)(hst:0<=p.start/\p.start<65536)(hm:17592186045500<m)(hm2:m<=72057594037927936){fb:Nat}{hv:Value}:
  ∀(q i l:Nat)(H:aF)(O:FP->Nat->Prop)(a:FL)(F:Nat->Part->Nat->Prop),p.nodes.toNat-i=q->i<=p.nodes.toNat->q<l->a.fb=fb->a.hv=hv->FabG H0 H O a F p ev wv nv 0 (FS.vL (eJ p)) i 0-> ∀(x0 x2 x3 x4 x6 x7 x8 x9 bS cE aV aR aS aQ aW aX aU bA bP bQ aY bC bE bG bH bI bJ bM bN bU cK cL cD bV bX bY b9 cA cF cM cO cP cT dB dE dF cU cV cW cY dJ dG dH cZ dP dS dQ:Value),
  ∃H2 u2,aM l (aN prog (lvl prog pkN m) (aM m) Sz) (S1 (lvl prog pkN m) (aM m)) [x0,(.Q pb 0),x2,x3,x4,(pt fb),x6,x7,x8,x9,bS,cE,aV,aR,aS,aQ,aW,aX,aU,bA,bP,bQ,(.I (p.nodes.toNat:Nat)),(.I (i:Nat)),aY,bC,bE,bG,bH,bI,bJ,bM,bN,bU,cK,cL,cD,bV,bX,bY,b9,cA,cF,cM,cO,cP,cT,dB,dE,dF,cU,cV,cW,cY,dJ,dG,dH,cZ,dP,dS,dQ] H=some (u2,H2)/\Tz Hs p H2 u2:=by
 intro q;induction q with
 |zero=>
  intro i l H O a F hq hi hl hfb hhv h;intros;obtain⟨l,rfl⟩:=aB l U
  obtain rfl:i=p.nodes.toNat:=U
  have h36:=xC p;have e:decide ((p.nodes.toNat:Int)<(p.nodes.toNat:Nat))=false:=by simp
  have l11:ld1 (.Q fb 11) H=some (hv,H):=by rw[<-hfb,<-hhv];exact dI h.cst.fab rfl
  have hlen:=h.cst.hops.rX;rw[hhv] at hlen;rw[dR,aC4];simp -implicitDefEqProofs only[gsR,e];rw[aQb];simp -implicitDefEqProofs only[gsR,l11,hlen];exact aRo hs0 hpg bp (m:=m) U (dM p).length 0 m H O a U U U hfb hhv h ..
 |succ q ih=>
  intro i l H O a F hq hi hl hfb hhv h;intros;obtain⟨l,rfl⟩:=aB l U
  obtain⟨N,hN⟩:=sW h.ok;have hn:=hN.hn;have h6:=hN.h6;have e:decide ((i:Int)<(p.nodes.toNat:Nat))=true:=aSE U
  have e3:=aA (i:=i) U
  have l12: ∀{G:aF},Ext H G->ld1 (.pointer (some ⟨fb,12,none⟩)) G=some (a.ns,G):=λhG=>by rw[<-hfb];exact dI (eS h.cst.fab hG) rfl
  have l12a:=l12 (Fr.kO _ _);have lpl:ldN 11 (.Q fb 0) H=some (plV p ev wv nv,H):=by rw[<-hfb];exact rG h.cst.fab (by simp[qU,plC])
  obtain⟨H1,Fn,y,g1,hn1⟩:=aP3 (h.pv.ext h.own.ext) hck hst hm hm2 i U
  have l12b:=l12 hn1.ext;have ck:chk (some (a.ns,H1)) a.ns=true:=aCN h.cst.nds H1;obtain⟨ns',H2,H3,O3,g2,g3,h3⟩:=h.aRn U hn1
  rw[hfb] at g3;rw[dR,aC4];simp -implicitDefEqProofs only[gsR,e,l12a,lpl,g1,l12b,ck,aP6,g2,g3,cR,e3];exact ih (i+1) l H3 O3 {a with ns:=ns',y:=up1 a.y i y} (up1 F i Fn) U U U hfb hhv h3 ..
theorem ck0 (h:oC p=0):gY p=true:=by
 unfold oC at h
 split at h
 ·assumption
 ·omega
theorem J3 (hp:PV H p ev wv nv)(hck:oC p=0)(hst:0<=p.start/\p.start<65536)(hm:17592186045600<m)(hm2:m<=72057594037927936):
  ∃H2 u,lvl prog pkN m (.func 21) [plV p ev wv nv] H=some (u,H2)/\Tz H p H2 u:=by
 have hok:=ck0 hck;obtain⟨N,hN⟩:=sW hok;have hn:=hN.hn;have h6:=hN.h6;have hwl:p.weights.length<=1000:=by
  unfold gY rZ wi at hok;simp only[aR2,decide_eq_true_eq] at hok;omega
 obtain⟨H1,hH1⟩:=aD (H++[plB p ev wv nv]);have x1:Ext H H1:=by rw[hH1];exact Fr.app _ _ _
 have b1:H1[H.length]? =some (plB p ev wv nv):=by rw[hH1];exact fA _ _
 have e1:H++[Blk.cells (plV p ev wv nv).cells.toList 28 .fix]=H1:=by rw[hH1];rfl
 have p1:=hp.ext x1;have l1:=lC b1;obtain⟨H2,g2,x2⟩:=aAr p1 (m:=m-1) U U
 rw[hck] at g2;have b2:=eS b1 x2;have l2:=lC b2;have d0:((0:Int)!=0)=false:=rfl;obtain⟨H3,e',w',n',g3,c3⟩:=aDl (p1.ext x2) (by have:=hN.e15;omega) hwl (by have:=hN.nl;omega) (λxs hx=>by have:=hN.rl xs hx;omega) (λxs hx hz=>by have h1:=hN.rl xs hx;have:=hN.h2;rw[hz] at h1;simp only[List.length_nil] at h1;omega) (m:=m-1) U
 have b3:=eS b2 c3.ext;have l3:=lC b3;have pchk:=hp.chk;obtain⟨H4,hv,g4,x4,hw4,nw4⟩:=Y3 ((p1.ext x2).ext c3.ext) (m:=m-1) (by have:=hN.e15;omega) U
 have hb:bld prog 149 [(0,plV p e' w' n'),(1,hv),(3,.map (some H4.length))]=some (.agg ⟨qU p e' w' n' hv (.slice none 0 0) H4.length 0⟩):=by
  rcases hw4 with⟨_,⟨rfl,_⟩|⟨_,_,_,rfl,_⟩⟩<;>kernel_rfl
 obtain⟨H5,hH5⟩:=aD (H4++[Blk.map [] 0]);have nm:qH H4=some (.map (some H4.length),H5):=by rw[hH5];rfl
 obtain⟨H6,hH6⟩:=aD (H5++[Blk.cells (qU p e' w' n' hv (.slice none 0 0) H4.length 0) 149 .fix]);have e6:H5++[Blk.cells (Value.cells (.agg ⟨qU p e' w' n' hv (.slice none 0 0) H4.length 0⟩)).toList 149 .fix]=H6:=by rw[hH6];rfl
 have x5:Ext H4 H5:=by rw[hH5];exact Fr.app _ _ _
 have x6:Ext H5 H6:=by rw[hH6];exact Fr.app _ _ _
 have cD:=x4.tr (x5.tr x6);have b6:=eS b3 cD;have l0:ld1 (.Q H.length 0) H6=some (.I (p.nodes.toNat:Nat),H6):=by rw[eC b6 0 (.I p.nodes) rfl,show((p.nodes.toNat:Nat):Int)=p.nodes from U]
 obtain⟨a,ha⟩: ∃a:FL,a=⟨H5.length,hv,.slice none 0 0,H4.length,λ_=>⟨0,0,0,[],λ_=>0,λ_=>0,λ_=>[],λ_=>0,λ_=>0,λ_=>0,λ_=>0,λ_=>0,λ_=>[],λ_=>[],λ_ _=>0,λ_ _=>0,0,0,0,0,0⟩,λ_=>0⟩:=⟨_,rfl⟩
 have a1:a.fb=H5.length:=by rw[ha]
 have a2:a.hv=hv:=by rw[ha]
 have a3:a.ns= .slice none 0 0:=by rw[ha]
 have a4:a.mb=H4.length:=by rw[ha]
 have hl5:H5.length=H4.length+1:=by rw[hH5];simp
 have hl6:H6.length=H5.length+1:=by rw[hH6];simp
 obtain⟨O,hO⟩: ∃O:FP->Nat->Prop,O=λi b=>match i with
  | .fb=>b=H5.length
  | .cs=>cJ hv b∨b=H4.length
  |_=>False:=⟨_,rfl⟩
 have hvl: ∀b,cJ hv b->b<H4.length:=λb hb=>hw4.gU hb
 have hG:FabG H3 H6 O a (λ_ _ _=>False) p e' w' n' 0 (FS.vL (eJ p)) 0 0:=by
  refine⟨hok,c3.pv,⟨λi j b hi hj=> ?_,λi b hi=> ?_,λi b hi=> ?_,cD⟩,⟨?_,?_,?_,?_,?_,?_,?_,?_⟩,λv hv=>by omega,λv hv=>by omega,λv hv=>by omega⟩
  ·rw[hO] at hi hj
   cases i<;>cases j<;>simp only at hi hj<;>(try rfl)<;>(try exact hi.elim)<;>(try exact hj.elim)
   ·rcases hj with hj|hj
    ·have:=hvl b hj;omega
    ·omega
   ·rcases hi with hi|hi
    ·have:=hvl b hi;omega
    ·omega
  ·rw[hO] at hi
   cases i<;>simp only at hi<;>(try exact hi.elim)
   ·omega
   ·rcases hi with hi|hi
    ·have:=hvl b hi;omega
    ·omega
  ·rw[hO] at hi
   have:=x4.1;cases i<;>simp only at hi<;>(try exact hi.elim)
   ·omega
   ·rcases hi with hi|hi
    ·exact nw4 b hi
    ·omega
  ·rw[a1,a2,a3,a4,hH6]
   exact fA _ _
  ·rw[hO,a1]
  ·rw[a2]
   exact qS hw4 (x5.tr x6)
  ·intro b hb
   rw[a2] at hb;rw[hO];exact .inl hb
  ·rw[a3]
   exact Rw.kP
  ·intro b hb
   rw[a3] at hb;obtain⟨_,_,_,hh⟩:=hb;cases hh
  ·have hz:lkF p a 0=λ_=>none:=by
    funext e
    unfold lkF;rw[if_neg U]
   have hm5:IsMap edV H5 H4.length (λ_=>none):=by rw[hH5];exact IsMap.aBT H4
   rw[a4,hz];exact hm5.zT (by rw[x6.2 _ U id])
  ·rw[hO,a4]
   exact .inr rfl
 have hpg: ∀G:aF,(∀b,H.length<=b->G[b]? =H3[b]?)->PV G p e' w' n':=λG hG=>by
  have aV:=(x1.tr x2).1;obtain⟨us,n1,n2,n3,n4⟩:=c3.n;have hk: ∀{α:Type}{el:α->List Value}{e:TypeId}{sz:Nat}{w:Value}{xs:List α},Rw el e sz H3 w xs->New H2 w->Rw el e sz G w xs:=λh hn=>h.eY λb hb=>hG b (aSa aV (hn b hb))
  exact⟨(hk c3.e.1 c3.e.2).rs,(hk c3.w.1 c3.w.2).rs,Ju (hk n1 n2).rs n3 λi u xs hu hx=>(hk (n4 i u xs hu hx).1 (n4 i u xs hu hx).2).rs,c3.pv.be,c3.pv.bw,c3.pv.bn⟩
 refine gN (cH rfl) U ?_
 rw[aQd];simp -implicitDefEqProofs only[gsR,e1,l1,g2,d0,l2,g3,l3,pchk,g4,nm,hb,e6,l0];exact aRp (H0:=H3) (Hs:=H) (pb:=H.length) (m:=m-1) (x1.tr (x2.tr c3.ext)) hpg b3 hck hst U U p.nodes.toNat 0 (m-1) H6 O a _ U U U a1 a2 hG ..
end
section
variable {H0 H H' H1 : aF} {O : FP → Nat → Prop} {a : FL} {F : Nat → Part → Nat → Prop} {p : PlanD} {ev wv nv : Value} {t m : Nat} {s : FS}
theorem aRu {G:aF}{b:Nat}(hz:G[b]? =some plZ)(hp:PV G p ev wv nv):stN 11 (.Q b 0) (plV p ev wv nv) G=some (undef,G.set b (plB p ev wv nv)):=by
 have e1:(plV p ev wv nv).cells.toList=plC p ev wv nv:=rfl;rw[mA 11 _ _ _ rfl,hz,e1];unfold plZ;rw[oK _ _ _ _ _ _ aC (by simp[plC]) hp.Db]
 simp[eT,plC,plB]
theorem Clo.aRr {G:aF}{b:Nat}{cs cs':List Value}{T:TypeId}(c:Clo H1 G p ev wv nv)(x:Ext H H1)(hb:H.length<=b)(hz:G[b]? =some (.cells cs T .fix)):Clo H (G.set b (.cells cs' T .fix)) p ev wv nv:=by
 have hk: ∀{α:Type}{el:α->List Value}{e:TypeId}{sz:Nat}{w:Value}{xs:List α},Rw el e sz G w xs->Rw el e sz (G.set b (.cells cs' T .fix)) w xs:=λh=>h.eY λc hc=>aRV λhh=>by
  obtain⟨cs,hx⟩:=h.blk hc;rw[<-hh,hz] at hx;cases hx
 have hn: ∀v,New H1 v->New H v:=λv h b hb=>aSa x.1 (h b hb)
 obtain⟨us,n1,n2,n3,n4⟩:=c.n
 exact⟨⟨(hk c.e.1).rs,(hk c.w.1).rs,Ju (hk n1).rs n3 λi u xs hu hx=>(hk (n4 i u xs hu hx).1).rs,c.pv.be,c.pv.bw,c.pv.bn⟩,pU (x.tr c.ext) hb,⟨hk c.e.1,hn _ c.e.2⟩,⟨hk c.w.1,hn _ c.w.2⟩,us,hk n1,hn _ n2,n3,λi u xs hu hx=>⟨hk (n4 i u xs hu hx).1,hn _ (n4 i u xs hu hx).2⟩⟩
theorem aRs (hok:gY p=true):p.edges.length<=1000/\p.weights.length<=1000/\p.next.length<=1000/\(∀xs∈p.next,xs.length<=1000)/\ ∀xs∈p.next,xs≠[]:=by
 obtain⟨N,hN⟩:=sW hok;have h6:=hN.h6;have h2:=hN.h2;refine⟨by have:=hN.e15;omega,?_,by have:=hN.nl;omega,λxs hx=>by have:=hN.rl xs hx;omega,λxs hx hz=>by have h1:=hN.rl xs hx;rw[hz] at h1;simp only[List.length_nil] at h1;omega⟩
 unfold gY rZ wi at hok;simp only[aR2,decide_eq_true_eq] at hok;omega
theorem T1 (h:fE H0 H O a F p ev wv nv t s)(hm:3000<m): ∃H' e' w' n',lvl prog pkN m (.func 23) [pt a.fb] H=some (plV p e' w' n',H')/\Clo H H' p e' w' n':=by
 obtain⟨c1,c2,c3,c4,c5⟩:=aRs h.ok;obtain⟨H1,hH1⟩:=aD (H++[plZ]);have x1:Ext H H1:=by rw[hH1];exact Fr.app _ _ _
 have z1:H1[H.length]? =some plZ:=by rw[hH1];exact fA _ _
 have h1:=h.nB x1;have lpl:ldN 11 (.Q a.fb 0) H1=some (plV p ev wv nv,H1):=rG h1.cst.fab (by simp[qU,plC])
 obtain⟨H2,e',w',n',g2,c⟩:=aDl (h1.pv.ext h1.own.ext) c1 c2 c3 c4 c5 (m:=m-1) U
 have z2:=eS z1 c.ext;have st:=aRu z2 c.pv;have cc:=c.aRr (cs':=plC p e' w' n') x1 (aRZ _) z2;obtain⟨H3,hH3⟩:=aD (H2.set H.length (plB p e' w' n'));have l3:=lC (H:=H3) (b:=H.length) (p:=p) (ev:=e') (wv:=w') (nv:=n') (by rw[hH3];exact fW z2)
 rw[<-hH3] at st;refine⟨H3,e',w',n',cS (cH rfl) U ?_,by rw[hH3];exact cc⟩
 rw[aQf];simp -implicitDefEqProofs only[gsR,Bf,<-hH1,lpl,g2,st,l3]
def kq:PlanD:=rO [0] 1 0 0
def kI:Nat×FS:=qC kq kx (FS.vL (eJ kq))
def kR:FS:=vM (eJ kq) (vM (eJ kq) kI.2)
theorem aRt:kI.1=0/\Ag kq 1 kR=[kx]/\kR.k=2/\kI.2.k=0/\(vM (eJ kq) kI.2).k=1/\(dM kq).length=2/\kq.nodes=2:=by decide+kernel
theorem T6 (m:Nat)(hm:17592186045700<m)(hm2:m<=72057594037927936): ∃H',lvl prog pkN m (.func 22) [] H=some (.bool true,H')/\Ext H H':=by
 obtain⟨H1,hH1⟩:=aD (H++[Blk.cells [Value.int .u8 0] 5 .row]);have x1:Ext H H1:=by rw[hH1];exact Fr.app _ _ _
 have e1:dT 5 1 1 [.int .u8 0] [(0,.int .u8 0)] H=some (.slice (some ⟨H.length,0,none⟩) 1 1,H1):=by rw[hH1];rfl
 have hu:Us H1 (.slice (some ⟨H.length,0,none⟩) 1 1) [0]:= .inr ⟨H.length,0,1,rfl,aRZ _,λ_=>⟨5,.row,[],[],rfl,λ_=>rfl,by rw[hH1,eD];rfl⟩⟩
 obtain⟨H2,ev,wv,nv,g2,x2,hp⟩:=Jp hu (by simp) (by simp) 1 0 0 U U U (m:=m-1) U U
 simp only[show((1:Nat):Int)=1 from rfl,show((0:Nat):Int)=0 from rfl] at g2
 have hok:=Jq [0] 1 0 0;have hst0:(rO [0] 1 0 0).start=0:=rfl;obtain⟨q,hq⟩:=aD kq;have hq':rO [0] 1 0 0=q:=hq.symm;rw[hq'] at g2 hp hok hst0;obtain⟨r1,r2,r3,r4,r5,r6,r7⟩:=aRt;obtain⟨H3,u,g3,Hb,O,a,F,e',w',n',rfl,xb,h3,_⟩:=J3 hp hok (by rw[hst0];omega) (m:=m-1) U U
 have hqn:q.nodes=2:=by rw[hq];exact r7
 have hqh:(dM q).length=2:=by rw[hq];exact r6
 have E0:ext 0 (.tuple #[pt a.fb,.int .u16 0])=some (pt a.fb):=rfl;have E1:ext 1 (.tuple #[pt a.fb,.int .u16 0])=some (.int .u16 0):=rfl;have z0:((0:Int)!=0)=false:=rfl;have n1:=λa=>(sH 30 a (by kernel_rfl)).1
 have n1':=(sH 30 ⟨0,0,none⟩ (by kernel_rfl)).2
 have n2:=λa=>(sH 60 a (by kernel_rfl)).1
 have n3:=λa=>(sH 76 a (by kernel_rfl)).1
 have n3':=(sH 76 ⟨0,0,none⟩ (by kernel_rfl)).2
 have n4:=λa=>(sH 83 a (by kernel_rfl)).1
 have k0:=Af h3 (m:=m-1) U 0
 have k1:=Af h3 (m:=m-1) U 1
 have k2:=B6 h3 (m:=m-1) U 0
 have v0:qV q a 0=pt (a.y 0).nb:=by unfold qV;rw[if_pos U];rfl
 have v1:qV q a 1=pt (a.y 1).nb:=by unfold qV;rw[if_pos U];rfl
 have v2:tJ q a 0=pt (a.lb 0):=by unfold tJ;rw[if_pos U];rfl
 rw[v0] at k0;rw[v1] at k1;rw[v2] at k2;have k3:=aCy (h3.node 1 U) (m:=m-1) U
 have bp:bld prog 54 [(0,.I 0),(1,.I 1),(3,.int .u32 7)]=some kx.dN:=rfl;obtain⟨H4,O4,F4,g4,h4,_⟩:=J0 h3 (m:=m-1) U kx aC
 have hI:qC q kx (FS.vL (eJ q))=kI:=by rw[hq];rfl
 rw[hI] at g4 h4;rw[r1] at g4;obtain⟨H5,O5,F5,g5,h5⟩:=Tx h4 U U (m:=m-1) U
 have hk5:(vM (eJ q) kI.2).k=1:=by rw[hq];exact r5
 obtain⟨H6,O6,F6,g6,h6⟩:=Tx h5 U U (m:=m-1) U
 have hR:vM (eJ q) (vM (eJ q) kI.2)=kR:=by rw[hq];rfl
 rw[hR] at h6;obtain⟨H7,gv,g7,x7,q7,_⟩:=Tu h6 U (m:=m-1) U 1
 have hG:Ag q 1 kR=[kx]:=by rw[hq];exact r2
 rw[hG] at q7;have h7:=h6.nB x7;have len7:aZ gv=some (.I 1):=q7.rs.gW;obtain⟨bg,og,i4,i5,i6⟩:=q7.rs.fS Bp (i:=0) (x:=kx) rfl .i64;simp only[show((0:Nat):Int)=0 from rfl] at i4
 have t3:=(i6 H7 rfl).2.1 3 (.int .u32 7) rfl;have k8:=aDA h7 (m:=m-1) U
 rw[r3] at k8;obtain⟨hv,H8,g8,x8,q8,_⟩:=Tv h7 (m:=m-1) U
 have h8:=h7.nB x8;have len8:=q8.rX;rw[hqh] at len8;obtain⟨H9,e9,w9,n9,g9,c9⟩:=T1 h8 (m:=m-1) U
 have h9:=h8.nB c9.ext;have p9:Ak 0 (plV q e9 w9 n9)=some (.I 2):=by
  have:Ak 0 (plV q e9 w9 n9)=some (.I q.nodes):=rfl;rw[this,hqn]
 have k10:=Af h9 (m:=m-1) U 2
 have v10:qV q a 2= .pointer none:=by unfold qV;rw[if_neg U]
 rw[v10] at k10;have k11:=B6 h9 (m:=m-1) U 2
 have v11:tJ q a 2= .pointer none:=by unfold tJ;rw[if_neg U]
 rw[v11] at k11;have k12:=Tw h9 (m:=m-1) U 9 0 (.inr U)
 have z1:((1:Int)==1)=true:=rfl;have z2:((0:Int)==0)=true:=rfl;have z7:((7:Int)==7)=true:=rfl;have z22:((2:Int)==2)=true:=rfl;simp only[show((2:Nat):Int)=2 from rfl] at k8 len8
 simp only[show((0:Nat):Int)=0 from rfl] at g4
 have xx:Ext H H9:=(x1.tr x2).tr (xb.tr h9.own.ext);refine nQ (cH rfl) U ⟨H9,?_,xx⟩
 rw[aQe];simp -implicitDefEqProofs only[gsR,e1,g2,g3,E0,E1,z0,n2,k0,n1,k2,n3,k1,k3,n4,bp,g4,g5,g6,g7,z2,len7,z1,i4,t3,z7,k8,z22,g8,len8,g9,p9,k10,n1',k11,n3',k12]
end
end Go.Proofs.YtkeilicinggjmaaGreatDoor
