/-
  PARTS OF THIS CLAIM'S PROOF, laid together by a program of mine.
-/
import Derived.Test.YtkeilicinggjmaaGreatDoorAbsM4
set_option linter.unusedVariables false
set_option linter.unusedSimpArgs false
set_option linter.unusedSectionVars false
set_option maxRecDepth 100000
namespace Go.Proofs.YtkeilicinggjmaaGreatDoor
open Go.Proofs.Tryz
open Go.Abs Go.Abs.M
def wC:Nat->List (List Int)
 |0=>[[]]
 |k+1=>(wC k).flatMap λt=>(List.range (k+1)).map λx:Nat=>t++[(x:Int)]
theorem aKP {t:List Int}{x:Int}(h:kC (t++[x])=true):kC t=true/\0<=x/\x<=t.length:=by
 have hx:=aAu h (i:=t.length) (x:=x) (by simp)
 refine⟨?_,hx.1,hx.2.1⟩;unfold kC at h⊢;rw[aR2,aSz] at h⊢;refine⟨λj hj=> ?_,?_⟩
 ·have hjl:=aSy.mp hj
  have:=h.1 j (aSy.mpr (by simp;omega))
  rw[aRY,aRX hjl] at this;rw[aRY];exact this
 ·have h2:=of_decide_eq_true h.2
  simp at h2;exact aSE U
theorem aAx: ∀(k:Nat)(t:List Int),t.length=k->kC t=true->t∈wC k
 |0,t,hl,_=>by
  rw[aSc.mp hl];simp[wC]
 |k+1,t,hl,h=>by
  obtain⟨s,x,rfl⟩: ∃s x,t=s++[x]:=by
   refine⟨t.dropLast,t.getLast (λhh=>by rw[hh] at hl;simp at hl),?_⟩
   exact(List.dropLast_concat_getLast _).symm
  obtain⟨h1,h2,h3⟩:=aKP h;have hsl:s.length=k:=by simpa using hl
  unfold wC;rw[List.mem_flatMap];refine⟨s,aAx k s hsl h1,aSx.mpr ⟨x.toNat,aSy.mpr U,?_⟩⟩
  rw[show((x.toNat:Nat):Int)=x by omega]
def Bg (t:List Int):PlanD:=cpP (t.length+1) (xN t) (oN t)
def zI (t:List Int):Bool:=gY (Bg t)&&(decide (oC (Bg t)=0)&&(List.range (t.length+1)).all λv=>(List.range (t.length+1)).all λw=>decide (xJ (Bg t) v w=pV t v w)&&(decide (v=w)||decide (2<=(pV t v w).length)))
theorem aKK:(wC 1).all zI=true:=by decide+kernel
theorem aKL:(wC 2).all zI=true:=by decide+kernel
theorem aKM:(wC 3).all zI=true:=by decide+kernel
theorem aKN:(wC 4).all zI=true:=by decide+kernel
theorem aKO:(wC 5).all zI=true:=by decide+kernel
theorem aKY {t:List Int}(hr:kC t=true)(h1:1<=t.length):zI t=true:=by
 have h5:t.length<=5:=by
  unfold kC at hr;rw[aR2] at hr;have:=of_decide_eq_true hr.2;omega
 have hm:=aAx t.length t rfl hr;have hc:t.length=1∨t.length=2∨t.length=3∨t.length=4∨t.length=5:=U
 rcases hc with h|h|h|h|h<;>rw[h] at hm
 ·exact aSz.mp aKK t hm
 ·exact aSz.mp aKL t hm
 ·exact aSz.mp aKM t hm
 ·exact aSz.mp aKN t hm
 ·exact aSz.mp aKO t hm
def Ih (t:List Int)(v:Nat):List Int:=(List.range (t.length+1)).map λw:Nat=>if v=w then(v:Int) else(pV t v w).getD 1 0
structure TG (t:List Int):Prop where
 ok:gY (Bg t)=true
 er:oC (Bg t)=0
 pa: ∀v w:Nat,v<=t.length->w<=t.length->xJ (Bg t) v w=pV t v w
 l2: ∀v w:Nat,v<=t.length->w<=t.length->v≠w->2<=(pV t v w).length
theorem aAy {t:List Int}(hr:kC t=true)(h1:1<=t.length):TG t:=by
 have h:=aKY hr h1;unfold zI at h;simp only[aR2,decide_eq_true_eq,aSz,aSy,Bool.or_eq_true] at h;obtain⟨h1,h2,h3⟩:=h
 exact⟨h1,h2,λv w hv hw=>(h3 v U w U).1,λv w hv hw hne=>((h3 v U w U).2).resolve_left hne⟩
theorem aKX {p:PlanD}{t:List Int}(hp:gY p=true)(hg:TG t):gY (sX p t)=true:=by
 have h:=hg.ok;unfold gY rZ zC xB at*;simp only[aR2] at*
 exact⟨⟨h.1.1,hp.1.2⟩,h.2.1,hp.2.2.1,hp.2.2.2.1,h.2.2.2.2⟩
theorem aKT {p:PlanD}{t:List Int}(hp:gY p=true)(hg:TG t):oC (sX p t)=0/\ ∀v w:Nat,v<=t.length->w<=t.length->xJ (sX p t) v w=pV t v w:=by
 obtain⟨_,c2,_,c4⟩:=aKC (aKX hp hg) hg.ok rfl rfl rfl
 exact⟨by rw[c4];exact hg.er,λv w hv hw=>by rw[c2];exact hg.pa v w hv hw⟩
section
variable {H : aF} {m : Nat} {p : PlanD} {ev wv nv : Value}
theorem aKR {α:Type}{el:α->List Value}{e e':TypeId}{sz by':Nat}(hsz: ∀x,(el x).length=sz)(hall: ∀x,dV (el x)=true)(h0:0<sz){H0:aF}{v w:Value}{xs ys:List α}{b j:Nat}{cs:List Value}
  (hb:H[b]? =some (.cells cs 28 .fix))(hj:j<cs.length)(hv:Rw el e sz H v xs)(hw:Rs el e' H w ys)(hn:New H0 v)(hbn:H0.length<=b)(he:Ext H0 H)(hr:hP (xs.length+ys.length) by'=true):
  ∃v' H1 H',app e sz by' v w H=some (v',H1)/\stN 1 (.Q b j) v' H1=some (undef,H')/\
   Rw el e sz H' v' (xs++ys)/\New H0 v'/\Ext H0 H'/\H'[b]? =some (.cells (cs.set j v') 28 .fix)/\Hi b e H H':=by
 obtain⟨v',H1,g1,g2,g3,g4,g5⟩:=hv.yX hsz hall h0 (by':=by') hw hr;have hbl:=(aRU.mp hb).1;have hl:=he.1;have hnh: ¬cJ v b:=λhh=>by
  obtain⟨c',hc'⟩:=hv.blk hh;rw[hb] at hc';simp at hc'
 have hb1:H1[b]? =some (.cells cs 28 .fix):=by rw[g4 b hbl hnh,hb]
 obtain⟨s1,s2⟩:=g2.uW;have hb1l:=(aRU.mp hb1).1;refine⟨v',H1,H1.set b (.cells (cs.set j v') 28 .fix),g1,?_,g2.eY λc hc=> ?_,λc hc=> ?_,⟨by rw[List.length_set];omega,λc hc _=> ?_⟩,aR0 hb1l,λc y hcb hA hy=> ?_⟩
 ·rw[mA 1 _ _ _ (by rw[s1];rfl),hb1,s1,oK _ _ _ _ _ _ aC (by simp;omega) s2]
  rfl
 ·refine aRV λhh=> ?_
  subst hh;obtain⟨c',hc'⟩:=g2.blk hc;rw[hb1] at hc';simp at hc'
 ·rcases g5 c hc with h|⟨h,_⟩
  ·exact hn c h
  ·omega
 ·rw[aRV U,g4 c U (λh=>by have:=hn c h;omega),he.2 c hc id]
 ·have hch: ¬cJ v c:=λhh=>by
   obtain⟨c',hc'⟩:=hv.blk hh;rw[hy] at hc';cases hc';exact hA _ rfl
  rw[aRV (Ne.symm hcb),g4 c (aRU.mp hy).1 hch,hy]
structure LA (H0 H1:aF)(pb rb:Nat)(q:PlanD)(ev wv nv:Value):Prop where
 ext:Ext H0 H1
 blk:H1[pb]? =some (plB q ev wv nv)
 res:H1[rb]? =some plZ
 ne:rb≠pb
 lp:H0.length<=pb
 lr:H0.length<=rb
theorem LA.aKQ {H0 H1 H2:aF}{pb rb:Nat}{q:PlanD}(h:LA H0 H1 pb rb q ev wv nv)(he:Ext H1 H2):LA H0 H2 pb rb q ev wv nv:=⟨h.ext.tr he,eS h.blk he,eS h.res he,h.ne,h.lp,h.lr⟩
theorem Pk {H0 H1:aF}{b rb:Nat}{e:TypeId}(hk:Hi b e H0 H1)(hr:H0[rb]? =some plZ)(hne:rb≠b):H1[rb]? =some plZ:=hk rb _ hne (λcs hh=>by simp[plZ] at hh) hr
def Ig (H0:aF)(q:PlanD)(H':aF)(r:Value):Prop:= ∃ev wv nv,r= .tuple #[plV q ev wv nv,.I 0]/\Ext H0 H'/\PV H' q ev wv nv
variable {t : List Int} {tv : Value} {H0 : aF} {pb rb : Nat}
theorem aKW {Hb:aF}{v:Nat}(hr:kC t=true)(hg:TG t)(ht:Is Hb tv t)(hv:v<t.length+1)(hm:400<m)(hm2:m<=72057594037927936){K:Ex->K (Value×aF)}{Q:aF->Value->Prop}
  (hK: ∀(H':aF)(u:Value),Ext Hb H'->Iw H' u ((List.range (t.length+1)).map λw=>if v=w then(v:Int) else(pV t v w).getD 1 0)->New Hb u-> ∀(x0 x3 x5 x7 x8 cE aV aR aS aQ aW aX aU bA bP bQ bO bK aY bC bE bG bH bI bJ bM bN bU cK cL cD bV bX bY b9 cA cF cM cO cP cT dB dE dF cU cV cW cY dJ dG dH cZ dP dS dQ dX eG eH eM eN eO eP eU eV eW fF fG fH fI fJ fK fL fM fN fO fP fQ:Value),∃H2 r,N9 (lvl prog cN m) (aM m) K x0 tv (.Q pb 0) x3 (.Q rb 0) x5 (.I (t.length+1:Nat)) x7 x8 (.I (v:Nat)) u cE aV aR aS aQ aW aX aU bA bP bQ bO bK aY bC bE bG bH bI bJ bM bN bU cK cL cD bV bX bY b9 cA cF cM cO cP cT dB dE dF cU cV cW cY dJ dG dH cZ dP dS dQ dX eG eH eM eN eO eP eU eV eW fF fG fH fI fJ fK fL fM fN fO fP fQ H'=some (r,H2)/\Q H2 r):
  ∀(k0 w k:Nat)(H1:aF)(acc:Value),t.length+1-w=k0->w<=t.length+1->k0<k->Ext Hb H1->Iw H1 acc ((List.range w).map λw=>if v=w then(v:Int) else(pV t v w).getD 1 0)->New Hb acc-> ∀(x0 x3 x5 x7 x8 aV aR aS aQ aW aX aU bA bP bQ bO bK aY bC bE bG bH bI bJ bM bN bU cK cL cD bV bX bY b9 cA cF cM cO cP cT dB dE dF cU cV cW cY dJ dG dH cZ dP dS dQ dX eG eH eM eN eO eP eU eV eW fF fG fH fI fJ fK fL fM fN fO fP fQ:Value),
  ∃H' r,aM k (aN prog (lvl prog cN m) (aM m) N8) (Oc (lvl prog cN m) (aM m) K) [x0,tv,(.Q pb 0),x3,(.Q rb 0),x5,(.I (t.length+1:Nat)),x7,x8,(.I (v:Nat)),acc,(.I (w:Nat)),aV,aR,aS,aQ,aW,aX,aU,bA,bP,bQ,bO,bK,aY,bC,bE,bG,bH,bI,bJ,bM,bN,bU,cK,cL,cD,bV,bX,bY,b9,cA,cF,cM,cO,cP,cT,dB,dE,dF,cU,cV,cW,cY,dJ,dG,dH,cZ,dP,dS,dQ,dX,eG,eH,eM,eN,eO,eP,eU,eV,eW,fF,fG,fH,fI,fJ,fK,fL,fM,fN,fO,fP,fQ] H1=some (r,H')/\Q H' r:=by
 intro k0;have h5:t.length<=5:=by
  unfold kC at hr;rw[aR2] at hr;have:=of_decide_eq_true hr.2;omega
 induction k0 with
 |zero=>
  intro w k H1 acc hq hi hk he ha hnew;intros;obtain⟨k,rfl⟩:=aB k U
  obtain rfl:w=t.length+1:=U
  have e:decide (((t.length+1:Nat):Int)<((t.length+1:Nat):Int))=false:=by simp
  rw[dR,Zv];simp only[gsR,e];rw[aJB];exact hK H1 acc he ha hnew ..
 |succ k0 ih=>
  intro w k H1 acc hq hi hk he ha hnew;intros;obtain⟨k,rfl⟩:=aB k U
  have e:decide ((w:Int)<((t.length+1:Nat):Int))=true:=aSE U
  have e3:=aA (i:=w) U
  have hrow: ∀x:Int,(if v=w then(v:Int) else(pV t v w).getD 1 0)=x->((List.range (w+1)).map λw=>if v=w then(v:Int) else(pV t v w).getD 1 0)=((List.range w).map λw=>if v=w then(v:Int) else(pV t v w).getD 1 0)++[x]:=λx hx=>by
   rw[aSt,List.map_append];simp only[aSp,List.map_nil];rw[hx]
  rw[dR,Zv];by_cases hvw:v=w
  ·have d:((v:Int)!=(w:Int))=false:=by simp[hvw]
   obtain⟨acc2,H2,t1,t2,t3,t4⟩:=ha.tV (by':=8) gV pR aC (v:Int) hnew he (iE (n:=1000) aC (by simp;omega))
   simp only[gsR,e,d,pS,t1,cR,e3];exact ih (w+1) k H2 acc2 U U U t4 (by rw[hrow v (if_pos hvw)];exact t2) t3 ..
  ·have d:((v:Int)!=(w:Int))=true:=by simp;omega
   obtain⟨H2,u,g1,x2,q2,_⟩:=aKG (ht.ext he) hr (v:=v) (w:=w) U U (m:=m) U U
   obtain⟨x,hx⟩: ∃x,(pV t v w)[1]? =some x:=by
    have:=hg.l2 v w U U hvw
    exact⟨_,aRW U⟩
   obtain⟨c,o,k1,_,k3⟩:=q2.rs.fS gV hx .i64;have k1:aT 1 u (.int .i64 1)=some (.pointer (some ⟨c,o,none⟩)):=k1;have k4:ld1 (.pointer (some ⟨c,o,none⟩)) H2=some (.int .i64 x,H2):=(k3 H2 rfl).2.1 0 _ rfl;have ha2:=ha.eY (H':=H2) λb hb=>x2.2 b (ha.gU hb) id
   obtain⟨acc2,H3,t1,t2,t3,t4⟩:=ha2.tV (by':=8) gV pR aC x hnew (he.tr x2) (iE (n:=1000) aC (by simp;omega))
   simp only[gsR,e,d,g1,k1,k4,pS,t1,cR,e3];exact ih (w+1) k H3 acc2 U U U t4 (by rw[hrow x (by rw[if_neg hvw,xM hx])];exact t2) t3 ..
theorem aKV {q:PlanD}{ev1 wv1:Value}(hr:kC t=true)(hg:TG t)(ht:Is H0 tv t)(hm:500<m)(hm2:m<=72057594037927936)(hqe:q.edges=xN t)(hqw:q.weights.length<=1000):
  ∀(k0 v k:Nat)(H1:aF)(nv1:Value)(us:List SV),t.length+1-v=k0->v<=t.length+1->k0<k->LA H0 H1 pb rb q ev1 wv1 nv1->Ew H1 ev1 q.edges->Iw H1 wv1 q.weights->Rw sC 25 1 H1 nv1 us->New H0 nv1->WR H1 us ((List.range v).map (Ih t))-> ∀(x0 x3 x5 x7 x8 bS cE aV aR aS aQ aW aX aU bA bP bQ bO bK aY bC bE bG bH bI bJ bM bN bU cK cL cD bV bX bY b9 cA cF cM cO cP cT dB dE dF cU cV cW cY dJ dG dH cZ dP dS dQ dX eG eH eM eN eO eP eU eV eW fF fG fH fI fJ fK fL fM fN fO fP fQ:Value),
  ∃H' r,aM k (aN prog (lvl prog cN m) (aM m) N7) (Ob (lvl prog cN m) (aM m)) [x0,tv,(.Q pb 0),x3,(.Q rb 0),x5,(.I (t.length+1:Nat)),x7,x8,(.I (v:Nat)),bS,cE,aV,aR,aS,aQ,aW,aX,aU,bA,bP,bQ,bO,bK,aY,bC,bE,bG,bH,bI,bJ,bM,bN,bU,cK,cL,cD,bV,bX,bY,b9,cA,cF,cM,cO,cP,cT,dB,dE,dF,cU,cV,cW,cY,dJ,dG,dH,cZ,dP,dS,dQ,dX,eG,eH,eM,eN,eO,eP,eU,eV,eW,fF,fG,fH,fI,fJ,fK,fL,fM,fN,fO,fP,fQ] H1=some (r,H')/\Ig H0 {q with next:=oN t} H' r:=by
 intro k0;have h5:t.length<=5:=by
  unfold kC at hr;rw[aR2] at hr;have:=of_decide_eq_true hr.2;omega
 induction k0 with
 |zero=>
  intro v k H1 nv1 us hq hi hk hL he1 hw1 hn1 hnew hwr;intros;obtain⟨k,rfl⟩:=aB k U
  obtain rfl:v=t.length+1:=U
  have e:decide (((t.length+1:Nat):Int)<((t.length+1:Nat):Int))=false:=by simp
  have hrows:Rows H1 nv1 (oN t):=hwr.Oz hn1.rs;have hb':H1[pb]? =some (plB {q with next:=oN t} ev1 wv1 nv1):=hL.blk
  have l11:=lC hb';have hqel:q.edges.length<=5:=by rw[hqe];simp[xN];exact h5
  have hpv:PV H1 {q with next:=oN t} ev1 wv1 nv1:=⟨he1.rs,hw1.rs,hrows,by show q.edges.length<=_;omega,by show q.weights.length<=_;omega,by show(oN t).length<=_;unfold oN;rw[aKB];omega⟩
  have hrl:=(aRU.mp hL.res).1;have hall:=hpv.Db;have st:stN 11 (.Q rb 0) (plV {q with next:=oN t} ev1 wv1 nv1) H1=some (undef,H1.set rb (plB {q with next:=oN t} ev1 wv1 nv1)):=by
   have e1:(plV {q with next:=oN t} ev1 wv1 nv1).cells.toList=plC {q with next:=oN t} ev1 wv1 nv1:=rfl
   rw[mA 11 _ _ _ rfl,hL.res,e1];unfold plZ;exact oK _ _ _ _ _ _ aC (by simp[plC]) hall
  have l2:=lC (aR0 (a:=plB {q with next:=oN t} ev1 wv1 nv1) hrl)
  have kp: ∀(b:Nat)(cs:List Value)(e:TypeId),H1[b]? =some (.cells cs e .row)->(H1.set rb (plB {q with next:=oN t} ev1 wv1 nv1))[b]? =H1[b]? :=λb cs e hb=>by
   refine aRV λhh=> ?_
   subst hh;rw[hL.res] at hb;simp[plZ] at hb
  have x2:Ext H0 (H1.set rb (plB {q with next:=oN t} ev1 wv1 nv1)):=pU hL.ext hL.lr
  have hpv2:PV (H1.set rb (plB {q with next:=oN t} ev1 wv1 nv1)) {q with next:=oN t} ev1 wv1 nv1:=by
   refine⟨(he1.eY λb hb=> ?_).rs,(hw1.eY λb hb=> ?_).rs,(hwr.Df λb cs hb=>kp b cs _ hb).Oz (hn1.eY λb hb=> ?_).rs,hpv.be,hpv.bw,hpv.bn⟩
   ·obtain⟨cs,hc⟩:=he1.blk hb
    exact kp b cs _ hc
   ·obtain⟨cs,hc⟩:=hw1.blk hb
    exact kp b cs _ hc
   ·obtain⟨cs,hc⟩:=hn1.blk hb
    exact kp b cs _ hc
  rw[dR,Zu];simp only[gsR,e];rw[aJA];simp only[gsR,l11,st,l2]
  exact⟨_,_,rfl,ev1,wv1,nv1,rfl,x2,hpv2⟩
 |succ k0 ih=>
  intro v k H1 nv1 us hq hi hk hL he1 hw1 hn1 hnew hwr;intros;obtain⟨k,rfl⟩:=aB k U
  have e:decide ((v:Int)<((t.length+1:Nat):Int))=true:=aSE U
  have e3:=aA (i:=v) U
  rw[dR,Zu];simp only[gsR,e];refine aKW (pb:=pb) (rb:=rb) (Q:=Ig H0 {q with next:=oN t}) hr hg (ht.ext hL.ext) (v:=v) U U hm2 (λH2 u x2 hu hun=> ?_) (t.length+1) 0 m H1 _ U U U (Fr.kO _ _) (Rw.kP (el:=inC)) (New.mT _) ..
  intros;have hL2:=hL.aKQ x2;have l10:=eC hL2.blk 10 _ rfl;have hn2:Rw sC 25 1 H2 nv1 us:=hn1.eY λb hb=>x2.2 b (hn1.gU hb) id
  have hwr2:=hwr.Df (H':=H2) λb cs hb=>x2.2 b (aRU.mp hb).1 id
  have he2:=he1.eY (H':=H2) λb hb=>x2.2 b (he1.gU hb) id
  have hw2:=hw1.eY (H':=H2) λb hb=>x2.2 b (hw1.gU hb) id
  have hul:us.length<=10:=by have:=hwr.len;simp at this;omega
  obtain⟨nv2,H3,H4,r1,r2,r3,r4,r5,r6,r7⟩:=C8 (by':=24) (H0:=H0) (b:=pb) (j:=10) Bd Hl aC (sE hu) hL2.blk (by show 10<11;omega) hn2 hnew hL.lp hL2.ext (iE (n:=1000) aC U)
  have bl:dT 25 1 1 [.slice none 0 0] [(0,u)] H2=some (.slice (some ⟨H2.length,0,none⟩) 1 1,H2++[.cells (sC (sE hu)) 25 .row]):=by
   have h0:u.cells= #[u]:=(sE hu).2.2;unfold dT;have:Instr.fill (λi=>some (i*1,1)) (List.replicate 1 [Value.slice none 0 0]).flatten.toArray [(0,u)]=some #[u]:=by
    simp[Instr.fill,h0]
   rw[this];rfl
  have hL4:LA H0 H4 pb rb q ev1 wv1 nv2:=⟨r5,r6,Pk r7 hL2.res hL.ne,hL.ne,hL.lp,hL.lr⟩;have w4:=(hwr2.Z9 (s:=sE hu) hu).Df (H':=H4) λb cs hb=>by
   have hbp:b≠pb:=λhh=>by
    subst hh;rw[hL2.blk] at hb;simp[plB] at hb
   rw[hb];exact r7 b _ hbp (λcs' hh=>by cases hh) hb
  unfold N9;simp only[gsR,l10,bl,r1,r2,cR,e3];refine ih (v+1) k H4 nv2 _ U U U hL4 (Rw.Bc he2 r7 hL2.blk aC) (Rw.Bc hw2 r7 hL2.blk aC) r3 r4 ?_ ..
  have hrs:(List.range (v+1)).map (Ih t)=(List.range v).map (Ih t)++[Ih t v]:=by rw[aSt,List.map_append];rfl
  exact hrs▸w4
theorem aKU {q:PlanD}{ws:List Int}{nv0:Value}(hr:kC t=true)(hg:TG t)(ht:Is H0 tv t)(hw0:Is H0 wv ws)(hwl:ws.length<=1000)(hm:500<m)(hm2:m<=72057594037927936)(hqe:q.edges=xN t)(hqw:q.weights=ws):
  ∀(k0 v k:Nat)(H1:aF)(ev1:Value),t.length-v=k0->v<=t.length->k0<k->LA H0 H1 pb rb q ev1 wv nv0->Ew H1 ev1 ((List.range v).map λi=>(t.getD i 0,((i+1:Nat):Int)))->New H0 ev1-> ∀(x0 x3 x5 x8 x9 bS cE aV aR aS aQ aW aX aU bA bP bQ bO bK aY bC bE bG bH bI bJ bM bN bU cK cL cD bV bX bY b9 cA cF cM cO cP cT dB dE dF cU cV cW cY dJ dG dH cZ dP dS dQ dX eG eH eM eN eO eP eU eV eW fF fG fH fI fJ fK fL fM fN fO fP fQ:Value),
  ∃H' r,aM k (aN prog (lvl prog cN m) (aM m) N6) (Oa (lvl prog cN m) (aM m)) [x0,tv,(.Q pb 0),x3,(.Q rb 0),x5,(.I (t.length+1:Nat)),(.I (v+1:Nat)),x8,x9,bS,cE,aV,aR,aS,aQ,aW,aX,aU,bA,bP,bQ,bO,bK,aY,bC,bE,bG,bH,bI,bJ,bM,bN,bU,cK,cL,cD,bV,bX,bY,b9,cA,cF,cM,cO,cP,cT,dB,dE,dF,cU,cV,cW,cY,dJ,dG,dH,cZ,dP,dS,dQ,dX,eG,eH,eM,eN,eO,eP,eU,eV,eW,fF,fG,fH,fI,fJ,fK,fL,fM,fN,fO,fP,fQ] H1=some (r,H')/\Ig H0 {q with next:=oN t} H' r:=by
 intro k0;have h5:t.length<=5:=by
  unfold kC at hr;rw[aR2] at hr;have:=of_decide_eq_true hr.2;omega
 induction k0 with
 |zero=>
  intro v k H1 ev1 hq hi hk hL he1 hen;intros;obtain⟨k,rfl⟩:=aB k U
  obtain rfl:v=t.length:=U
  have e:decide (((t.length+1:Nat):Int)<((t.length+1:Nat):Int))=false:=by simp
  have l8:=eC hL.blk 8 _ rfl;obtain⟨wv1,H2,H3,r1,r2,r3,r4,r5,r6,r7⟩:=aKR (by':=8) (H0:=H0) gV pR aC hL.blk (show 8<11 by omega) (Rw.kP (el:=inC) (e:=3) (sz:=1)) (hw0.ext hL.ext) (New.mT _) hL.lp hL.ext (iE (n:=100000) aC (by simp;omega))
  rw[List.nil_append] at r3;have hL3:LA H0 H3 pb rb q ev1 wv1 nv0:=⟨r5,r6,Pk r7 hL.res hL.ne,hL.ne,hL.lp,hL.lr⟩;have he3:=Rw.Bc he1 r7 hL.blk aC
  have st:=N0 (q':=q) (ev':=ev1) (wv':=wv1) (nv':= .slice none 0 0) (j:=10) (v:= .slice none 0 0) hL3.blk rfl rfl U rfl
  obtain⟨H4,hH4⟩:=aD (H3.set pb (plB q ev1 wv1 (.slice none 0 0)));rw[<-hH4] at st;have other: ∀b,b≠pb->H4[b]? =H3[b]? :=λb hb=>by rw[hH4];exact aRV (Ne.symm hb)
  have nrow: ∀(b:Nat)(cs:List Value)(e:TypeId),H3[b]? =some (.cells cs e .row)->b≠pb:=λb cs e hb hh=>by
   subst hh;rw[hL3.blk] at hb;simp[plB] at hb
  have hL4:LA H0 H4 pb rb q ev1 wv1 (.slice none 0 0):=⟨by rw[hH4];exact pU r5 hL.lp,by rw[hH4];exact aR0 (aRU.mp hL3.blk).1,by rw[other rb hL.ne];exact hL3.res,hL.ne,hL.lp,hL.lr⟩
  have he4:Ew H4 ev1 (xN t):=he3.eY λb hb=>by
   obtain⟨cs,hc⟩:=he3.blk hb;exact other b (nrow b cs _ hc)
  have hw4:Iw H4 wv1 ws:=r3.eY λb hb=>by
   obtain⟨cs,hc⟩:=r3.blk hb;exact other b (nrow b cs _ hc)
  rw[dR,Zt];simp only[gsR,e];rw[aJz];simp only[gsR,l8,r1,r2,st];exact aKV hr hg ht hm hm2 hqe (by rw[hqw];omega) (t.length+1) 0 m H4 (.slice none 0 0) [] U U U hL4 (by rw[hqe];exact he4) (by rw[hqw];exact hw4) Rw.kP (New.mT _) ⟨rfl,λj s xs h=>by simp at h⟩ ..
 |succ k0 ih=>
  intro v k H1 ev1 hq hi hk hL he1 hen;intros;obtain⟨k,rfl⟩:=aB k U
  have e:decide (((v+1:Nat):Int)<((t.length+1:Nat):Int))=true:=aSE U
  have e3:IntKind.i64.wrap (((v+1:Nat):Int)+1)=((v+1+1:Nat):Int):=by rw[dL U U];omega
  have e4:IntKind.i64.wrap (((v+1:Nat):Int)-1)=((v:Nat):Int):=by rw[dL U U];omega
  have l1:=eC hL.blk 1 _ rfl;obtain⟨x,hx⟩: ∃x,t[v]? =some x:=⟨_,aRW U⟩
  obtain⟨b,o,g1,_,g3⟩:=(ht.ext hL.ext).fS gV hx .i64;have g4:ld1 (.Q b o) H1=some (.I x,H1):=(g3 H1 rfl).2.1 0 _ rfl;have be:=bEd x ((v+1:Nat):Int);obtain⟨ev2,H2,H3,r1,r2,r3,r4,r5,r6,r7⟩:=C8 (by':=16) (H0:=H0) (b:=pb) (j:=1) o7 Ba aC (x,((v+1:Nat):Int)) hL.blk (by show 1<11;omega) he1 hen hL.lp hL.ext (iE (n:=1000) aC (by simp;omega))
  have hL3:LA H0 H3 pb rb q ev2 wv nv0:=⟨r5,r6,Pk r7 hL.res hL.ne,hL.ne,hL.lp,hL.lr⟩;rw[dR,Zt];simp only[gsR,e,l1,iC,e4,g1,g4,be,aJt,r1,r2,cR,e3];refine ih (v+1) k H3 ev2 U U U hL3 ?_ r4 ..
  rw[aSt,List.map_append];simp only[aSp,List.map_nil];rw[xM hx];exact r3
theorem aKS (hp:PV H p ev wv nv)(hwl:p.weights.length<=1000)(ht:Is H tv t)(hr:kC t=true)(h1:1<=t.length)(hm:600<m)(hm2:m<=72057594037927936):
  ∃H' r,lvl prog cN m (.func 32) [plV p ev wv nv,tv] H=some (r,H')/\Ig H (sX p t) H' r:=by
 have hg:=aAy hr h1;have h5:t.length<=5:=by
  unfold kC at hr;rw[aR2] at hr;have:=of_decide_eq_true hr.2;omega
 obtain⟨Ha,hHa⟩:=aD (H++[plB p ev wv nv]);have xa:Ext H Ha:=by rw[hHa];exact Fr.app _ _ _
 have ba:Ha[H.length]? =some (plB p ev wv nv):=by rw[hHa];exact fA _ _
 obtain⟨Hb,hHb⟩:=aD (Ha++[plZ]);have xb:Ext Ha Hb:=by rw[hHb];exact Fr.app _ _ _
 have bb:Hb[Ha.length]? =some plZ:=by rw[hHb];exact fA _ _
 have xab:=xa.tr xb;have hra:=aAv (ht.ext xab) (m:=m-1) U U
 rw[hr] at hra;have hlen:=(ht.ext xab).gW;have d0:((t.length:Int)==0)=false:=by simp;exact λh=>by rw[h] at h1;simp at h1
 have e1:IntKind.i64.wrap ((t.length:Int)+1)=((t.length+1:Nat):Int):=by rw[dL U U];omega
 have bpl:=eS ba xb;have s1:=N0 (q':={p with nodes:=((t.length+1:Nat):Int)}) (ev':=ev) (wv':=wv) (nv':=nv) (j:=0) (v:= .I (t.length+1:Nat)) bpl rfl rfl U rfl
 obtain⟨Hc,hHc⟩: ∃Hc,Hc=Hb.set H.length (plB {p with nodes:=((t.length+1:Nat):Int)} ev wv nv):=⟨_,rfl⟩;rw[<-hHc] at s1;have bc:Hc[H.length]? =some (plB {p with nodes:=((t.length+1:Nat):Int)} ev wv nv):=by rw[hHc];exact aR0 (aRU.mp bpl).1
 have s2:=N0 (q':=sX p t) (ev':= .slice none 0 0) (wv':=wv) (nv':=nv) (j:=1) (v:= .slice none 0 0) bc rfl rfl U rfl
 obtain⟨Hd,hHd⟩:=aD (Hc.set H.length (plB (sX p t) (.slice none 0 0) wv nv));rw[<-hHd] at s2;have bd:Hd[H.length]? =some (plB (sX p t) (.slice none 0 0) wv nv):=by rw[hHd];exact aR0 (aRU.mp bc).1
 have hne:Ha.length≠H.length:=by rw[hHa];simp
 have hL:LA H Hd H.length Ha.length (sX p t) (.slice none 0 0) wv nv:=by
  refine⟨?_,bd,?_,hne,aRZ _,xa.1⟩
  ·rw[hHd,hHc];exact pU (pU xab (aRZ _)) (aRZ _)
  ·rw[hHd,aRV (Ne.symm hne),hHc,aRV (Ne.symm hne)]
   exact bb
 refine gN (gX rfl rfl) U ?_
 rw[aJC];simp only[gsR,mC,<-hHa,Bf,<-hHb,hra,hlen,d0,cR,e1,s1,s2];have:=aKU (q:=sX p t) (nv0:=nv) hr hg ht hp.w hwl (m:=m-1) U U rfl rfl t.length 0 (m-1) Hd (.slice none 0 0) U U U hL Rw.kP (New.mT _)
 exact this ..
end
end Go.Proofs.YtkeilicinggjmaaGreatDoor
noncomputable section
namespace Go.Proofs.YtkeilicinggjmaaGreatDoor
open Go.Proofs.Tryz
open Go.Abs Go.Abs.M
variable (O:aH)(L:LV)(k:KV)(N P Q R S T U V W X Y Z a b c d e f g i j l m n o p q r s t u v w x y z A B C D E F G H I J zz zy zx zw zv zu zt zs zr zq zp zo zn zm zl zk zj zi zh zg zf ze zd zc zb za yz yy yx yw yv yu yt ys yr yq yp yo yn ym yl yk yj yi yh yg yf ye yd yc yb ya xz xy xx xw xv xu xt xs xr xq xp xo xn xm xl xk xj xi xh xg xf xe xd xc xb xa wz wy wx ww wv wu wt ws wr wq wp wo wn wm wl wk wj wi wh wg wf we wd wc wb wa vz:Value)(h:aF)
def Pu:Code:=bR [1,1,1,1,0,1,0,0,1,1,0,0,1,1,0,1,0,0] (cG prog 11)
def Py:KV:=(dY 2 (eK prog O L (bR [1,1,1,1,0,1,0,0,1,1,0,0,1,1,1] (cG prog 11)) (dY 1 (eK prog O L (bR [1,1,1,1,0,1,0,0,1,1,1] (cG prog 11)) k))))
def Pw (O:aH)(L:LV) (k:KV) (a b c d e f g i j l m n o p q r s t u v w x y z A B C D E F G H I J zz zy zx zw zv zu zt zs zr zq zp zo zn zm zl zk zj zi zh zg zf ze zd zc zb za yz yy yx yw yv yu yt ys yr yq yp yo yn ym yl yk yj yi yh yg yf ye yd yc yb ya xz xy xx xw xv xu xt xs xr xq xp xo xn xm xl xk xj xi xh xg xf xe xd xc xb xa wz wy wx ww wv wu wt ws wr wq wp wo:Value) (h:aF):OV:=ob (aG (aP f) h) λaa h=>ob (aG (aJ 13 aa) h) λab h=>ob (ld1 ab h) λac h=>ifB (true) (ob (ldN 3 j h) λad h=>ifB (true) (ob (dT 94 3 1 [(.I 0),(.slice none 0 0),(.pointer none)] [(0,ad)] h) λae h=>ob (app 94 3 40 ac ae h) λaf h=>ifB (true) (ob (aG (aP f) h) λag h=>ob (aG (aJ 13 ag) h) λah h=>ob (stN 1 ah af h) λai h=>ifB (true) (ob (aG (bin prog .add 3 zk (.I 1)) h) λaj h=>k .normal [a,b,c,d,e,f,g,i,j,l,m,n,o,p,q,r,s,t,u,v,w,x,y,z,A,B,C,D,E,F,G,H,I,J,zz,zy,zx,zw,zv,zu,zt,zs,zr,zq,zp,zo,zn,zm,zl,aj,zj,zi,zh,zg,zf,ze,zd,zc,zb,za,yz,yy,yx,yw,yv,yu,yt,ys,yr,yq,yp,yo,yn,ym,yl,yk,yj,yi,yh,yg,yf,f,f,aa,ab,ac,ad,ae,af,ag,ah,aj,xt,xs,xr,xq,xp,xo,xn,xm,xl,xk,xj,xi,xh,xg,xf,xe,xd,xc,xb,xa,wz,wy,wx,ww,wv,wu,wt,ws,wr,wq,wp,wo] h))))
theorem aLj:Py O L k (.exit 2) [a,b,c,d,e,f,g,i,j,l,m,n,o,p,q,r,s,t,u,v,w,x,y,z,A,B,C,D,E,F,G,H,I,J,zz,zy,zx,zw,zv,zu,zt,zs,zr,zq,zp,zo,zn,zm,zl,zk,zj,zi,zh,zg,zf,ze,zd,zc,zb,za,yz,yy,yx,yw,yv,yu,yt,ys,yr,yq,yp,yo,yn,ym,yl,yk,yj,yi,yh,yg,yf,ye,yd,yc,yb,ya,xz,xy,xx,xw,xv,xu,xt,xs,xr,xq,xp,xo,xn,xm,xl,xk,xj,xi,xh,xg,xf,xe,xd,xc,xb,xa,wz,wy,wx,ww,wv,wu,wt,ws,wr,wq,wp,wo] h=Pw O L k a b c d e f g i j l m n o p q r s t u v w x y z A B C D E F G H I J zz zy zx zw zv zu zt zs zr zq zp zo zn zm zl zk zj zi zh zg zf ze zd zc zb za yz yy yx yw yv yu yt ys yr yq yp yo yn ym yl yk yj yi yh yg yf ye yd yc yb ya xz xy xx xw xv xu xt xs xr xq xp xo xn xm xl xk xj xi xh xg xf xe xd xc xb xa wz wy wx ww wv wu wt ws wr wq wp wo h:=by kernel_rfl
theorem aAC:aN prog O L Pu k [a,b,c,d,e,f,g,i,j,l,m,n,o,p,q,r,s,t,u,v,w,x,y,z,A,B,C,D,E,F,G,H,I,J,zz,zy,zx,zw,zv,zu,zt,zs,zr,zq,zp,zo,zn,zm,zl,zk,zj,zi,zh,zg,zf,ze,zd,zc,zb,za,yz,yy,yx,yw,yv,yu,yt,ys,yr,yq,yp,yo,yn,ym,yl,yk,yj,yi,yh,yg,yf,ye,yd,yc,yb,ya,xz,xy,xx,xw,xv,xu,xt,xs,xr,xq,xp,xo,xn,xm,xl,xk,xj,xi,xh,xg,xf,xe,xd,xc,xb,xa,wz,wy,wx,ww,wv,wu,wt,ws,wr,wq,wp,wo] h=ob (aG (bin prog .lss 3 yz za) h) λaa h74=>aO aa (ob (aG (aJ 1 j) h74) λab h75=>ob (ld1 ab h75) λac h76=>ifB (true) (ob (aG (aJ 9 c) h76) λad h77=>ob (ld1 ad h77) λae h78=>ifB (true) (ob (eA prog 23 55 ae h78) λaf h79=>ob (aG (aJ 3 c) h79) λag h80=>ob (ld1 ag h80) λah h81=>ifB (true) (ob (O (.func 38) [af,ah] h81) λai h82=>ifB (chk ((ld1 ab) h82) ac&&(true)) (ob (aG (aJ 9 c) h82) λaj h83=>ob (ld1 aj h83) λak h84=>ifB (chk ((ld1 aj) h81) ak&&(true)) (ob (eA prog 23 55 ak h84) λal h85=>ob (aG (aJ 3 c) h85) λam h86=>ob (ld1 am h86) λan h87=>ifB (chk ((ld1 am) h81) an&&(true)) (ob (O (.func 39) [al,an] h87) λao h88=>ifB (chk ((ld1 ab) h88) ac&&(true)) (ob (aG (bld prog 100 [(0,ai),(1,ao)]) h88) λap h89=>ob (dT 100 2 1 [(.pointer none),(.pointer none)] [(0,ap)] h89) λaq h90=>ob (app 100 2 16 ac aq h90) λar h91=>ifB (true) (ob (aG (aJ 1 j) h91) λau h92=>ob (stN 1 au ar h92) λav h93=>ifB (true) (ob (aG (bin prog .add 3 yz (.I 1)) h93) λaw h94=>k .normal [a,b,c,d,e,f,g,i,j,l,m,n,o,p,q,r,s,t,u,v,w,x,y,z,A,B,C,D,E,F,G,H,I,J,zz,zy,zx,zw,zv,zu,zt,zs,zr,zq,zp,zo,zn,zm,zl,zk,zj,zi,zh,zg,zf,ze,zd,zc,zb,za,aw,aa,ab,ac,ad,ae,af,ag,ah,ai,aj,ak,al,am,an,ao,ap,aq,ar,au,aw,ye,yd,yc,yb,ya,xz,xy,xx,xw,xv,xu,xt,xs,xr,xq,xp,xo,xn,xm,xl,xk,xj,xi,xh,xg,xf,xe,xd,xc,xb,xa,wz,wy,wx,ww,wv,wu,wt,ws,wr,wq,wp,wo] h94)))))))))) (k (.exit 2) [a,b,c,d,e,f,g,i,j,l,m,n,o,p,q,r,s,t,u,v,w,x,y,z,A,B,C,D,E,F,G,H,I,J,zz,zy,zx,zw,zv,zu,zt,zs,zr,zq,zp,zo,zn,zm,zl,zk,zj,zi,zh,zg,zf,ze,zd,zc,zb,za,yz,aa,yx,yw,yv,yu,yt,ys,yr,yq,yp,yo,yn,ym,yl,yk,yj,yi,yh,yg,yf,ye,yd,yc,yb,ya,xz,xy,xx,xw,xv,xu,xt,xs,xr,xq,xp,xo,xn,xm,xl,xk,xj,xi,xh,xg,xf,xe,xd,xc,xb,xa,wz,wy,wx,ww,wv,wu,wt,ws,wr,wq,wp,wo] h74):=by kernel_rfl
def Pt:Code:=bR [1,1,1,1,0,1,0,0] (cG prog 11)
def Px:KV:=(dY 0 (eK prog O L (bR [1,1,1,1,1] (cG prog 11)) (eX prog Tryz.f11)))
def Pv (O:aH)(L:LV) (a b c d e f g i j l m n o p q r s t u v w x y z A B C D E F G H I J zz zy zx zw zv zu zt zs zr zq zp zo zn zm zl zk zj zi zh zg zf ze zd zc zb za yz yy yx yw yv yu yt ys yr yq yp yo yn ym yl yk yj yi yh yg yf ye yd yc yb ya xz xy xx xw xv xu xt xs xr xq xp xo xn xm xl xk xj xi xh xg xf xe xd xc xb xa wz wy wx ww wv wu wt ws wr wq wp wo:Value) (h:aF):OV:=ob (aG (aP f) h) λaa h=>ob (aG (aJ 13 aa) h) λab h=>ob (ld1 ab h) λac h=>ob (aG (aZ ac) h) λad h=>ob (O (.func 40) [ad] h) λae h=>ob (aG (aP f) h) λaf h=>ob (aG (aJ 0 af) h) λag h=>ob (stN 1 ag ae h) λah h=>ob (aG (aP f) h) λai h=>ob (aG (aJ 13 ai) h) λaj h=>ob (ld1 aj h) λak h=>ifB (true) (ob (aG (aZ ak) h) λal h=>ob (aG (aJ 2 c) h) λam h=>ob (ld1 am h) λan h=>ifB (true) (ob (aG (aP f) h) λao h=>ob (aG (aJ 13 ao) h) λap h=>ob (ld1 ap h) λaq h=>ifB (true) (ob (aG (aZ aq) h) λar h=>ob (aG (aJ 2 c) h) λau h=>ob (ld1 au h) λav h=>ifB (true) (ob (aG (bin prog .mul 3 ar av) h) λaw h=>ob (aG (aJ 3 c) h) λax h=>ob (ld1 ax h) λay h=>ifB (true) (ob (aG (bin prog .mul 3 aw ay) h) λaz h=>ob (O (.func 41) [al,an,az] h) λba h=>ifB (true) (ob (aG (aP f) h) λbb h=>ob (aG (aJ 15 bb) h) λbc h=>ob (stN 1 bc ba h) λbd h=>ifB (true) (some (aL [f],h))))))))
theorem aLi:Px O L (.exit 0) [a,b,c,d,e,f,g,i,j,l,m,n,o,p,q,r,s,t,u,v,w,x,y,z,A,B,C,D,E,F,G,H,I,J,zz,zy,zx,zw,zv,zu,zt,zs,zr,zq,zp,zo,zn,zm,zl,zk,zj,zi,zh,zg,zf,ze,zd,zc,zb,za,yz,yy,yx,yw,yv,yu,yt,ys,yr,yq,yp,yo,yn,ym,yl,yk,yj,yi,yh,yg,yf,ye,yd,yc,yb,ya,xz,xy,xx,xw,xv,xu,xt,xs,xr,xq,xp,xo,xn,xm,xl,xk,xj,xi,xh,xg,xf,xe,xd,xc,xb,xa,wz,wy,wx,ww,wv,wu,wt,ws,wr,wq,wp,wo] h=Pv O L a b c d e f g i j l m n o p q r s t u v w x y z A B C D E F G H I J zz zy zx zw zv zu zt zs zr zq zp zo zn zm zl zk zj zi zh zg zf ze zd zc zb za yz yy yx yw yv yu yt ys yr yq yp yo yn ym yl yk yj yi yh yg yf ye yd yc yb ya xz xy xx xw xv xu xt xs xr xq xp xo xn xm xl xk xj xi xh xg xf xe xd xc xb xa wz wy wx ww wv wu wt ws wr wq wp wo h:=by kernel_rfl
theorem aAB:aN prog O L Pt k [a,b,c,d,e,f,g,i,j,l,m,n,o,p,q,r,s,t,u,v,w,x,y,z,A,B,C,D,E,F,G,H,I,J,zz,zy,zx,zw,zv,zu,zt,zs,zr,zq,zp,zo,zn,zm,zl,zk,zj,zi,zh,zg,zf,ze,zd,zc,zb,za,yz,yy,yx,yw,yv,yu,yt,ys,yr,yq,yp,yo,yn,ym,yl,yk,yj,yi,yh,yg,yf,ye,yd,yc,yb,ya,xz,xy,xx,xw,xv,xu,xt,xs,xr,xq,xp,xo,xn,xm,xl,xk,xj,xi,xh,xg,xf,xe,xd,xc,xb,xa,wz,wy,wx,ww,wv,wu,wt,ws,wr,wq,wp,wo] h=ob (aG (bin prog .lss 3 zk zl) h) λaa h=>aO aa (ob (aG (aT 1 zm zk) h) λab h=>ob (ld1 ab h) λac h=>ob (aG (aJ 8 c) h) λad h=>ob (ld1 ad h) λae h=>ob (O (.func 36) [ae] h) λaf h=>ob (aG (bld prog 94 [(0,ac),(2,af)]) h) λag h=>ob (cX 94 [(.I 0),(.slice none 0 0),(.pointer none)] .fix h) λah h=>ob (stN 3 ah ag h) λai h=>ob (aG (aJ 2 c) h) λaj h=>ob (ld1 aj h) λak h=>L (aN prog O L Pu) (Py O L k) [a,b,c,d,e,f,g,ac,ah,l,m,n,o,p,q,r,s,t,u,v,w,x,y,z,A,B,C,D,E,F,G,H,I,J,zz,zy,zx,zw,zv,zu,zt,zs,zr,zq,zp,zo,zn,zm,zl,zk,aa,ab,ac,ac,ad,ae,af,ag,aj,ak,(.I 0),yy,yx,yw,yv,yu,yt,ys,yr,yq,yp,yo,yn,ym,yl,yk,yj,yi,yh,yg,yf,ye,yd,yc,yb,ya,xz,xy,xx,xw,xv,xu,xt,xs,xr,xq,xp,xo,xn,xm,xl,xk,xj,xi,xh,xg,xf,xe,xd,xc,xb,xa,wz,wy,wx,ww,wv,wu,wt,ws,wr,wq,wp,wo] h) (k (.exit 0) [a,b,c,d,e,f,g,i,j,l,m,n,o,p,q,r,s,t,u,v,w,x,y,z,A,B,C,D,E,F,G,H,I,J,zz,zy,zx,zw,zv,zu,zt,zs,zr,zq,zp,zo,zn,zm,zl,zk,aa,zi,zh,zg,zf,ze,zd,zc,zb,za,yz,yy,yx,yw,yv,yu,yt,ys,yr,yq,yp,yo,yn,ym,yl,yk,yj,yi,yh,yg,yf,ye,yd,yc,yb,ya,xz,xy,xx,xw,xv,xu,xt,xs,xr,xq,xp,xo,xn,xm,xl,xk,xj,xi,xh,xg,xf,xe,xd,xc,xb,xa,wz,wy,wx,ww,wv,wu,wt,ws,wr,wq,wp,wo] h):=by kernel_rfl
theorem aLk:bT prog O L 11 [N,P] h=ob (cX 28 (Value.cells N).toList .fix h) λaa h=>ob (ldN 11 aa h) λab h=>ob (O (.func 34) [ab] h) λac h=>ob (aG (bin prog .neq 51 ac (.int .u16 0)) h) λad h=>ob (gd ad false (cI P) h) λae h=>ob (gd ad false (aG (bin prog .lss 3 ae (.I 0))) h) λaf h=>ob (aG (cQ ad (.bool true) af) h) λag h=>ob (gd ag false (cI P) h) λah h=>ob (gd ag false (aG (aJ 0 aa)) h) λai h=>ob (gd ag false (ld1 ai) h) λaj h=>ob (gd ag false (aG (bin prog .geq 3 ah aj)) h) λak h=>ob (aG (cQ ag (.bool true) ak) h) λal h=>aO al (some (aL [(.pointer none)],h)) (ob (ldN 11 aa h) λam h=>ifB (true) (ob (aG (aJ 2 aa) h) λan h=>ob (ld1 an h) λao h=>ifB (true) (ob (aG (aJ 4 aa) h) λap h=>ob (ld1 ap h) λaq h=>ifB (true) (ob (O (.func 35) [ao,aq] h) λar h=>ifB (chk ((ldN 11 aa) h) am&&(true)) (ob (aG (bld prog 89 [(1,am),(2,P),(4,ar)]) h) λau h=>ob (cX 89 (Value.cells au).toList .fix h) λav h=>ob (aG (aP av) h) λaw h=>ob (aG (aJ 13 aw) h) λax h=>ob (ld1 ax h) λay h=>ifB (true) (ob (aG (aJ 8 aa) h) λaz h=>ob (ld1 az h) λba h=>ifB (true) (ob (O (.func 36) [ba] h) λbb h=>ifB (chk ((ld1 ax) h) ay&&(true)) (ob (aG (bld prog 94 [(0,P),(2,bb)]) h) λbc h=>ob (dT 94 3 1 [(.I 0),(.slice none 0 0),(.pointer none)] [(0,bc)] h) λbd h=>ob (app 94 3 40 ay bd h) λbe h=>ifB (true) (ob (aG (aP av) h) λbf h=>ob (aG (aJ 13 bf) h) λbg h=>ob (stN 1 bg be h) λbh h=>ifB (true) (ob (ldN 11 aa h) λbi h=>ob (O (.func 37) [bi,P] h) λbj h=>ob (aG (aZ bj) h) λbk h=>L (aN prog O L Pt) (Px O L) [N,P,aa,undef,(.pointer none),av,undef,undef,undef,ab,ac,ad,ad,ae,af,ag,ag,ah,ai,aj,ak,al,am,P,an,ao,ap,aq,ar,au,av,av,av,aw,ax,ay,P,az,ba,bb,bc,bd,be,bf,bg,bi,P,bj,bk,(.I 0),undef,undef,undef,undef,undef,undef,undef,undef,undef,undef,undef,undef,undef,undef,undef,undef,undef,undef,undef,undef,undef,undef,undef,undef,undef,undef,undef,undef,undef,undef,undef,undef,undef,undef,undef,undef,undef,undef,undef,undef,undef,undef,undef,undef,undef,undef,undef,undef,undef,undef,undef,undef,undef,undef,undef,undef,undef,undef,undef,undef,undef,undef,undef,undef,undef,undef,undef,undef,undef,undef,undef,undef,undef,undef] h)))))))))):=by kernel_rfl
theorem aAH:bT prog O L 18 [N,P] h=ob (cX 54 (Value.cells P).toList .fix h) λaa h=>ob (aG (aJ 0 aa) h) λab h=>ob (ld1 ab h) λac h=>ifB (true) (ob (aG (aP N) h) λad h=>ob (aG (aJ 12 ad) h) λae h=>ob (ld1 ae h) λaf h=>ifB (true) (ob (aG (bin prog .neq 3 ac af) h) λag h=>ob (gd ag false (aG (aJ 1 aa)) h) λah h=>ob (gd ag false (ld1 ah) h) λai h=>ifB (true) (ob (gd ag false (aG (bin prog .lss 3 ai (.I 0))) h) λaj h=>ob (aG (cQ ag (.bool true) aj) h) λak h=>ob (gd ak false (aG (aJ 1 aa)) h) λal h=>ob (gd ak false (ld1 al) h) λam h=>ifB (true) (ob (gd ak false (cI N) h) λan h=>ob (gd ak false (aG (aP an)) h) λao h=>ob (gd ak false (aG (aJ 1 ao)) h) λap h=>ob (gd ak false (aG (aJ 0 ap)) h) λaq h=>ob (gd ak false (ld1 aq) h) λar h=>ifB (true) (ob (gd ak false (aG (bin prog .geq 3 am ar)) h) λau h=>ob (aG (cQ ak (.bool true) au) h) λav h=>ob (gd av false (aG (aJ 1 aa)) h) λaw h=>ob (gd av false (ld1 aw) h) λax h=>ifB (true) (ob (gd av false (cI N) h) λay h=>ob (gd av false (aG (aP ay)) h) λaz h=>ob (gd av false (aG (aJ 12 az)) h) λba h=>ob (gd av false (ld1 ba) h) λbb h=>ifB (true) (ob (gd av false (aG (bin prog .eql 3 ax bb)) h) λbc h=>ob (aG (cQ av (.bool true) bc) h) λbd h=>aO bd (some (aL [(.int .u16 1)],h)) (ob (aG (aP N) h) λbe h=>ob (aG (aJ 14 be) h) λbf h=>ob (ld1 bf h) λbg h=>ifB (true) (ob (ldN 4 aa h) λbh h=>ifB (true) (ob (O (.func 63) [bg,bh] h) λbi h=>ifB (true) (some (aL [bi],h)))))))))))):=by kernel_rfl
theorem aLK:bT prog O L 42 [N] h=ob (aG (aP N) h) λaa h=>ob (aG (aJ 14 aa) h) λab h=>ob (ld1 ab h) λac h=>some (aL [ac],h):=by kernel_rfl
theorem aLu:bT prog O L 141 [N,P] h=ob (O (.func 118) [N,P] h) λaa h=>ob (aG (un prog .not aa) h) λab h=>aO ab (some (aL [(.I 0)],h)) (ob (aG (aP N) h) λac h=>ob (aG (aJ 0 ac) h) λad h=>ob (aG (sJ 3 1 ad P) h) λae h=>ob (ld1 ae h) λaf h=>ob (aG (aZ af) h) λag h=>some (aL [ag],h)):=by kernel_rfl
def P1:Code:=bR [1,1,1,1,0,1,0,0] (cG prog 13)
def P2:KV:=(dY 0 (eK prog O L (bR [1,1,1,1,1] (cG prog 13)) (eX prog Tryz.f13)))
def Ii (O:aH)(L:LV) (a b c d e f g i j l m n o p q r s t u v w x y z A B C D E F G H I J zz zy zx zw zv zu zt zs zr zq zp zo zn zm zl zk zj zi zh zg zf ze zd zc:Value) (h:aF):OV:=ob (ld1 b h) λaa h=>ob (aG (aP aa) h) λab h=>ob (aG (aJ 16 ab) h) λac h=>ob (ld1 ac h) λad h=>ob (aG (bin prog .add 3 ad (.I 1)) h) λae h=>ob (aG (aP aa) h) λaf h=>ob (aG (aJ 16 af) h) λag h=>ob (stN 1 ag ae h) λah h=>ob (ld1 b h) λai h=>ifB (true) (ob (aG (aP ai) h) λaj h=>ob (aG (aJ 16 aj) h) λak h=>ob (ld1 ak h) λal h=>ifB (true) (ob (ld1 b h) λam h=>ifB (true) (ob (aG (aP am) h) λan h=>ob (aG (aJ 1 an) h) λao h=>ob (aG (aJ 6 ao) h) λap h=>ob (ld1 ap h) λaq h=>ifB (true) (ob (aG (bin prog .rem 3 al aq) h) λar h=>ob (aG (bin prog .eql 3 ar (.I 0)) h) λau h=>aO au (ob (ld1 b h) λav h=>ob (O (.func 53) [av,e] h) λaw h=>ob (ld1 d h) λax h=>some (aL [ax],h)) (ob (ld1 d h) λay h=>some (aL [ay],h))))))
theorem aLq:P2 O L (.exit 0) [a,b,c,d,e,f,g,i,j,l,m,n,o,p,q,r,s,t,u,v,w,x,y,z,A,B,C,D,E,F,G,H,I,J,zz,zy,zx,zw,zv,zu,zt,zs,zr,zq,zp,zo,zn,zm,zl,zk,zj,zi,zh,zg,zf,ze,zd,zc] h=Ii O L a b c d e f g i j l m n o p q r s t u v w x y z A B C D E F G H I J zz zy zx zw zv zu zt zs zr zq zp zo zn zm zl zk zj zi zh zg zf ze zd zc h:=by kernel_rfl
theorem aAE:aN prog O L P1 k [a,b,c,d,e,f,g,i,j,l,m,n,o,p,q,r,s,t,u,v,w,x,y,z,A,B,C,D,E,F,G,H,I,J,zz,zy,zx,zw,zv,zu,zt,zs,zr,zq,zp,zo,zn,zm,zl,zk,zj,zi,zh,zg,zf,ze,zd,zc] h=ob (aG (bin prog .lss 3 z y) h) λaa h=>aO aa (ob (aG (aT 1 x z) h) λab h=>ob (ld1 ab h) λac h=>ob (aG (bin prog .geq 3 ac (.I 0)) h) λad h=>aO ad (ob (ld1 b h) λae h=>ob (O (.func 52) [ae,z,ac,e] h) λaf h=>ob (aG (bin prog .add 3 z (.I 1)) h) λag h=>k .normal [a,b,c,d,e,z,ac,i,j,l,m,n,o,p,q,r,s,t,u,v,w,x,y,ag,aa,z,ab,ac,ac,ad,ae,z,ac,e,af,ag,zx,zw,zv,zu,zt,zs,zr,zq,zp,zo,zn,zm,zl,zk,zj,zi,zh,zg,zf,ze,zd,zc] h) (ob (aG (bin prog .add 3 z (.I 1)) h) λah h=>k .normal [a,b,c,d,e,z,ac,i,j,l,m,n,o,p,q,r,s,t,u,v,w,x,y,ah,aa,z,ab,ac,ac,ad,G,H,I,J,zz,ah,zx,zw,zv,zu,zt,zs,zr,zq,zp,zo,zn,zm,zl,zk,zj,zi,zh,zg,zf,ze,zd,zc] h)) (k (.exit 0) [a,b,c,d,e,f,g,i,j,l,m,n,o,p,q,r,s,t,u,v,w,x,y,z,aa,B,C,D,E,F,G,H,I,J,zz,zy,zx,zw,zv,zu,zt,zs,zr,zq,zp,zo,zn,zm,zl,zk,zj,zi,zh,zg,zf,ze,zd,zc] h):=by kernel_rfl
theorem aLr:bT prog O L 13 [N] h=ob (cX 30 (Value.cells N).toList .fix h) λaa h0=>ob (cX 35 [(.slice none 0 0)] .fix h0) λab h1=>ob (ld1 aa h1) λac h2=>ob (O (.func 49) [ac] h2) λad h3=>ob (ld1 aa h3) λae h4=>ifB (true) (ob (aG (aP ae) h4) λaf h5=>ob (aG (aJ 0 af) h5) λag h6=>ob (ld1 ag h6) λah h7=>ifB (true) (ob (ld1 aa h7) λai h8=>ifB (true) (ob (O (.func 51) [ai] h8) λaj h9=>ifB (chk ((ld1 ag) h9) ah&&(chk ((ld1 aa) h9) ae&&(true))) (ob (ld1 aa h9) λak h10=>ifB (chk ((ld1 aa) h8) ak&&(true)) (ob (aG (aP ak) h10) λal h11=>ob (aG (aJ 1 al) h11) λam h12=>ob (aG (aJ 5 am) h12) λan h13=>ob (ld1 an h13) λao h14=>ifB (chk ((ld1 an) h8) ao&&(true)) (ob (O (.func 50) [ah,aj,ao] h14) λap h15=>ifB (true) (ob (aG (aZ ap) h15) λaq h16=>L (aN prog O L P1) (P2 O L) [N,aa,(.slice none 0 0),ab,(.func (.func 47) #[] #[ab,aa]),undef,undef,(.func (.func 47) #[] #[ab,aa]),ac,ad,ae,af,ag,ah,ai,aj,ak,al,am,an,ao,ap,aq,(.I 0),undef,undef,undef,undef,undef,undef,undef,undef,undef,undef,undef,undef,undef,undef,undef,undef,undef,undef,undef,undef,undef,undef,undef,undef,undef,undef,undef,undef,undef,undef,undef,undef,undef,undef] h16))))))):=by kernel_rfl
theorem aLF:bT prog O L 20 [N] h=ob (aG (aP N) h) λaa h=>ob (aG (aJ 0 aa) h) λab h=>ob (aG (aJ 0 ab) h) λac h=>ob (ld1 ac h) λad h=>some (aL [ad],h):=by kernel_rfl
theorem Bh:bT prog O L 45 [N,P,Q] h=ob (cX 3 (Value.cells P).toList .fix h) λaa h=>ob (aG (aP N) h) λab h=>ob (aG (aJ 13 ab) h) λac h=>ob (ld1 ac h) λad h=>ob (slc prog 3 ad (some (.I 1)) none none h) λae h=>ob (O (.func 85) [ae,(.func (.func 86) #[] #[aa])] h) λaf h=>ob (aG (bin prog .add 3 af (.I 1)) h) λag h=>ob (aG (bin prog .eql 3 ag (.I 0)) h) λah h=>aO ah (some (aL [(.int .u16 1)],h)) (ob (O (.func 87) [Q] h) λai h=>ob (aG (ext 0 ai) h) λaj h=>ob (aG (ext 1 ai) h) λak h=>ob (cX 39 [(.int .u8 0),(.int .u8 0),(.int .u16 0),(.int .u8 0),(.int .u8 0),(.int .u32 0)] .fix h) λal h=>ob (stN 6 al aj h) λam h=>ob (aG (bin prog .neq 51 ak (.int .u16 0)) h) λan h=>aO an (some (aL [ak],h)) (ob (aG (aJ 1 al) h) λao h=>ob (ld1 ao h) λap h=>ob (eA prog 5 3 ap h) λaq h=>ob (O (.func 64) [N,ag,aq] h) λar h=>ob (aG (ext 0 ar) h) λau h=>ob (aG (ext 1 ar) h) λav h=>ob (cX 100 [(.pointer none),(.pointer none)] .fix h) λaw h=>ob (stN 2 aw au h) λax h=>ob (aG (un prog .not av) h) λay h=>aO ay (some (aL [(.int .u16 30)],h)) (ob (aG (aJ 0 al) h) λaz h=>ob (ld1 az h) λba h=>ob (aG (bin prog .eql 5 ba (.int .u8 2)) h) λbb h=>aO bb (ob (aG (aJ 0 aw) h) λbc h=>ob (ld1 bc h) λbd h=>ob (aG (aJ 2 al) h) λbe h=>ob (ld1 be h) λbf h=>ob (O (.func 88) [bd,bf] h) λbg h=>some (aL [(.int .u16 0)],h)) (ob (aG (aJ 0 al) h) λbh h=>ob (ld1 bh h) λbi h=>ob (aG (bin prog .eql 5 bi (.int .u8 3)) h) λbj h=>aO bj (ob (aG (aJ 1 aw) h) λbk h=>ob (ld1 bk h) λbl h=>ob (aG (aJ 2 al) h) λbm h=>ob (ld1 bm h) λbn h=>ob (O (.func 89) [bl,bn] h) λbo h=>some (aL [(.int .u16 0)],h)) (ob (ldN 2 aw h) λbp h=>ob (ldN 6 al h) λbq h=>ob (O (.func 90) [N,ag,bp,bq] h) λbr h=>some (aL [br],h)))))):=by kernel_rfl
theorem aLy:bT prog O L 149 [N] h=ob (aG (aP N) h) λaa h=>ob (aG (aJ 0 aa) h) λab h=>ob (ldN 2 ab h) λac h=>ob (O (.func 153) [ac] h) λad h=>some (aL [ad],h):=by kernel_rfl
theorem aLL:bT prog O L 46 [N] h=ob (aG (aP N) h) λaa h=>ob (aG (aJ 3 aa) h) λab h=>ob (ld1 ab h) λac h=>ob (O (.func 91) [ac] h) λad h=>some (aL [ad],h):=by kernel_rfl
theorem aLG:bT prog O L 35 [N,P] h=ob (aG (bin prog .lss 3 N (.I 1)) h) λaa h=>ob (gd aa false (cI N) h) λab h=>ob (gd aa false (aG (bin prog .gtr 3 ab (.I 3))) h) λac h=>ob (aG (cQ aa (.bool true) ac) h) λad h=>ob (gd ad false (cI P) h) λae h=>ob (gd ad false (aG (bin prog .lss 3 ae (.I 1))) h) λaf h=>ob (aG (cQ ad (.bool true) af) h) λag h=>ob (gd ag false (cI P) h) λah h=>ob (gd ag false (aG (bin prog .gtr 3 ah (.I 8))) h) λai h=>ob (aG (cQ ag (.bool true) ai) h) λaj h=>aO aj (some (aL [(.pointer none)],h)) (ob (aG (bld prog 167 [(2,N),(3,P)]) h) λak h=>ob (cX 167 (Value.cells ak).toList .fix h) λal h=>some (aL [al],h)):=by kernel_rfl
theorem aLH:bT prog O L 38 [N,P] h=ob (aG (bin prog .geq 55 N (.int .u64 4611686018427387904)) h) λaa h=>ob (gd aa false (cI P) h) λab h=>ob (gd aa false (aG (bin prog .lss 3 ab (.I 1))) h) λac h=>ob (aG (cQ aa (.bool true) ac) h) λad h=>ob (gd ad false (cI P) h) λae h=>ob (gd ad false (aG (bin prog .gtr 3 ae (.I 8))) h) λaf h=>ob (aG (cQ ad (.bool true) af) h) λag h=>aO ag (some (aL [(.pointer none)],h)) (ob (eA prog 3 55 P h) λah h=>ob (aG (bin prog .add 55 N ah) h) λai h=>ob (aG (bld prog 141 [(0,N),(1,ai)]) h) λaj h=>ob (aG (bld prog 143 [(0,aj)]) h) λak h=>ob (cX 143 (Value.cells ak).toList .fix h) λal h=>some (aL [al],h)):=by kernel_rfl
theorem aLI:bT prog O L 39 [N,P] h=ob (aG (bin prog .geq 55 N (.int .u64 4611686018427387904)) h) λaa h=>ob (gd aa false (cI P) h) λab h=>ob (gd aa false (aG (bin prog .lss 3 ab (.I 1))) h) λac h=>ob (aG (cQ aa (.bool true) ac) h) λad h=>ob (gd ad false (cI P) h) λae h=>ob (gd ad false (aG (bin prog .gtr 3 ae (.I 8))) h) λaf h=>ob (aG (cQ ad (.bool true) af) h) λag h=>aO ag (some (aL [(.pointer none)],h)) (ob (aG (bld prog 174 [(0,N),(2,P)]) h) λah h=>ob (cX 174 (Value.cells ah).toList .fix h) λai h=>some (aL [ai],h)):=by kernel_rfl
theorem aLJ:bT prog O L 40 [N] h=ob (aG (bin prog .lss 3 N (.I 1)) h) λaa h=>ob (gd aa false (cI N) h) λab h=>ob (gd aa false (aG (bin prog .gtr 3 ab (.I 16))) h) λac h=>ob (aG (cQ aa (.bool true) ac) h) λad h=>aO ad (some (aL [(.pointer none)],h)) (ob (lR 3 1 8 [(.I 0)] N N h) λae h=>ob (lR 3 1 8 [(.I 0)] N N h) λaf h=>ob (aG (bld prog 176 [(0,ae),(1,af)]) h) λag h=>ob (cX 176 (Value.cells ag).toList .fix h) λah h=>some (aL [ah],h)):=by kernel_rfl
theorem Qs:bT prog O L 63 [N,P] h=ob (cX 54 (Value.cells P).toList .fix h) λaa h=>ob (aG (aJ 2 aa) h) λab h=>ob (ld1 ab h) λac h=>ob (O (.func 118) [N,ac] h) λad h=>ob (aG (un prog .not ad) h) λae h=>aO ae (some (aL [(.int .u16 1)],h)) (ob (aG (aJ 2 aa) h) λaf h=>ob (ld1 af h) λag h=>ifB (true) (ob (aG (aP N) h) λah h=>ob (aG (aJ 0 ah) h) λai h=>ob (aG (sJ 3 1 ai ag) h) λaj h=>ob (ld1 aj h) λak h=>ifB (true) (ob (aG (aZ ak) h) λal h=>ob (aG (aP N) h) λam h=>ob (aG (aJ 5 am) h) λan h=>ob (ld1 an h) λao h=>ifB (true) (ob (aG (bin prog .eql 3 al ao) h) λap h=>aO ap (some (aL [(.int .u16 150)],h)) (ob (aG (aJ 2 aa) h) λaq h=>ob (ld1 aq h) λar h=>ifB (true) (ob (aG (aJ 2 aa) h) λau h=>ob (ld1 au h) λav h=>ifB (true) (ob (aG (aP N) h) λaw h=>ob (aG (aJ 0 aw) h) λax h=>ob (aG (sJ 3 1 ax av) h) λay h=>ob (ld1 ay h) λaz h=>ifB (true) (ob (ldN 4 aa h) λba h=>ifB (true) (ob (dT 54 4 1 [(.I 0),(.I 0),(.I 0),(.int .u32 0)] [(0,ba)] h) λbb h=>ob (app 54 4 32 az bb h) λbc h=>ifB (chk ((ld1 aq) h) ar&&(true)) (ob (aG (aP N) h) λbd h=>ob (aG (aJ 0 bd) h) λbe h=>ob (aG (sJ 3 1 be ar) h) λbf h=>ob (stN 1 bf bc h) λbg h=>ifB (true) (some (aL [(.int .u16 0)],h)))))))))))):=by kernel_rfl
theorem aLh:bT prog O L 118 [N,P] h=ob (aG (bin prog .geq 3 P (.I 0)) h) λaa h=>ob (gd aa true (cI P) h) λab h=>ob (gd aa true (cI N) h) λac h=>ob (gd aa true (aG (aP ac)) h) λad h=>ob (gd aa true (aG (aJ 4 ad)) h) λae h=>ob (gd aa true (ld1 ae) h) λaf h=>ob (gd aa true (aG (bin prog .lss 3 ab af)) h) λag h=>ob (aG (cQ aa ag (.bool false)) h) λah h=>some (aL [ah],h):=by kernel_rfl
theorem aLM:bT prog O L 47 [N,P,Q,R] h=ob (cX 39 (Value.cells P).toList .fix h) λaa h=>ob (ldN 6 aa h) λab h=>ob (O (.func 48) [ab] h) λac h=>ob (aG (ext 0 ac) h) λad h=>ob (aG (ext 1 ac) h) λae h=>ob (ld1 Q h) λaf h=>ifB (true) (ob (ld1 R h) λag h=>ifB (true) (ob (aG (aP ag) h) λah h=>ob (aG (aJ 13 ah) h) λai h=>ob (ld1 ai h) λaj h=>ifB (true) (ob (aG (aT 3 aj N) h) λak h=>ob (aG (aJ 0 ak) h) λal h=>ob (ld1 al h) λam h=>ifB (true) (ob (aG (bld prog 43 [(0,am),(1,ad)]) h) λan h=>ob (dT 43 2 1 [(.I 0),(.slice none 0 0)] [(0,an)] h) λao h=>ob (app 43 2 32 af ao h) λap h=>ifB (true) (ob (stN 1 Q ap h) λaq h=>ifB (true) (some (aL [],h))))))):=by kernel_rfl
theorem aLN:bT prog O L 48 [N] h=ob (cX 39 (Value.cells N).toList .fix h) λaa h0=>ob (ldN 6 aa h0) λab h1=>ob (O (.func 92) [ab] h1) λac h2=>ob (aG (un prog .not ac) h2) λad h3=>aO ad (some (aL [(.slice none 0 0),(.int .u16 1)],h3)) (ob (aG (aJ 0 aa) h3) λae h4=>ob (ld1 ae h4) λaf h5=>ob (aG (aJ 1 aa) h5) λag h6=>ob (ld1 ag h6) λah h7=>ob (dT 5 1 2 [(.int .u8 0)] [(0,af),(1,ah)] h7) λai h8=>ob (aG (aJ 2 aa) h8) λaj h9=>ob (ld1 aj h9) λak h10=>ob (O (.func 93) [ai,ak] h10) λal h11=>ob (aG (aJ 0 aa) h11) λam h12=>ob (ld1 am h12) λan h13=>ob (aG (bin prog .eql 5 an (.int .u8 1)) h13) λao h14=>aO ao (ob (aG (aJ 3 aa) h14) λap h15=>ob (ld1 ap h15) λaq h16=>ifB (true) (ob (aG (aJ 4 aa) h16) λar h17=>ob (ld1 ar h17) λau h18=>ifB (true) (ob (dT 5 1 2 [(.int .u8 0)] [(0,aq),(1,au)] h18) λav h19=>ob (app 5 1 1 al av h19) λaw h20=>ifB (true) (ob (aG (aJ 5 aa) h20) λax h21=>ob (ld1 ax h21) λay h22=>ifB (chk ((ld1 ax) h19) ay&&(true)) (ob (O (.func 94) [aw,ay] h22) λaz h23=>ifB (true) (ob (O (.func 95) [az] h23) λba h24=>ob (O (.func 93) [az,ba] h24) λbb h25=>some (aL [bb,(.int .u16 0)],h25))))))) (ob (O (.func 95) [al] h14) λbc h26=>ob (O (.func 93) [al,bc] h26) λbd h27=>some (aL [bd,(.int .u16 0)],h27))):=by kernel_rfl
def P8:Code:=bR [1,0,0,1,1,0,0,1,1,0,1,0,0] (cG prog 49)
def Qa:KV:=(dY 2 (eK prog O L (bR [1,0,0,1,1,0,0,1,1,1] (cG prog 49)) (dY 1 (eK prog O L (bR [1,0,0,1,1,1] (cG prog 49)) k))))
def Ij (O:aH)(L:LV) (k:KV) (a b c d e f g i j l m n o p q r s t u v w x y z A B C D E F G H I J zz zy zx zw zv zu zt zs zr zq zp zo zn zm zl zk zj zi zh zg zf ze zd zc zb za yz yy:Value) (h:aF):OV:=ob (aG (aP a) h) λaa h16=>ob (aG (aJ 1 aa) h16) λab h17=>ob (aG (aJ 3 ab) h17) λac h18=>ob (ld1 ac h18) λad h19=>ob (aG (bin prog .geq 3 d ad) h19) λae h20=>aO ae (ob (aG (bin prog .add 3 o (.I 1)) h20) λaf h21=>k .normal [a,b,c,d,e,f,g,i,j,l,m,n,af,p,q,r,s,t,u,v,w,x,y,z,A,B,C,D,E,F,G,H,I,d,a,aa,ab,ac,ad,ae,zt,zs,zr,zq,zp,zo,zn,zm,zl,zk,zj,zi,zh,zg,zf,ze,zd,zc,zb,za,yz,af] h21) (ob (aG (aP a) h20) λag h22=>ob (aG (aJ 14 ag) h22) λah h23=>ob (ld1 ah h23) λai h24=>ob (O (.func 97) [ai,c] h24) λaj h25=>ob (aG (ext 0 aj) h25) λak h26=>ob (aG (ext 1 aj) h26) λal h27=>ob (cX 54 [(.I 0),(.I 0),(.I 0),(.int .u32 0)] .fix h27) λam h28=>ob (stN 4 am ak h28) λan h29=>aO al (ob (aG (aP a) h29) λao h30=>ob (aG (aJ 15 ao) h30) λap h31=>ob (ld1 ap h31) λaq h32=>ifB (true) (ob (aG (aJ 1 am) h32) λar h33=>ob (ld1 ar h33) λau h34=>ifB (true) (ob (O (.func 99) [a,au] h34) λav h35=>ifB (chk ((ld1 ap) h35) aq&&(true)) (ob (ldN 4 am h35) λaw h36=>ifB (chk ((ldN 4 am) h34) aw&&(true)) (ob (O (.func 98) [aq,(.I 0),av,c,aw] h36) λax h37=>ifB (true) (ob (aG (bin prog .add 3 o (.I 1)) h37) λay h38=>k .normal [a,b,c,d,e,am,al,i,j,l,m,n,ay,p,q,r,s,t,u,v,w,x,y,z,A,B,C,D,E,F,G,H,I,d,a,aa,ab,ac,ad,ae,aj,a,ag,ah,ai,c,aj,ak,al,al,a,ao,ap,aq,a,ar,au,av,c,aw,ax,ay] h38)))))) (ob (aG (bin prog .add 3 o (.I 1)) h29) λaz h39=>k .normal [a,b,c,d,e,am,al,i,j,l,m,n,az,p,q,r,s,t,u,v,w,x,y,z,A,B,C,D,E,F,G,H,I,d,a,aa,ab,ac,ad,ae,aj,a,ag,ah,ai,c,aj,ak,al,al,zj,zi,zh,zg,zf,ze,zd,zc,zb,za,yz,az] h39))
theorem aLP:Qa O L k (.exit 2) [a,b,c,d,e,f,g,i,j,l,m,n,o,p,q,r,s,t,u,v,w,x,y,z,A,B,C,D,E,F,G,H,I,J,zz,zy,zx,zw,zv,zu,zt,zs,zr,zq,zp,zo,zn,zm,zl,zk,zj,zi,zh,zg,zf,ze,zd,zc,zb,za,yz,yy] h=Ij O L k a b c d e f g i j l m n o p q r s t u v w x y z A B C D E F G H I J zz zy zx zw zv zu zt zs zr zq zp zo zn zm zl zk zj zi zh zg zf ze zd zc zb za yz yy h:=by kernel_rfl
theorem aAJ:aN prog O L P8 k [a,b,c,d,e,f,g,i,j,l,m,n,o,p,q,r,s,t,u,v,w,x,y,z,A,B,C,D,E,F,G,H,I,J,zz,zy,zx,zw,zv,zu,zt,zs,zr,zq,zp,zo,zn,zm,zl,zk,zj,zi,zh,zg,zf,ze,zd,zc,zb,za,yz,yy] h=ob (aG (bin prog .lss 3 w v) h) λaa h=>aO aa (ob (aG (aP a) h) λab h=>ob (aG (aJ 15 ab) h) λac h=>ob (ld1 ac h) λad h=>ob (O (.func 96) [ad,(.I 0),w,c] h) λae h=>ob (aG (bin prog .add 3 d ae) h) λaf h=>ob (aG (bin prog .add 3 w (.I 1)) h) λag h=>k .normal [a,b,c,af,w,f,g,i,j,l,m,n,o,p,q,r,s,t,u,v,ag,aa,w,d,a,ab,ac,ad,w,c,ae,af,ag,J,zz,zy,zx,zw,zv,zu,zt,zs,zr,zq,zp,zo,zn,zm,zl,zk,zj,zi,zh,zg,zf,ze,zd,zc,zb,za,yz,yy] h) (k (.exit 2) [a,b,c,d,e,f,g,i,j,l,m,n,o,p,q,r,s,t,u,v,w,aa,y,z,A,B,C,D,E,F,G,H,I,J,zz,zy,zx,zw,zv,zu,zt,zs,zr,zq,zp,zo,zn,zm,zl,zk,zj,zi,zh,zg,zf,ze,zd,zc,zb,za,yz,yy] h):=by kernel_rfl
def P7:Code:=bR [1,0,0] (cG prog 49)
def P9 (O:aH)(L:LV):KV:=(dY 0 (eX prog Tryz.f49))
theorem aLO:P9 O L (.exit 0) [a,b,c,d,e,f,g,i,j,l,m,n,o,p,q,r,s,t,u,v,w,x,y,z,A,B,C,D,E,F,G,H,I,J,zz,zy,zx,zw,zv,zu,zt,zs,zr,zq,zp,zo,zn,zm,zl,zk,zj,zi,zh,zg,zf,ze,zd,zc,zb,za,yz,yy] h=some (aL [],h):=by kernel_rfl
theorem aAI:aN prog O L P7 k [a,b,c,d,e,f,g,i,j,l,m,n,o,p,q,r,s,t,u,v,w,x,y,z,A,B,C,D,E,F,G,H,I,J,zz,zy,zx,zw,zv,zu,zt,zs,zr,zq,zp,zo,zn,zm,zl,zk,zj,zi,zh,zg,zf,ze,zd,zc,zb,za,yz,yy] h=ob (aG (bin prog .lss 3 o n) h) λaa h=>aO aa (ob (aG (aP a) h) λab h=>ob (aG (aJ 13 ab) h) λac h=>ob (ld1 ac h) λad h=>ob (aG (aZ ad) h) λae h=>L (aN prog O L P8) (Qa O L k) [a,b,o,(.I 0),e,f,g,i,j,l,m,n,o,aa,o,a,ab,ac,ad,ae,(.I 0),x,y,z,A,B,C,D,E,F,G,H,I,J,zz,zy,zx,zw,zv,zu,zt,zs,zr,zq,zp,zo,zn,zm,zl,zk,zj,zi,zh,zg,zf,ze,zd,zc,zb,za,yz,yy] h) (k (.exit 0) [a,b,c,d,e,f,g,i,j,l,m,n,o,aa,q,r,s,t,u,v,w,x,y,z,A,B,C,D,E,F,G,H,I,J,zz,zy,zx,zw,zv,zu,zt,zs,zr,zq,zp,zo,zn,zm,zl,zk,zj,zi,zh,zg,zf,ze,zd,zc,zb,za,yz,yy] h):=by kernel_rfl
theorem aLQ:bT prog O L 49 [N] h=ob (aG (aP N) h) λaa h=>ob (aG (aJ 1 aa) h) λab h=>ob (aG (aJ 2 ab) h) λac h=>ob (ld1 ac h) λad h=>L (aN prog O L P7) (P9 O L) [N,undef,undef,undef,undef,undef,undef,N,aa,ab,ac,ad,(.I 0),undef,undef,undef,undef,undef,undef,undef,undef,undef,undef,undef,undef,undef,undef,undef,undef,undef,undef,undef,undef,undef,undef,undef,undef,undef,undef,undef,undef,undef,undef,undef,undef,undef,undef,undef,undef,undef,undef,undef,undef,undef,undef,undef,undef,undef,undef,undef,undef,undef] h:=by kernel_rfl
def Qc:Code:=bR [1,0,1,1,1,1,1,1,0,1,0,0,1,1,0,0,1,1,0,1,0,0] (cG prog 50)
def Qg:KV:=(dY 2 (eK prog O L (bR [1,0,1,1,1,1,1,1,0,1,0,0,1,1,0,0,1,1,1] (cG prog 50)) (dY 1 (eK prog O L (bR [1,0,1,1,1,1,1,1,0,1,0,0,1,1,1] (cG prog 50)) k))))
def Qe (O:aH)(L:LV) (k:KV) (a b c d e f g i j l m n o p q r s t u v w x y z A B C D E F G H I J zz zy zx zw zv zu zt zs zr zq zp zo zn zm zl zk zj zi zh zg zf ze zd zc zb za yz yy yx yw yv yu yt ys yr yq yp yo yn ym yl yk yj yi yh yg yf ye yd yc yb ya xz xy xx xw xv xu xt xs xr xq xp xo xn xm xl xk xj xi xh xg xf xe xd xc xb xa wz wy wx ww wv wu wt ws wr wq wp wo wn wm wl wk wj wi wh wg wf we wd:Value) (h:aF):OV:=ob (aG (aP l) h) λaa h=>ob (aG (aJ 1 aa) h) λab h=>ob (ld1 ab h) λac h=>ob (aG (bin prog .eql 23 ac o) h) λad h=>aO ad (k (.exit 0) [a,b,c,d,e,f,g,i,j,l,m,n,o,p,q,r,s,t,u,v,w,x,y,z,A,B,C,D,E,F,G,H,I,J,zz,zy,zx,zw,zv,zu,zt,zs,zr,zq,zp,zo,zn,zm,zl,zk,zj,zi,zh,zg,zf,ze,zd,zc,zb,za,yz,yy,yx,yw,yv,yu,yt,ys,yr,yq,yp,yo,yn,ym,yl,yk,yj,yi,yh,yg,yf,ye,yd,yc,yb,ya,xz,xy,xx,xw,xv,xu,xt,xs,xr,xq,xp,xo,xn,xm,xl,xk,xj,xi,xh,xg,xf,xe,xd,xc,xb,xa,wz,wy,wx,ww,wv,wu,wt,ws,wr,wq,wp,wo,l,aa,ab,ac,o,ad,wh,wg,wf,we,wd] h) (ob (aG (bin prog .add 3 zm (.I 1)) h) λae h=>k .normal [a,b,c,d,e,f,g,i,j,l,m,n,o,p,q,r,s,t,u,v,w,x,y,z,A,B,C,D,E,F,G,H,I,J,zz,zy,zx,zw,zv,zu,zt,zs,zr,zq,zp,zo,zn,ae,zl,zk,zj,zi,zh,zg,zf,ze,zd,zc,zb,za,yz,yy,yx,yw,yv,yu,yt,ys,yr,yq,yp,yo,yn,ym,yl,yk,yj,yi,yh,yg,yf,ye,yd,yc,yb,ya,xz,xy,xx,xw,xv,xu,xt,xs,xr,xq,xp,xo,xn,xm,xl,xk,xj,xi,xh,xg,xf,xe,xd,xc,xb,xa,wz,wy,wx,ww,wv,wu,wt,ws,wr,wq,wp,wo,l,aa,ab,ac,o,ad,ae,wg,wf,we,wd] h)
theorem aLR:Qg O L k (.exit 2) [a,b,c,d,e,f,g,i,j,l,m,n,o,p,q,r,s,t,u,v,w,x,y,z,A,B,C,D,E,F,G,H,I,J,zz,zy,zx,zw,zv,zu,zt,zs,zr,zq,zp,zo,zn,zm,zl,zk,zj,zi,zh,zg,zf,ze,zd,zc,zb,za,yz,yy,yx,yw,yv,yu,yt,ys,yr,yq,yp,yo,yn,ym,yl,yk,yj,yi,yh,yg,yf,ye,yd,yc,yb,ya,xz,xy,xx,xw,xv,xu,xt,xs,xr,xq,xp,xo,xn,xm,xl,xk,xj,xi,xh,xg,xf,xe,xd,xc,xb,xa,wz,wy,wx,ww,wv,wu,wt,ws,wr,wq,wp,wo,wn,wm,wl,wk,wj,wi,wh,wg,wf,we,wd] h=Qe O L k a b c d e f g i j l m n o p q r s t u v w x y z A B C D E F G H I J zz zy zx zw zv zu zt zs zr zq zp zo zn zm zl zk zj zi zh zg zf ze zd zc zb za yz yy yx yw yv yu yt ys yr yq yp yo yn ym yl yk yj yi yh yg yf ye yd yc yb ya xz xy xx xw xv xu xt xs xr xq xp xo xn xm xl xk xj xi xh xg xf xe xd xc xb xa wz wy wx ww wv wu wt ws wr wq wp wo wn wm wl wk wj wi wh wg wf we wd h:=by kernel_rfl
theorem aAL:aN prog O L Qc k [a,b,c,d,e,f,g,i,j,l,m,n,o,p,q,r,s,t,u,v,w,x,y,z,A,B,C,D,E,F,G,H,I,J,zz,zy,zx,zw,zv,zu,zt,zs,zr,zq,zp,zo,zn,zm,zl,zk,zj,zi,zh,zg,zf,ze,zd,zc,zb,za,yz,yy,yx,yw,yv,yu,yt,ys,yr,yq,yp,yo,yn,ym,yl,yk,yj,yi,yh,yg,yf,ye,yd,yc,yb,ya,xz,xy,xx,xw,xv,xu,xt,xs,xr,xq,xp,xo,xn,xm,xl,xk,xj,xi,xh,xg,xf,xe,xd,xc,xb,xa,wz,wy,wx,ww,wv,wu,wt,ws,wr,wq,wp,wo,wn,wm,wl,wk,wj,wi,wh,wg,wf,we,wd] h=ob (aG (bin prog .lss 3 za zb) h) λaa h=>aO aa (ob (aG (aT 1 zc za) h) λab h=>ob (ld1 ab h) λac h=>ob (aG (aP a) h) λad h=>ob (aG (aJ 1 ad) h) λae h=>ob (ld1 ae h) λaf h=>ob (aG (aT 1 af za) h) λag h=>ob (ld1 ag h) λah h=>ob (O (.func 103) [ac,ah,i] h) λai h=>ob (aG (bin prog .eql 3 ai (.I (-1))) h) λaj h=>aO aj (ob (aG (bin prog .add 3 za (.I 1)) h) λak h=>k .normal [a,b,c,d,e,f,g,i,j,l,m,n,o,za,ac,ai,s,t,u,v,w,x,y,z,A,B,C,D,E,F,G,H,I,J,zz,zy,zx,zw,zv,zu,zt,zs,zr,zq,zp,zo,zn,zm,zl,zk,zj,zi,zh,zg,zf,ze,zd,zc,zb,ak,aa,za,ab,ac,ac,a,ad,ae,af,za,ag,ah,i,ai,ai,aj,yj,yi,yh,yg,yf,ye,yd,yc,yb,ya,xz,xy,xx,xw,xv,xu,xt,xs,xr,xq,xp,xo,xn,xm,xl,xk,xj,xi,xh,xg,xf,xe,xd,xc,xb,xa,wz,wy,wx,ww,wv,wu,wt,ws,wr,wq,wp,ak,wn,wm,wl,wk,wj,wi,wh,wg,wf,we,wd] h) (ob (aG (aP l) h) λal h=>ob (aG (aJ 0 al) h) λam h=>ob (ld1 am h) λan h=>ob (aG (aT 1 an za) h) λao h=>ob (stN 1 ao ai h) λap h=>ob (aG (aP l) h) λaq h=>ob (aG (aJ 1 aq) h) λar h=>ob (ld1 ar h) λau h=>ifB (true) (ob (aG (bin prog .shl 23 (.int .u16 1) za) h) λav h=>ob (aG (bin prog .andNot 23 au av) h) λaw h=>ob (aG (aP l) h) λax h=>ob (aG (aJ 1 ax) h) λay h=>ob (stN 1 ay aw h) λaz h=>ifB (true) (ob (aG (aP l) h) λba h=>ob (aG (aJ 2 ba) h) λbb h=>ob (ld1 bb h) λbc h=>ifB (true) (ob (aG (bin prog .shl 23 (.int .u16 1) ai) h) λbd h=>ob (aG (bin prog .andNot 23 bc bd) h) λbe h=>ob (aG (aP l) h) λbf h=>ob (aG (aJ 2 bf) h) λbg h=>ob (stN 1 bg be h) λbh h=>ifB (true) (ob (aG (bin prog .eql 3 n (.I 0)) h) λbi h=>aO bi (ob (aG (aP a) h) λbj h=>ob (aG (aJ 0 bj) h) λbk h=>ob (ld1 bk h) λbl h=>ifB (true) (ob (aG (aP a) h) λbm h=>ob (aG (aJ 1 bm) h) λbn h=>ob (ld1 bn h) λbo h=>ifB (true) (ob (aG (bin prog .add 3 za (.I 1)) h) λbp h=>ob (aG (bin prog .rem 3 bp i) h) λbq h=>ob (aG (bin prog .add 3 ai (.I 1)) h) λbr h=>ob (aG (bin prog .rem 3 br i) h) λbs h=>ob (aG (aT 1 bl ai) h) λbt h=>ob (stN 1 bt bq h) λbu h=>ifB (true) (ob (aG (aT 1 bo za) h) λbv h=>ob (stN 1 bv bs h) λbw h=>ifB (true) (ob (aG (bin prog .add 3 za (.I 1)) h) λbx h=>k .normal [a,b,c,d,e,f,g,i,j,l,m,n,o,za,ac,ai,s,t,u,v,w,x,y,z,A,B,C,D,E,F,G,H,I,J,zz,zy,zx,zw,zv,zu,zt,zs,zr,zq,zp,zo,zn,zm,zl,zk,zj,zi,zh,zg,zf,ze,zd,zc,zb,bx,aa,za,ab,ac,ac,a,ad,ae,af,za,ag,ah,i,ai,ai,aj,l,al,am,an,za,ai,ao,l,aq,ar,au,za,av,aw,ax,ay,l,ba,bb,bc,ai,bd,be,bf,bg,n,bi,a,bj,bk,bl,ai,a,bm,bn,bo,za,za,bp,i,bq,ai,br,i,bs,bt,bv,bx,wn,wm,wl,wk,wj,wi,wh,wg,wf,we,wd] h))))) (ob (aG (bin prog .add 3 za (.I 1)) h) λbz h=>k .normal [a,b,c,d,e,f,g,i,j,l,m,n,o,za,ac,ai,s,t,u,v,w,x,y,z,A,B,C,D,E,F,G,H,I,J,zz,zy,zx,zw,zv,zu,zt,zs,zr,zq,zp,zo,zn,zm,zl,zk,zj,zi,zh,zg,zf,ze,zd,zc,zb,bz,aa,za,ab,ac,ac,a,ad,ae,af,za,ag,ah,i,ai,ai,aj,l,al,am,an,za,ai,ao,l,aq,ar,au,za,av,aw,ax,ay,l,ba,bb,bc,ai,bd,be,bf,bg,n,bi,xi,xh,xg,xf,xe,xd,xc,xb,xa,wz,wy,wx,ww,wv,wu,wt,ws,wr,wq,wp,bz,wn,wm,wl,wk,wj,wi,wh,wg,wf,we,wd] h))))))) (k (.exit 2) [a,b,c,d,e,f,g,i,j,l,m,n,o,p,q,r,s,t,u,v,w,x,y,z,A,B,C,D,E,F,G,H,I,J,zz,zy,zx,zw,zv,zu,zt,zs,zr,zq,zp,zo,zn,zm,zl,zk,zj,zi,zh,zg,zf,ze,zd,zc,zb,za,aa,yy,yx,yw,yv,yu,yt,ys,yr,yq,yp,yo,yn,ym,yl,yk,yj,yi,yh,yg,yf,ye,yd,yc,yb,ya,xz,xy,xx,xw,xv,xu,xt,xs,xr,xq,xp,xo,xn,xm,xl,xk,xj,xi,xh,xg,xf,xe,xd,xc,xb,xa,wz,wy,wx,ww,wv,wu,wt,ws,wr,wq,wp,wo,wn,wm,wl,wk,wj,wi,wh,wg,wf,we,wd] h):=by kernel_rfl
def Qb:Code:=bR [1,0,1,1,1,1,1,1,0,1,0,0] (cG prog 50)
def Qf:KV:=(dY 0 (eK prog O L (bR [1,0,1,1,1,1,1,1,1] (cG prog 50)) (eX prog Tryz.f50)))
def Qd (O:aH)(L:LV) (a b c d e f g i j l m n o p q r s t u v w x y z A B C D E F G H I J zz zy zx zw zv zu zt zs zr zq zp zo zn zm zl zk zj zi zh zg zf ze zd zc zb za yz yy yx yw yv yu yt ys yr yq yp yo yn ym yl yk yj yi yh yg yf ye yd yc yb ya xz xy xx xw xv xu xt xs xr xq xp xo xn xm xl xk xj xi xh xg xf xe xd xc xb xa wz wy wx ww wv wu wt ws wr wq wp wo wn wm wl wk wj wi wh wg wf we wd:Value) (h:aF):OV:=ob (aG (aP l) h) λaa h=>ob (aG (aJ 0 aa) h) λab h=>ob (ld1 ab h) λac h=>some (aL [ac],h)
theorem aAM:Qf O L (.exit 0) [a,b,c,d,e,f,g,i,j,l,m,n,o,p,q,r,s,t,u,v,w,x,y,z,A,B,C,D,E,F,G,H,I,J,zz,zy,zx,zw,zv,zu,zt,zs,zr,zq,zp,zo,zn,zm,zl,zk,zj,zi,zh,zg,zf,ze,zd,zc,zb,za,yz,yy,yx,yw,yv,yu,yt,ys,yr,yq,yp,yo,yn,ym,yl,yk,yj,yi,yh,yg,yf,ye,yd,yc,yb,ya,xz,xy,xx,xw,xv,xu,xt,xs,xr,xq,xp,xo,xn,xm,xl,xk,xj,xi,xh,xg,xf,xe,xd,xc,xb,xa,wz,wy,wx,ww,wv,wu,wt,ws,wr,wq,wp,wo,wn,wm,wl,wk,wj,wi,wh,wg,wf,we,wd] h=Qd O L a b c d e f g i j l m n o p q r s t u v w x y z A B C D E F G H I J zz zy zx zw zv zu zt zs zr zq zp zo zn zm zl zk zj zi zh zg zf ze zd zc zb za yz yy yx yw yv yu yt ys yr yq yp yo yn ym yl yk yj yi yh yg yf ye yd yc yb ya xz xy xx xw xv xu xt xs xr xq xp xo xn xm xl xk xj xi xh xg xf xe xd xc xb xa wz wy wx ww wv wu wt ws wr wq wp wo wn wm wl wk wj wi wh wg wf we wd h:=by kernel_rfl
theorem aAK:aN prog O L Qb k [a,b,c,d,e,f,g,i,j,l,m,n,o,p,q,r,s,t,u,v,w,x,y,z,A,B,C,D,E,F,G,H,I,J,zz,zy,zx,zw,zv,zu,zt,zs,zr,zq,zp,zo,zn,zm,zl,zk,zj,zi,zh,zg,zf,ze,zd,zc,zb,za,yz,yy,yx,yw,yv,yu,yt,ys,yr,yq,yp,yo,yn,ym,yl,yk,yj,yi,yh,yg,yf,ye,yd,yc,yb,ya,xz,xy,xx,xw,xv,xu,xt,xs,xr,xq,xp,xo,xn,xm,xl,xk,xj,xi,xh,xg,xf,xe,xd,xc,xb,xa,wz,wy,wx,ww,wv,wu,wt,ws,wr,wq,wp,wo,wn,wm,wl,wk,wj,wi,wh,wg,wf,we,wd] h=ob (aG (bin prog .lss 3 zm zn) h) λaa h=>aO aa (ob (aG (aP l) h) λab h=>ob (aG (aJ 1 ab) h) λac h=>ob (ld1 ac h) λad h=>ob (O (.func 102) [a,l,m] h) λae h=>ob (aG (aZ ae) h) λaf h=>L (aN prog O L Qc) (Qg O L k) [a,b,c,d,e,f,g,i,j,l,m,zm,ad,p,q,r,s,t,u,v,w,x,y,z,A,B,C,D,E,F,G,H,I,J,zz,zy,zx,zw,zv,zu,zt,zs,zr,zq,zp,zo,zn,zm,aa,zm,l,ab,ac,ad,a,l,m,ae,af,(.I 0),yz,yy,yx,yw,yv,yu,yt,ys,yr,yq,yp,yo,yn,ym,yl,yk,yj,yi,yh,yg,yf,ye,yd,yc,yb,ya,xz,xy,xx,xw,xv,xu,xt,xs,xr,xq,xp,xo,xn,xm,xl,xk,xj,xi,xh,xg,xf,xe,xd,xc,xb,xa,wz,wy,wx,ww,wv,wu,wt,ws,wr,wq,wp,wo,wn,wm,wl,wk,wj,wi,wh,wg,wf,we,wd] h) (k (.exit 0) [a,b,c,d,e,f,g,i,j,l,m,n,o,p,q,r,s,t,u,v,w,x,y,z,A,B,C,D,E,F,G,H,I,J,zz,zy,zx,zw,zv,zu,zt,zs,zr,zq,zp,zo,zn,zm,aa,zk,zj,zi,zh,zg,zf,ze,zd,zc,zb,za,yz,yy,yx,yw,yv,yu,yt,ys,yr,yq,yp,yo,yn,ym,yl,yk,yj,yi,yh,yg,yf,ye,yd,yc,yb,ya,xz,xy,xx,xw,xv,xu,xt,xs,xr,xq,xp,xo,xn,xm,xl,xk,xj,xi,xh,xg,xf,xe,xd,xc,xb,xa,wz,wy,wx,ww,wv,wu,wt,ws,wr,wq,wp,wo,wn,wm,wl,wk,wj,wi,wh,wg,wf,we,wd] h):=by kernel_rfl
theorem aLS:bT prog O L 50 [N,P,Q] h=ob (aG (aP N) h) λaa h=>ob (aG (aJ 0 aa) h) λab h=>ob (ld1 ab h) λac h=>ob (aG (aZ ac) h) λad h=>ob (aG (aZ P) h) λae h=>ob (aG (bin prog .neq 3 ae ad) h) λaf h=>ob (gd af false (cI Q) h) λag h=>ob (gd af false (aG (bin prog .lss 3 ag (.I 1))) h) λah h=>ob (aG (cQ af (.bool true) ah) h) λai h=>ob (gd ai false (cI Q) h) λaj h=>ob (gd ai false (aG (bin prog .gtr 3 aj (.I 16))) h) λak h=>ob (aG (cQ ai (.bool true) ak) h) λal h=>aO al (some (aL [(.slice none 0 0)],h)) (ob (aG (bin prog .shl 23 (.int .u16 1) ad) h) λam h=>ob (aG (bin prog .sub 23 am (.int .u16 1)) h) λan h=>ob (dT 3 1 1 [(.I 0)] [(0,(.I (-1)))] h) λao h=>ob (O (.func 100) [ao,ad] h) λap h=>ob (aG (bld prog 201 [(0,ap),(1,an),(2,an)]) h) λaq h=>ob (cX 201 (Value.cells aq).toList .fix h) λar h=>ob (O (.func 101) [P,ad] h) λau h=>L (aN prog O L Qb) (Qf O L) [N,P,Q,undef,undef,undef,(.slice none 0 0),ad,an,ar,au,undef,undef,undef,undef,undef,N,aa,ab,ac,ad,P,ae,ad,af,af,ag,ah,ai,ai,aj,ak,al,ad,am,an,ao,ad,ap,an,an,aq,ar,P,ad,au,Q,(.I 0),undef,undef,undef,undef,undef,undef,undef,undef,undef,undef,undef,undef,undef,undef,undef,undef,undef,undef,undef,undef,undef,undef,undef,undef,undef,undef,undef,undef,undef,undef,undef,undef,undef,undef,undef,undef,undef,undef,undef,undef,undef,undef,undef,undef,undef,undef,undef,undef,undef,undef,undef,undef,undef,undef,undef,undef,undef,undef,undef,undef,undef,undef,undef,undef,undef,undef,undef,undef,undef,undef,undef,undef,undef,undef,undef,undef,undef,undef,undef,undef,undef,undef,undef,undef,undef,undef,undef] h):=by kernel_rfl
def Qi:Code:=bR [1,1,0,1,0,0,1,1,0,0,1,1,0,0] (cG prog 51)
def Ql:KV:=(dY 2 (dY 1 (eK prog O L (bR [1,1,0,1,0,0,1,1,1] (cG prog 51)) k)))
def Qj (O:aH)(L:LV) (k:KV) (a b c d e f g i j l m n o p q r s t u v w x y z A B C D E F G H I J zz zy zx zw zv zu zt zs zr zq:Value) (h:aF):OV:=ob (aG (bin prog .add 3 t (.I 1)) h) λaa h=>k .normal [a,b,c,d,e,f,g,i,j,l,m,n,o,p,q,r,s,aa,u,v,w,x,y,z,A,B,C,D,E,F,G,H,I,J,zz,zy,zx,zw,zv,zu,zt,zs,aa,zq] h
theorem aLU:Ql O L k (.exit 2) [a,b,c,d,e,f,g,i,j,l,m,n,o,p,q,r,s,t,u,v,w,x,y,z,A,B,C,D,E,F,G,H,I,J,zz,zy,zx,zw,zv,zu,zt,zs,zr,zq] h=Qj O L k a b c d e f g i j l m n o p q r s t u v w x y z A B C D E F G H I J zz zy zx zw zv zu zt zs zr zq h:=by kernel_rfl
theorem aAO:aN prog O L Qi k [a,b,c,d,e,f,g,i,j,l,m,n,o,p,q,r,s,t,u,v,w,x,y,z,A,B,C,D,E,F,G,H,I,J,zz,zy,zx,zw,zv,zu,zt,zs,zr,zq] h=ob (aG (bin prog .lss 3 B A) h) λaa h=>aO aa (ob (O (.func 104) [a,e,B] h) λab h=>ob (aG (bin prog .neq 23 ab (.int .u16 0)) h) λac h=>aO ac (ob (aG (aT 1 d e) h) λad h=>ob (ld1 ad h) λae h=>ifB (true) (ob (aG (bin prog .shl 23 (.int .u16 1) B) h) λaf h=>ob (aG (bin prog .or 23 ae af) h) λag h=>ob (aG (aT 1 d e) h) λah h=>ob (stN 1 ah ag h) λai h=>ifB (true) (ob (aG (bin prog .add 3 B (.I 1)) h) λaj h=>k .normal [a,b,c,d,e,B,g,i,j,l,m,n,o,p,q,r,s,t,u,v,w,x,y,z,A,aj,aa,B,a,e,B,ab,ac,d,e,ad,ae,B,af,ag,ah,aj,zr,zq] h))) (ob (aG (bin prog .add 3 B (.I 1)) h) λak h=>k .normal [a,b,c,d,e,B,g,i,j,l,m,n,o,p,q,r,s,t,u,v,w,x,y,z,A,ak,aa,B,a,e,B,ab,ac,J,zz,zy,zx,zw,zv,zu,zt,ak,zr,zq] h)) (k (.exit 2) [a,b,c,d,e,f,g,i,j,l,m,n,o,p,q,r,s,t,u,v,w,x,y,z,A,B,aa,D,E,F,G,H,I,J,zz,zy,zx,zw,zv,zu,zt,zs,zr,zq] h):=by kernel_rfl
def Qh:Code:=bR [1,1,0,1,0,0] (cG prog 51)
def Qk:KV:=(dY 0 (eK prog O L (bR [1,1,1] (cG prog 51)) (eX prog Tryz.f51)))
theorem aLT:Qk O L (.exit 0) [a,b,c,d,e,f,g,i,j,l,m,n,o,p,q,r,s,t,u,v,w,x,y,z,A,B,C,D,E,F,G,H,I,J,zz,zy,zx,zw,zv,zu,zt,zs,zr,zq] h=some (aL [d],h):=by kernel_rfl
theorem aAN:aN prog O L Qh k [a,b,c,d,e,f,g,i,j,l,m,n,o,p,q,r,s,t,u,v,w,x,y,z,A,B,C,D,E,F,G,H,I,J,zz,zy,zx,zw,zv,zu,zt,zs,zr,zq] h=ob (aG (bin prog .lss 3 t s) h) λaa h=>aO aa (ob (aG (aP a) h) λab h=>ob (aG (aJ 13 ab) h) λac h=>ob (ld1 ac h) λad h=>ob (aG (aZ ad) h) λae h=>L (aN prog O L Qi) (Ql O L k) [a,b,c,d,t,f,g,i,j,l,m,n,o,p,q,r,s,t,aa,t,a,ab,ac,ad,ae,(.I 0),C,D,E,F,G,H,I,J,zz,zy,zx,zw,zv,zu,zt,zs,zr,zq] h) (k (.exit 0) [a,b,c,d,e,f,g,i,j,l,m,n,o,p,q,r,s,t,aa,v,w,x,y,z,A,B,C,D,E,F,G,H,I,J,zz,zy,zx,zw,zv,zu,zt,zs,zr,zq] h):=by kernel_rfl
theorem aLV:bT prog O L 51 [N] h=ob (aG (aP N) h) λaa h=>ob (aG (aJ 13 aa) h) λab h=>ob (ld1 ab h) λac h=>ob (aG (aZ ac) h) λad h=>ob (lR 23 1 2 [(.int .u16 0)] ad ad h) λae h=>ob (aG (aP N) h) λaf h=>ob (aG (aJ 13 af) h) λag h=>ob (ld1 ag h) λah h=>ob (aG (aZ ah) h) λai h=>L (aN prog O L Qh) (Qk O L) [N,undef,(.slice none 0 0),ae,undef,undef,N,aa,ab,ac,ad,ae,N,af,ag,ah,ai,(.I 0),undef,undef,undef,undef,undef,undef,undef,undef,undef,undef,undef,undef,undef,undef,undef,undef,undef,undef,undef,undef,undef,undef,undef,undef,undef,undef] h:=by kernel_rfl
theorem Qm:bT prog O L 52 [N,P,Q,R] h=ob (aG (aP N) h) λaa h=>ob (aG (aJ 13 aa) h) λab h=>ob (ld1 ab h) λac h=>ifB (true) (ob (aG (aT 3 ac Q) h) λad h=>ob (aG (aJ 2 ad) h) λae h=>ob (ld1 ae h) λaf h=>ifB (true) (ob (O (.func 104) [N,P,Q] h) λag h=>ifB (chk ((ld1 ae) h) af&&(chk ((ld1 ab) h) ac&&(true))) (ob (O (.func 105) [af,ag] h) λah h=>ifB (true) (ob (aG (bin prog .lss 3 ah (.I 0)) h) λai h=>aO ai (some (aL [],h)) (ob (aG (aP N) h) λaj h=>ob (aG (aJ 15 aj) h) λak h=>ob (ld1 ak h) λal h=>ob (O (.func 106) [al,P,Q,ah] h) λam h=>ob (aG (ext 0 am) h) λan h=>ob (aG (ext 1 am) h) λao h=>ob (cX 54 [(.I 0),(.I 0),(.I 0),(.int .u32 0)] .fix h) λap h=>ob (stN 4 ap an h) λaq h=>ob (aG (bin prog .gtr 3 P (.I 0)) h) λar h=>aO ar (ob (aG (aP N) h) λau h=>ob (aG (aJ 13 au) h) λav h=>ob (ld1 av h) λaw h=>ob (aG (aT 3 aw P) h) λax h=>ob (aG (aJ 1 ax) h) λay h=>ob (ld1 ay h) λaz h=>ob (aG (aT 2 az ah) h) λba h=>ob (aG (aJ 1 ba) h) λbb h=>ob (ld1 bb h) λbc h=>ob (O (.func 107) [bc] h) λbd h=>ob (aG (bin prog .eql 3 Q (.I 0)) h) λbe h=>aO be (ob (aG (aP N) h) λbf h=>ob (aG (aJ 14 bf) h) λbg h=>ob (ld1 bg h) λbh h=>ifB (true) (ob (ldN 4 ap h) λbi h=>ifB (true) (ob (O (.func 108) [bh,bi] h) λbj h=>ifB (true) (some (aL [],h))))) (ob (aG (aP N) h) λbk h=>ob (aG (aJ 13 bk) h) λbl h=>ob (ld1 bl h) λbm h=>ob (aG (aT 3 bm Q) h) λbn h=>ob (aG (aJ 1 bn) h) λbo h=>ob (ld1 bo h) λbp h=>ob (aG (aT 2 bp ah) h) λbq h=>ob (aG (aJ 0 bq) h) λbr h=>ob (ld1 br h) λbs h=>ob (O (.func 109) [bs] h) λbt h=>ob (aG (ext 0 bt) h) λbu h=>ob (aG (ext 1 bt) h) λbv h=>ob (eA prog 3 5 ah h) λbw h=>ob (eA prog 55 23 bu h) λbx h=>ob (aG (aJ 0 ap) h) λbz h=>ob (ld1 bz h) λca h=>ob (eA prog 3 5 ca h) λcb h=>ob (aG (aJ 1 ap) h) λcc h=>ob (ld1 cc h) λcd h=>ob (eA prog 3 5 cd h) λce h=>ob (aG (aJ 3 ap) h) λcf h=>ob (ld1 cf h) λcg h=>ob (aG (bld prog 39 [(0,(.int .u8 1)),(1,bw),(2,bx),(3,cb),(4,ce),(5,cg)]) h) λch h=>ob (oJ O R [Q,ch] h) λci h=>some (aL [],h))) (ob (aG (bin prog .eql 3 Q (.I 0)) h) λcj h=>aO cj (ob (aG (aP N) h) λck h=>ob (aG (aJ 14 ck) h) λcl h=>ob (ld1 cl h) λcm h=>ifB (true) (ob (ldN 4 ap h) λcn h=>ifB (true) (ob (O (.func 108) [cm,cn] h) λco h=>ifB (true) (some (aL [],h))))) (ob (aG (aP N) h) λcp h=>ob (aG (aJ 13 cp) h) λcq h=>ob (ld1 cq h) λcr h=>ob (aG (aT 3 cr Q) h) λcs h=>ob (aG (aJ 1 cs) h) λct h=>ob (ld1 ct h) λcu h=>ob (aG (aT 2 cu ah) h) λcv h=>ob (aG (aJ 0 cv) h) λcw h=>ob (ld1 cw h) λcx h=>ob (O (.func 109) [cx] h) λcy h=>ob (aG (ext 0 cy) h) λcz h=>ob (aG (ext 1 cy) h) λda h=>ob (eA prog 3 5 ah h) λdb h=>ob (eA prog 55 23 cz h) λdc h=>ob (aG (aJ 0 ap) h) λdd h=>ob (ld1 dd h) λde h=>ob (eA prog 3 5 de h) λdf h=>ob (aG (aJ 1 ap) h) λdg h=>ob (ld1 dg h) λdh h=>ob (eA prog 3 5 dh h) λdi h=>ob (aG (aJ 3 ap) h) λdj h=>ob (ld1 dj h) λdk h=>ob (aG (bld prog 39 [(0,(.int .u8 1)),(1,db),(2,dc),(3,df),(4,di),(5,dk)]) h) λdl h=>ob (oJ O R [Q,dl] h) λdm h=>some (aL [],h)))))))):=by kernel_rfl
def Qp:Code:=bR [1,0,0,1,1,0,0,1,1,0,0] (cG prog 53)
def Qr:KV:=(dY 2 (dY 1 (eK prog O L (bR [1,0,0,1,1,1] (cG prog 53)) k)))
def Ik (O:aH)(L:LV) (k:KV) (a b c d e f g i j l m n o p q r s t u v w x y z A B C D E F G H I J zz zy zx zw zv zu zt zs zr zq zp zo zn zm:Value) (h:aF):OV:=ob (aG (bin prog .add 3 p (.I 1)) h) λaa h=>k .normal [a,b,c,d,e,f,g,i,j,l,m,n,o,aa,q,r,s,t,u,v,w,x,y,z,A,B,C,D,E,F,G,H,I,J,zz,zy,zx,zw,zv,zu,zt,zs,zr,zq,zp,zo,zn,aa] h
theorem aAQ:Qr O L k (.exit 2) [a,b,c,d,e,f,g,i,j,l,m,n,o,p,q,r,s,t,u,v,w,x,y,z,A,B,C,D,E,F,G,H,I,J,zz,zy,zx,zw,zv,zu,zt,zs,zr,zq,zp,zo,zn,zm] h=Ik O L k a b c d e f g i j l m n o p q r s t u v w x y z A B C D E F G H I J zz zy zx zw zv zu zt zs zr zq zp zo zn zm h:=by kernel_rfl
theorem Qn:aN prog O L Qp k [a,b,c,d,e,f,g,i,j,l,m,n,o,p,q,r,s,t,u,v,w,x,y,z,A,B,C,D,E,F,G,H,I,J,zz,zy,zx,zw,zv,zu,zt,zs,zr,zq,zp,zo,zn,zm] h=ob (aG (bin prog .lss 3 x w) h) λaa h=>aO aa (ob (aG (aT 2 v x) h) λab h=>ob (ldN 2 ab h) λac h=>ob (cX 100 [(.pointer none),(.pointer none)] .fix h) λad h=>ob (stN 2 ad ac h) λae h=>ob (eA prog 3 5 x h) λaf h=>ob (aG (aJ 0 ad) h) λag h=>ob (ld1 ag h) λah h=>ob (O (.func 20) [ah] h) λai h=>ob (eA prog 55 23 ai h) λaj h=>ob (aG (bld prog 39 [(0,(.int .u8 3)),(1,af),(2,aj)]) h) λak h=>ob (oJ O b [e,ak] h) λal h=>ob (eA prog 3 5 x h) λam h=>ob (aG (aJ 1 ad) h) λan h=>ob (ld1 an h) λao h=>ob (O (.func 110) [ao] h) λap h=>ob (eA prog 55 23 ap h) λaq h=>ob (aG (bld prog 39 [(0,(.int .u8 2)),(1,am),(2,aq)]) h) λar h=>ob (oJ O b [e,ar] h) λau h=>ob (aG (bin prog .add 3 x (.I 1)) h) λav h=>k .normal [a,b,c,d,e,f,x,ad,j,l,m,n,o,p,q,r,s,t,u,v,w,av,aa,x,ab,ac,b,e,x,af,ag,ah,ai,aj,ak,al,b,e,x,am,an,ao,ap,aq,ar,au,av,zm] h) (k (.exit 2) [a,b,c,d,e,f,g,i,j,l,m,n,o,p,q,r,s,t,u,v,w,x,aa,z,A,B,C,D,E,F,G,H,I,J,zz,zy,zx,zw,zv,zu,zt,zs,zr,zq,zp,zo,zn,zm] h):=by kernel_rfl
def Qo:Code:=bR [1,0,0] (cG prog 53)
def Qq (O:aH)(L:LV):KV:=(dY 0 (eX prog Tryz.f53))
theorem aLW:Qq O L (.exit 0) [a,b,c,d,e,f,g,i,j,l,m,n,o,p,q,r,s,t,u,v,w,x,y,z,A,B,C,D,E,F,G,H,I,J,zz,zy,zx,zw,zv,zu,zt,zs,zr,zq,zp,zo,zn,zm] h=some (aL [],h):=by kernel_rfl
theorem aAP:aN prog O L Qo k [a,b,c,d,e,f,g,i,j,l,m,n,o,p,q,r,s,t,u,v,w,x,y,z,A,B,C,D,E,F,G,H,I,J,zz,zy,zx,zw,zv,zu,zt,zs,zr,zq,zp,zo,zn,zm] h=ob (aG (bin prog .lss 3 p o) h) λaa h=>aO aa (ob (aG (aT 3 n p) h) λab h=>ob (ldN 3 ab h) λac h=>ob (cX 94 [(.I 0),(.slice none 0 0),(.pointer none)] .fix h) λad h=>ob (stN 3 ad ac h) λae h=>ob (aG (aJ 1 ad) h) λaf h=>ob (ld1 af h) λag h=>ob (aG (aZ ag) h) λah h=>L (aN prog O L Qp) (Qr O L k) [a,b,c,d,p,ad,g,i,j,l,m,n,o,p,aa,p,ab,ac,af,ag,ah,(.I 0),y,z,A,B,C,D,E,F,G,H,I,J,zz,zy,zx,zw,zv,zu,zt,zs,zr,zq,zp,zo,zn,zm] h) (k (.exit 0) [a,b,c,d,e,f,g,i,j,l,m,n,o,p,aa,r,s,t,u,v,w,x,y,z,A,B,C,D,E,F,G,H,I,J,zz,zy,zx,zw,zv,zu,zt,zs,zr,zq,zp,zo,zn,zm] h):=by kernel_rfl
theorem aLX:bT prog O L 53 [N,P] h=ob (aG (aP N) h) λaa h=>ob (aG (aJ 13 aa) h) λab h=>ob (ld1 ab h) λac h=>ob (aG (aZ ac) h) λad h=>L (aN prog O L Qo) (Qq O L) [N,P,undef,undef,undef,undef,undef,undef,N,aa,ab,ac,ad,(.I 0),undef,undef,undef,undef,undef,undef,undef,undef,undef,undef,undef,undef,undef,undef,undef,undef,undef,undef,undef,undef,undef,undef,undef,undef,undef,undef,undef,undef,undef,undef,undef,undef,undef,undef] h:=by kernel_rfl
theorem aAR:bT prog O L 64 [N,P,Q] h=ob (cX 100 [(.pointer none),(.pointer none)] .fix h) λaa h=>ob (aG (bin prog .lss 3 P (.I 1)) h) λab h=>ob (gd ab false (cI P) h) λac h=>ob (gd ab false (cI N) h) λad h=>ob (gd ab false (aG (aP ad)) h) λae h=>ob (gd ab false (aG (aJ 13 ae)) h) λaf h=>ob (gd ab false (ld1 af) h) λag h=>ob (gd ab false (aG (aZ ag)) h) λah h=>ob (gd ab false (aG (bin prog .geq 3 ac ah)) h) λai h=>ob (aG (cQ ab (.bool true) ai) h) λaj h=>ob (gd aj false (cI Q) h) λak h=>ob (gd aj false (aG (bin prog .lss 3 ak (.I 0))) h) λal h=>ob (aG (cQ aj (.bool true) al) h) λam h=>ob (gd am false (cI Q) h) λan h=>ob (gd am false (cI N) h) λao h=>ob (gd am false (aG (aP ao)) h) λap h=>ob (gd am false (aG (aJ 1 ap)) h) λaq h=>ob (gd am false (aG (aJ 2 aq)) h) λar h=>ob (gd am false (ld1 ar) h) λau h=>ob (gd am false (aG (bin prog .geq 3 an au)) h) λav h=>ob (aG (cQ am (.bool true) av) h) λaw h=>aO aw (ob (aG (bld prog 100 []) h) λax h=>ob (stN 2 aa ax h) λay h=>ob (ldN 2 aa h) λw23 _=>some (aL [w23,(.bool false)],h)) (ob (aG (aP N) h) λaz h=>ob (aG (aJ 13 az) h) λba h=>ob (ld1 ba h) λbb h=>ob (aG (aT 3 bb P) h) λbc h=>ob (aG (aJ 1 bc) h) λbd h=>ob (ld1 bd h) λbe h=>ob (aG (aT 2 be Q) h) λbf h=>ob (ldN 2 bf h) λbg h=>ob (stN 2 aa bg h) λbh h=>ob (ldN 2 aa h) λw33 _=>some (aL [w33,(.bool true)],h)):=by kernel_rfl
def Qt:Code:=bR [1,0,1,0,0] (cG prog 85)
def Il:KV:=(dY 0 (eK prog O L (bR [1,1] (cG prog 85)) (eX prog Tryz.f85)))
theorem aLY:Il O L (.exit 0) [a,b,c,d,e,f,g,i,j,l,m,n,o,p,q,r,s,t,u] h=some (aL [(.I (-1))],h):=by kernel_rfl
theorem aL0:Il O L .ret [a,b,c,d,e,f,g,i,j,l,m,n,o,p,q,r,s,t,u] h=some (aL [e],h):=by kernel_rfl
theorem aAS:aN prog O L Qt k [a,b,c,d,e,f,g,i,j,l,m,n,o,p,q,r,s,t,u] h=ob (aG (bin prog .lss 3 j i) h) λaa h=>aO aa (ob (aG (aT 3 a j) h) λab h=>ob (ldN 3 ab h) λac h=>ob (oJ O b [ac] h) λad h=>aO ad (k .ret [a,b,c,d,j,j,g,i,j,aa,j,b,a,j,ab,ac,ad,j,u] h) (ob (aG (bin prog .add 3 j (.I 1)) h) λae h=>k .normal [a,b,c,d,e,j,g,i,ae,aa,j,b,a,j,ab,ac,ad,t,ae] h)) (k (.exit 0) [a,b,c,d,e,f,g,i,j,aa,m,n,o,p,q,r,s,t,u] h):=by kernel_rfl
theorem aLZ:bT prog O L 85 [N,P] h=ob (aG (aZ N) h) λaa h=>L (aN prog O L Qt) (Il O L) [N,P,undef,undef,(.I 0),undef,N,aa,(.I 0),undef,undef,undef,undef,undef,undef,undef,undef,undef,undef] h:=by kernel_rfl
theorem aL1:bT prog O L 86 [N,P] h=ob (cX 94 (Value.cells N).toList .fix h) λaa h=>ob (aG (aJ 0 aa) h) λab h=>ob (ld1 ab h) λac h=>ob (ld1 P h) λad h=>ob (aG (bin prog .eql 3 ac ad) h) λae h=>some (aL [ae],h):=by kernel_rfl
theorem aAT:bT prog O L 87 [N] h=ob (cX 39 [(.int .u8 0),(.int .u8 0),(.int .u16 0),(.int .u8 0),(.int .u8 0),(.int .u32 0)] .fix h) λaa h0=>ob (cX 39 [(.int .u8 0),(.int .u8 0),(.int .u16 0),(.int .u8 0),(.int .u8 0),(.int .u32 0)] .fix h0) λab h1=>ob (aG (aZ N) h1) λac h2=>ob (aG (bin prog .neq 3 ac (.I 6)) h2) λad h3=>ob (gd ad true (cI N) h3) λae h4=>ob (gd ad true (aG (aZ ae)) h4) λaf h5=>ob (gd ad true (aG (bin prog .neq 3 af (.I 12))) h5) λag h6=>ob (aG (cQ ad ag (.bool false)) h6) λah h7=>aO ah (ob (ldN 6 ab h7) λai h8=>ob (stN 6 aa ai h8) λaj h9=>ob (ldN 6 aa h9) λw10 _=>some (aL [w10,(.int .u16 30)],h9)) (ob (aG (aZ N) h7) λak h11=>ob (aG (bin prog .sub 3 ak (.I 2)) h11) λal h12=>ob (aG (aZ N) h12) λam h13=>ob (aG (bin prog .sub 3 am (.I 2)) h13) λan h14=>ob (slc prog 1 N none (some al) (some an) h14) λao h15=>ifB (true) (ob (O (.func 95) [ao] h15) λap h16=>ifB (true) (ob (eA prog 23 37 ap h16) λaq h17=>ob (aG (aZ N) h17) λar h18=>ob (aG (bin prog .sub 3 ar (.I 2)) h18) λau h19=>ob (slc prog 1 N (some au) none none h19) λav h20=>ifB (chk ((slc prog 1 N (some au) none none) h15) av&&(true)) (ob (O (.func 136) [av] h20) λaw h21=>ifB (true) (ob (aG (bin prog .neq 37 aq aw) h21) λax h22=>aO ax (ob (ldN 6 ab h22) λay h23=>ob (stN 6 aa ay h23) λaz h24=>ob (ldN 6 aa h24) λw25 _=>some (aL [w25,(.int .u16 30)],h24)) (ob (aG (aT 1 N (.I 0)) h22) λba h26=>ob (ld1 ba h26) λbb h27=>ob (aG (bin prog .eql 5 bb (.int .u8 1)) h27) λbc h28=>ob (aG (aZ N) h28) λbd h29=>ob (aG (bin prog .eql 3 bd (.I 12)) h29) λbe h30=>ob (aG (bin prog .neq 4 bc be) h30) λbf h31=>aO bf (ob (ldN 6 ab h31) λbg h32=>ob (stN 6 aa bg h32) λbh h33=>ob (ldN 6 aa h33) λw34 _=>some (aL [w34,(.int .u16 30)],h33)) (ob (aG (aT 1 N (.I 0)) h31) λbi h35=>ob (ld1 bi h35) λbj h36=>ifB (true) (ob (aG (aT 1 N (.I 1)) h36) λbk h37=>ob (ld1 bk h37) λbl h38=>ifB (true) (ob (slc prog 1 N (some (.I 2)) (some (.I 4)) none h38) λbm h39=>ifB (true) (ob (O (.func 136) [bm] h39) λbn h40=>ifB (chk ((ld1 bk) h40) bl&&(chk ((ld1 bi) h40) bj&&(true))) (ob (eA prog 37 23 bn h40) λbo h41=>ob (aG (bld prog 39 [(0,bj),(1,bl),(2,bo)]) h41) λbp h42=>ob (stN 6 ab bp h42) λbq h43=>ifB (true) (ob (aG (aZ N) h43) λbr h44=>ob (aG (bin prog .eql 3 br (.I 12)) h44) λbs h45=>aO bs (ob (aG (aT 1 N (.I 4)) h45) λbt h46=>ob (ld1 bt h46) λbu h47=>ifB (true) (ob (aG (aT 1 N (.I 5)) h47) λbv h48=>ob (ld1 bv h48) λbw h49=>ifB (true) (ob (slc prog 1 N (some (.I 6)) (some (.I 10)) none h49) λbx h50=>ifB (true) (ob (O (.func 136) [bx] h50) λbz h51=>ifB (chk ((ld1 bv) h51) bw&&(chk ((ld1 bt) h51) bu&&(true))) (ob (aG (aJ 3 ab) h51) λca h52=>ob (stN 1 ca bu h52) λcb h53=>ifB (chk ((ld1 bv) h53) bw&&(true)) (ob (aG (aJ 4 ab) h53) λcc h54=>ob (stN 1 cc bw h54) λcd h55=>ifB (true) (ob (aG (aJ 5 ab) h55) λce h56=>ob (stN 1 ce bz h56) λcf h57=>ifB (true) (ob (ldN 6 ab h57) λcg h58=>ob (O (.func 92) [cg] h58) λch h59=>ob (aG (un prog .not ch) h59) λci h60=>aO ci (ob (aG (bld prog 39 []) h60) λcj h61=>ob (stN 6 aa cj h61) λck h62=>ob (ldN 6 aa h62) λw63 _=>some (aL [w63,(.int .u16 30)],h62)) (ob (ldN 6 ab h60) λcl h64=>ob (stN 6 aa cl h64) λcm h65=>ob (ldN 6 aa h65) λw66 _=>some (aL [w66,(.int .u16 0)],h65)))))))))) (ob (ldN 6 ab h45) λcn h67=>ob (O (.func 92) [cn] h67) λco h68=>ob (aG (un prog .not co) h68) λcp h69=>aO cp (ob (aG (bld prog 39 []) h69) λcq h70=>ob (stN 6 aa cq h70) λcr h71=>ob (ldN 6 aa h71) λw72 _=>some (aL [w72,(.int .u16 30)],h71)) (ob (ldN 6 ab h69) λcs h73=>ob (stN 6 aa cs h73) λct h74=>ob (ldN 6 aa h74) λw75 _=>some (aL [w75,(.int .u16 0)],h74))))))))))))))):=by kernel_rfl
theorem aL2:bT prog O L 88 [N,P] h=ob (aG (aP N) h) λaa h=>ob (aG (aJ 0 aa) h) λab h=>ob (aG (aJ 1 ab) h) λac h=>ob (ld1 ac h) λad h=>ob (O (.func 137) [ad,P] h) λae h=>ob (aG (aP N) h) λaf h=>ob (aG (aJ 0 af) h) λag h=>ob (aG (aJ 1 ag) h) λah h=>ob (ld1 ah h) λai h=>ob (aG (bin prog .leq 55 ae ai) h) λaj h=>ob (gd aj false (cI ae) h) λak h=>ob (gd aj false (cI N) h) λal h=>ob (gd aj false (aG (aP al)) h) λam h=>ob (gd aj false (aG (aJ 0 am)) h) λan h=>ob (gd aj false (aG (aJ 0 an)) h) λao h=>ob (gd aj false (ld1 ao) h) λap h=>ob (gd aj false (aG (bin prog .add 55 ap (.int .u64 8))) h) λaq h=>ob (gd aj false (aG (bin prog .gtr 55 ak aq)) h) λar h=>ob (aG (cQ aj (.bool true) ar) h) λau h=>aO au (some (aL [(.bool false)],h)) (ob (aG (aP N) h) λav h=>ob (aG (aJ 0 av) h) λaw h=>ob (aG (aJ 1 aw) h) λax h=>ob (stN 1 ax ae h) λay h=>some (aL [(.bool true)],h)):=by kernel_rfl
theorem aL3:bT prog O L 89 [N,P] h=ob (O (.func 138) [N,P] h) λaa h=>ob (aG (ext 0 aa) h) λab h=>ob (aG (ext 1 aa) h) λac h=>ob (aG (ext 2 aa) h) λad h=>ob (aG (un prog .not ad) h) λae h=>ob (gd ae false (cI ac) h) λaf h=>ob (gd ae false (aG (bin prog .eql 55 af (.int .u64 0))) h) λag h=>ob (aG (cQ ae (.bool true) ag) h) λah h=>ob (gd ah false (cI ac) h) λai h=>ob (gd ah false (cI N) h) λaj h=>ob (gd ah false (aG (aP aj)) h) λak h=>ob (gd ah false (aG (aJ 2 ak)) h) λal h=>ob (gd ah false (ld1 al) h) λam h=>ifB (true) (ob (gd ah false (cI N) h) λan h=>ob (gd ah false (aG (aP an)) h) λao h=>ob (gd ah false (aG (aJ 1 ao)) h) λap h=>ob (gd ah false (ld1 ap) h) λaq h=>ifB (true) (ob (gd ah false (aG (bin prog .sub 3 am aq)) h) λar h=>ob (gd ah false (eA prog 3 55 ar) h) λau h=>ob (gd ah false (aG (bin prog .gtr 55 ai au)) h) λav h=>ob (aG (cQ ah (.bool true) av) h) λaw h=>aO aw (some (aL [(.bool false)],h)) (ob (aG (aP N) h) λax h=>ob (aG (aJ 0 ax) h) λay h=>ob (stN 1 ay ab h) λaz h=>some (aL [(.bool true)],h)))):=by kernel_rfl
theorem Qu:bT prog O L 90 [N,P,Q,R] h=ob (cX 100 (Value.cells Q).toList .fix h) λaa h0=>ob (cX 39 (Value.cells R).toList .fix h0) λab h1=>ob (aG (aJ 3 ab) h1) λac h2=>ob (ld1 ac h2) λad h3=>ifB (true) (ob (aG (aJ 4 ab) h3) λae h4=>ob (ld1 ae h4) λaf h5=>ifB (true) (ob (aG (nC prog true [ad,af]) h5) λag h6=>ob (eA prog 5 3 ag h6) λah h7=>ob (aG (aP N) h7) λai h8=>ob (aG (aJ 1 ai) h8) λaj h9=>ob (aG (aJ 0 aj) h9) λak h10=>ob (ld1 ak h10) λal h11=>ifB (true) (ob (aG (bin prog .geq 3 ah al) h11) λam h12=>aO am (some (aL [(.int .u16 30)],h12)) (ob (aG (aJ 1 aa) h12) λan h13=>ob (ld1 an h13) λao h14=>ob (aG (aJ 2 ab) h14) λap h15=>ob (ld1 ap h15) λaq h16=>ob (O (.func 139) [ao,aq] h16) λar h17=>ob (aG (bin prog .neq 51 ar (.int .u16 0)) h17) λau h18=>aO au (some (aL [ar],h18)) (ob (aG (aJ 3 ab) h18) λav h19=>ob (ld1 av h19) λaw h20=>ob (eA prog 5 3 aw h20) λax h21=>ob (aG (aJ 4 ab) h21) λay h22=>ob (ld1 ay h22) λaz h23=>ob (eA prog 5 3 az h23) λba h24=>ob (aG (aJ 1 ab) h24) λbb h25=>ob (ld1 bb h25) λbc h26=>ob (eA prog 5 3 bc h26) λbd h27=>ob (aG (aJ 5 ab) h27) λbe h28=>ob (ld1 be h28) λbf h29=>ob (aG (bld prog 54 [(0,ax),(1,ba),(2,bd),(3,bf)]) h29) λbg h30=>ob (cX 54 [(.I 0),(.I 0),(.I 0),(.int .u32 0)] .fix h30) λbh h31=>ob (stN 4 bh bg h31) λbi h32=>ob (aG (aP N) h32) λbj h33=>ob (aG (aJ 15 bj) h33) λbk h34=>ob (ld1 bk h34) λbl h35=>ifB (true) (ob (aG (aJ 1 bh) h35) λbm h36=>ob (ld1 bm h36) λbn h37=>ifB (true) (ob (O (.func 99) [N,bn] h37) λbo h38=>ifB (chk ((ld1 bk) h38) bl&&(true)) (ob (aG (aJ 2 bh) h38) λbp h39=>ob (ld1 bp h39) λbq h40=>ifB (chk ((ld1 bp) h37) bq&&(true)) (ob (ldN 4 bh h40) λbr h41=>ifB (chk ((ldN 4 bh) h37) br&&(true)) (ob (O (.func 98) [bl,P,bo,bq,br] h41) λbs h42=>ifB (true) (some (aL [(.int .u16 0)],h42)))))))))))):=by kernel_rfl
theorem aLB:bT prog O L 153 [N] h=ob (cX 141 (Value.cells N).toList .fix h) λaa h=>ob (aG (aJ 1 aa) h) λab h=>ob (ld1 ab h) λac h=>ob (aG (aJ 0 aa) h) λad h=>ob (ld1 ad h) λae h=>ob (aG (bin prog .sub 55 ac ae) h) λaf h=>ob (eA prog 55 3 af h) λag h=>some (aL [ag],h):=by kernel_rfl
theorem aAU:bT prog O L 91 [N] h=ob (aG (bin prog .eql 69 N (.slice none 0 0)) h) λaa h=>aO aa (some (aL [(.slice none 0 0)],h)) (ob (dT 54 4 0 [(.I 0),(.I 0),(.I 0),(.int .u32 0)] [] h) λab h=>ob (app 54 4 32 ab N h) λac h=>some (aL [ac],h)):=by kernel_rfl
theorem aLg:bT prog O L 110 [N] h=ob (aG (aP N) h) λaa h=>ob (aG (aJ 0 aa) h) λab h=>ob (ld1 ab h) λac h=>ifB (true) (ob (aG (aP N) h) λad h=>ob (aG (aJ 2 ad) h) λae h=>ob (ld1 ae h) λaf h=>ifB (true) (ob (aG (aP N) h) λag h=>ob (aG (aJ 1 ag) h) λah h=>ob (ld1 ah h) λai h=>ifB (true) (ob (aG (bin prog .sub 3 af ai) h) λaj h=>ob (eA prog 3 55 aj h) λak h=>ob (aG (bin prog .add 55 ac ak) h) λal h=>some (aL [al],h)))):=by kernel_rfl
theorem aL4:bT prog O L 92 [N] h=ob (cX 39 (Value.cells N).toList .fix h) λaa h=>ob (aG (aJ 0 aa) h) λab h=>ob (ld1 ab h) λac h=>ob (aG (bin prog .eql 5 ac (.int .u8 1)) h) λad h=>aO ad (ob (aG (aJ 1 aa) h) λae h=>ob (ld1 ae h) λaf h=>ob (aG (bin prog .lss 5 af (.int .u8 3)) h) λag h=>ob (gd ag true (aG (aJ 3 aa)) h) λah h=>ob (gd ag true (ld1 ah) h) λai h=>ob (gd ag true (aG (aJ 4 aa)) h) λaj h=>ob (gd ag true (ld1 aj) h) λak h=>ob (gd ag true (aG (nC prog true [ai,ak])) h) λal h=>ob (gd ag true (aG (bin prog .lss 5 al (.int .u8 6))) h) λam h=>ob (aG (cQ ag am (.bool false)) h) λan h=>ob (gd an true (aG (aJ 3 aa)) h) λao h=>ob (gd an true (ld1 ao) h) λap h=>ob (gd an true (aG (aJ 4 aa)) h) λaq h=>ob (gd an true (ld1 aq) h) λar h=>ob (gd an true (aG (bin prog .neq 5 ap ar)) h) λau h=>ob (aG (cQ an au (.bool false)) h) λav h=>some (aL [av],h)) (ob (aG (bin prog .eql 5 ac (.int .u8 2)) h) λaw h=>aO aw (aO aw (ob (aG (aJ 1 aa) h) λax h=>ob (ld1 ax h) λay h=>ob (aG (bin prog .lss 5 ay (.int .u8 3)) h) λaz h=>ob (gd az true (ldN 6 aa) h) λba h=>ob (gd az true (aG (aJ 0 aa)) h) λbb h=>ob (gd az true (ld1 bb) h) λbc h=>ob (gd az true (aG (aJ 1 aa)) h) λbd h=>ob (gd az true (ld1 bd) h) λbe h=>ob (gd az true (aG (aJ 2 aa)) h) λbf h=>ob (gd az true (ld1 bf) h) λbg h=>ob (gd az true (aG (bld prog 39 [(0,bc),(1,be),(2,bg)])) h) λbh h=>ob (gd az true (aG (bin prog .eql 39 ba bh)) h) λbi h=>ob (aG (cQ az bi (.bool false)) h) λbj h=>some (aL [bj],h)) (some (aL [(.bool false)],h))) (ob (aG (bin prog .eql 5 ac (.int .u8 3)) h) λbk h=>aO bk (ob (aG (aJ 1 aa) h) λbl h=>ob (ld1 bl h) λbm h=>ob (aG (bin prog .lss 5 bm (.int .u8 3)) h) λbn h=>ob (gd bn true (ldN 6 aa) h) λbo h=>ob (gd bn true (aG (aJ 0 aa)) h) λbp h=>ob (gd bn true (ld1 bp) h) λbq h=>ob (gd bn true (aG (aJ 1 aa)) h) λbr h=>ob (gd bn true (ld1 br) h) λbs h=>ob (gd bn true (aG (aJ 2 aa)) h) λbt h=>ob (gd bn true (ld1 bt) h) λbu h=>ob (gd bn true (aG (bld prog 39 [(0,bq),(1,bs),(2,bu)])) h) λbv h=>ob (gd bn true (aG (bin prog .eql 39 bo bv)) h) λbw h=>ob (aG (cQ bn bw (.bool false)) h) λbx h=>some (aL [bx],h)) (some (aL [(.bool false)],h)))):=by kernel_rfl
theorem aL5:bT prog O L 93 [N,P] h=ob (aG (bin prog .shr 23 P (.int .u64 8)) h) λaa h=>ob (eA prog 23 5 aa h) λab h=>ob (eA prog 23 5 P h) λac h=>ob (dT 5 1 2 [(.int .u8 0)] [(0,ab),(1,ac)] h) λad h=>ob (app 5 1 1 N ad h) λae h=>some (aL [ae],h):=by kernel_rfl
theorem aL6:bT prog O L 94 [N,P] h=ob (aG (bin prog .shr 37 P (.int .u64 16)) h) λaa h=>ob (eA prog 37 23 aa h) λab h=>ob (O (.func 93) [N,ab] h) λac h=>ob (eA prog 37 23 P h) λad h=>ob (O (.func 93) [ac,ad] h) λae h=>some (aL [ae],h):=by kernel_rfl
def Qv:Code:=bR [1,1,0,1,0,0] (cG prog 95)
def Qw:KV:=(dY 0 (eK prog O L (bR [1,1,1] (cG prog 95)) (eX prog Tryz.f95)))
theorem aL7:Qw O L (.exit 0) [a,b,c,d,e,f,g,i,j,l,m,n,o,p,q,r] h=ob (ld1 d h) λaa h=>some (aL [aa],h):=by kernel_rfl
theorem aAV:aN prog O L Qv k [a,b,c,d,e,f,g,i,j,l,m,n,o,p,q,r] h=ob (aG (bin prog .lss 3 j i) h) λaa h=>aO aa (ob (aG (aT 1 g j) h) λab h=>ob (ld1 ab h) λac h=>ob (O (.func 140) [d,ac] h) λad h=>ob (aG (bin prog .add 3 j (.I 1)) h) λae h=>k .normal [a,b,c,d,e,ac,g,i,ae,aa,ab,ac,ac,ad,ae,r] h) (k (.exit 0) [a,b,c,d,e,f,g,i,j,aa,m,n,o,p,q,r] h):=by kernel_rfl
theorem aL8:bT prog O L 95 [N] h=ob (cX 253 [(.int .u16 0)] .fix h) λaa h=>ob (stN 1 aa (.int .u16 65535) h) λab h=>ob (aG (aZ N) h) λac h=>L (aN prog O L Qv) (Qw O L) [N,undef,(.int .u16 0),aa,undef,undef,N,ac,(.I 0),undef,undef,undef,undef,undef,undef,undef] h:=by kernel_rfl
theorem aAW:bT prog O L 97 [N,P] h=ob (cX 54 [(.I 0),(.I 0),(.I 0),(.int .u32 0)] .fix h) λaa h=>ob (O (.func 141) [N,P] h) λab h=>ob (aG (bin prog .eql 3 ab (.I 0)) h) λac h=>aO ac (ob (aG (bld prog 54 []) h) λad h=>ob (stN 4 aa ad h) λae h=>ob (ldN 4 aa h) λw5 _=>some (aL [w5,(.bool false)],h)) (ob (aG (aP N) h) λaf h=>ob (aG (aJ 0 af) h) λag h=>ob (aG (sJ 3 1 ag P) h) λah h=>ob (ld1 ah h) λai h=>ob (aG (aT 4 ai (.I 0)) h) λaj h=>ob (ldN 4 aj h) λak h=>ob (cX 54 [(.I 0),(.I 0),(.I 0),(.int .u32 0)] .fix h) λal h=>ob (stN 4 al ak h) λam h=>ob (aG (aP N) h) λan h=>ob (aG (aJ 0 an) h) λao h=>ob (aG (sJ 3 1 ao P) h) λap h=>ob (ld1 ap h) λaq h=>ifB (true) (ob (slc prog 4 aq (some (.I 1)) none none h) λar h=>ifB (true) (ob (aG (aP N) h) λau h=>ob (aG (aJ 0 au) h) λav h=>ob (aG (sJ 3 1 av P) h) λaw h=>ob (stN 1 aw ar h) λax h=>ifB (true) (ob (ldN 4 al h) λay h=>ob (stN 4 aa ay h) λaz h=>ob (ldN 4 aa h) λw25 _=>some (aL [w25,(.bool true)],h))))):=by kernel_rfl
theorem aL9:bT prog O L 99 [N,P] h=ob (aG (aP N) h) λaa h=>ob (aG (aJ 12 aa) h) λab h=>ob (ld1 ab h) λac h=>ob (aG (bin prog .eql 3 P ac) h) λad h=>aO ad (some (aL [(.I 0)],h)) (ob (aG (aP N) h) λae h=>ob (aG (aJ 1 ae) h) λaf h=>ob (aG (aJ 10 af) h) λag h=>ob (ld1 ag h) λah h=>ifB (true) (ob (aG (aP N) h) λai h=>ob (aG (aJ 12 ai) h) λaj h=>ob (ld1 aj h) λak h=>ifB (true) (ob (aG (aT 1 ah ak) h) λal h=>ob (ld1 al h) λam h=>ifB (true) (ob (aG (aT 1 am P) h) λan h=>ob (ld1 an h) λao h=>ifB (true) (ob (cX 3 [(.I 0)] .fix h) λap h=>ob (stN 1 ap ao h) λaq h=>ifB (true) (ob (aG (aP N) h) λar h=>ob (aG (aJ 13 ar) h) λau h=>ob (ld1 au h) λav h=>ob (slc prog 3 av (some (.I 1)) none none h) λaw h=>ob (O (.func 85) [aw,(.func (.func 144) #[] #[ap])] h) λax h=>ob (aG (bin prog .add 3 ax (.I 1)) h) λay h=>some (aL [ay],h))))))):=by kernel_rfl
def Pm:Code:=bR [1,1,1,1,1,1,0,0,0] (cG prog 100)
def Pn:KV:=(dY 0 (eK prog O L (bR [1,1,1,1,1,1,1] (cG prog 100)) (eX prog Tryz.f100)))
theorem aK3:Pn O L (.exit 0) [a,b,c,d,e,f,g,i,j,l,m,n,o,p,q,r,s,t,u,v,w,x,y,z,A,B,C,D,E,F,G,H,I,J,zz,zy,zx,zw,zv,zu,zt,zs,zr,zq,zp,zo,zn,zm] h=some (aL [i],h):=by kernel_rfl
theorem aKZ:aN prog O L Pm k [a,b,c,d,e,f,g,i,j,l,m,n,o,p,q,r,s,t,u,v,w,x,y,z,A,B,C,D,E,F,G,H,I,J,zz,zy,zx,zw,zv,zu,zt,zs,zr,zq,zp,zo,zn,zm] h=ob (aG (aZ i) h) λaa h=>ob (aG (bin prog .lss 3 j aa) h) λab h=>aO ab (ob (slc prog 1 i (some j) none none h) λac h=>ifB (true) (ob (slc prog 1 i none (some j) none h) λad h=>ifB (true) (ob (cpy 1 ac ad h) λae h=>ifB (true) (ob (aG (bin prog .add 3 j ae) h) λaf h=>k .normal [a,b,c,d,e,f,g,i,af,l,m,n,o,p,q,r,s,t,u,v,w,x,y,z,A,B,C,D,E,F,G,H,I,J,j,i,aa,ab,j,i,j,ac,i,j,ad,ae,af,zm] h)))) (k (.exit 0) [a,b,c,d,e,f,g,i,j,l,m,n,o,p,q,r,s,t,u,v,w,x,y,z,A,B,C,D,E,F,G,H,I,J,j,i,aa,ab,zv,zu,zt,zs,zr,zq,zp,zo,zn,zm] h):=by kernel_rfl
def aK2:Code:=bR [1,1,1,1,1,1,0,0,0] (cG prog 100)
def aK7:KV:=(dY 0 (eK prog O L (bR [1,1,1,1,1,1,1] (cG prog 100)) (eX prog Tryz.f100)))
def aK1:Code:=bR [1,1,1,1,1,1,0,0,0] (cG prog 100)
def aK6:KV:=(dY 0 (eK prog O L (bR [1,1,1,1,1,1,1] (cG prog 100)) (eX prog Tryz.f100)))
def aK0:Code:=bR [1,1,1,1,1,1,0,0,0] (cG prog 100)
def aK5:KV:=(dY 0 (eK prog O L (bR [1,1,1,1,1,1,1] (cG prog 100)) (eX prog Tryz.f100)))
theorem aK4:bT prog O L 100 [N,P] h=ob (aG (bin prog .lss 3 P (.I 0)) h) λaa h=>aO aa (ob (dZ /- operation -/ h) λab h=>ob (dZ /- operation -/ h) λac h=>ob (aG (aZ N) h) λad h=>ob (eA prog 3 116 ad h) λae h=>ob (eA prog 3 116 P h) λaf h=>ob (O (.func 145) [ae,af] h) λag h=>ob (aG (ext 0 ag) h) λah h=>ob (aG (ext 1 ag) h) λai h=>ob (aG (bin prog .gtr 116 ah (.int .u64 0)) h) λaj h=>ob (gd aj false (cI ai) h) λak h=>ob (gd aj false (aG (bin prog .gtr 116 ak (.int .u64 9223372036854775807))) h) λal h=>ob (aG (cQ aj (.bool true) al) h) λam h=>aO am (ob (dZ /- operation -/ h) λan h=>ob (dZ /- operation -/ h) λao h=>ob (eA prog 116 3 ai h) λap h=>ob (lR 3 1 8 [(.I 0)] ap ap h) λaq h=>ob (cpy 1 aq N h) λar h=>L (aN prog O L aK0) (aK5 O L) [N,P,undef,undef,(.slice none 0 0),ah,ai,aq,ar,P,aa,ab,ag,N,ad,ae,P,af,ag,ah,ai,ah,aj,aj,ak,al,am,an,ai,ap,aq,aq,N,ar,undef,undef,undef,undef,undef,undef,undef,undef,undef,undef,undef,undef,undef,undef] h) (ob (eA prog 116 3 ai h) λau h=>ob (lR 3 1 8 [(.I 0)] au au h) λav h=>ob (cpy 1 av N h) λaw h=>L (aN prog O L aK1) (aK6 O L) [N,P,undef,undef,(.slice none 0 0),ah,ai,av,aw,P,aa,ab,ag,N,ad,ae,P,af,ag,ah,ai,ah,aj,aj,ak,al,am,undef,ai,au,av,av,N,aw,undef,undef,undef,undef,undef,undef,undef,undef,undef,undef,undef,undef,undef,undef] h)) (ob (aG (aZ N) h) λax h=>ob (eA prog 3 116 ax h) λay h=>ob (eA prog 3 116 P h) λaz h=>ob (O (.func 145) [ay,az] h) λba h=>ob (aG (ext 0 ba) h) λbb h=>ob (aG (ext 1 ba) h) λbc h=>ob (aG (bin prog .gtr 116 bb (.int .u64 0)) h) λbd h=>ob (gd bd false (cI bc) h) λbe h=>ob (gd bd false (aG (bin prog .gtr 116 be (.int .u64 9223372036854775807))) h) λbf h=>ob (aG (cQ bd (.bool true) bf) h) λbg h=>aO bg (ob (dZ /- operation -/ h) λbh h=>ob (dZ /- operation -/ h) λbi h=>ob (eA prog 116 3 bc h) λbj h=>ob (lR 3 1 8 [(.I 0)] bj bj h) λbk h=>ob (cpy 1 bk N h) λbl h=>L (aN prog O L aK2) (aK7 O L) [N,P,undef,undef,(.slice none 0 0),bb,bc,bk,bl,P,aa,undef,ba,N,ax,ay,P,az,ba,bb,bc,bb,bd,bd,be,bf,bg,bh,bc,bj,bk,bk,N,bl,undef,undef,undef,undef,undef,undef,undef,undef,undef,undef,undef,undef,undef,undef] h) (ob (eA prog 116 3 bc h) λbm h=>ob (lR 3 1 8 [(.I 0)] bm bm h) λbn h=>ob (cpy 1 bn N h) λbo h=>L (aN prog O L Pm) (Pn O L) [N,P,undef,undef,(.slice none 0 0),bb,bc,bn,bo,P,aa,undef,ba,N,ax,ay,P,az,ba,bb,bc,bb,bd,bd,be,bf,bg,undef,bc,bm,bn,bn,N,bo,undef,undef,undef,undef,undef,undef,undef,undef,undef,undef,undef,undef,undef,undef] h)):=by kernel_rfl
def Po:Code:=bR [1,1,0,1,0,0] (cG prog 102)
def Pp:KV:=(dY 0 (eK prog O L (bR [1,1,1] (cG prog 102)) (eX prog Tryz.f102)))
theorem aK8:Pp O L (.exit 0) [a,b,c,d,e,f,g,i,j,l,m,n,o,p,q,r,s,t,u,v,w,x,y,z,A,B,C,D,E,F,G,H,I,J,zz,zy,zx,zw,zv,zu,zt,zs,zr,zq,zp,zo,zn,zm,zl,zk,zj,zi,zh,zg,zf,ze,zd] h=some (aL [i],h):=by kernel_rfl
theorem aAz:aN prog O L Po k [a,b,c,d,e,f,g,i,j,l,m,n,o,p,q,r,s,t,u,v,w,x,y,z,A,B,C,D,E,F,G,H,I,J,zz,zy,zx,zw,zv,zu,zt,zs,zr,zq,zp,zo,zn,zm,zl,zk,zj,zi,zh,zg,zf,ze,zd] h=ob (aG (bin prog .lss 3 s r) h) λaa h=>aO aa (ob (aG (aT 1 q s) h) λab h=>ob (ld1 ab h) λac h=>ob (aG (aP b) h) λad h=>ob (aG (aJ 1 ad) h) λae h=>ob (ld1 ae h) λaf h=>ifB (true) (ob (aG (bin prog .and 23 ac af) h) λag h=>ob (aG (aP a) h) λah h=>ob (aG (aJ 0 ah) h) λai h=>ob (ld1 ai h) λaj h=>ifB (true) (ob (aG (aT 1 aj s) h) λak h=>ob (ld1 ak h) λal h=>ifB (true) (ob (aG (aZ c) h) λam h=>ob (O (.func 103) [ag,al,am] h) λan h=>ifB (true) (ob (aG (bin prog .neq 3 an (.I (-1))) h) λao h=>ob (gd ao true (cI b) h) λap h=>ob (gd ao true (aG (aP ap)) h) λaq h=>ob (gd ao true (aG (aJ 2 aq)) h) λar h=>ob (gd ao true (ld1 ar) h) λau h=>ob (gd ao true (cI s) h) λav h=>ob (gd ao true (O (.func 148) [au,av]) h) λaw h=>ob (aG (cQ ao aw (.bool false)) h) λax h=>aO ax (ob (aG (aT 1 i an) h) λay h=>ob (ld1 ay h) λaz h=>ifB (true) (ob (aG (bin prog .shl 23 (.int .u16 1) s) h) λba h=>ob (aG (bin prog .or 23 az ba) h) λbb h=>ob (aG (aT 1 i an) h) λbc h=>ob (stN 1 bc bb h) λbd h=>ifB (true) (ob (aG (bin prog .add 3 s (.I 1)) h) λbe h=>k .normal [a,b,c,d,e,f,g,i,s,ac,an,n,o,p,q,r,be,aa,s,ab,ac,ac,b,ad,ae,af,ag,a,ah,ai,aj,s,ak,al,c,am,an,an,ao,ao,ap,aq,ar,au,av,aw,ax,i,an,ay,az,s,ba,bb,bc,be,zd] h))) (ob (aG (bin prog .add 3 s (.I 1)) h) λbf h=>k .normal [a,b,c,d,e,f,g,i,s,ac,an,n,o,p,q,r,bf,aa,s,ab,ac,ac,b,ad,ae,af,ag,a,ah,ai,aj,s,ak,al,c,am,an,an,ao,ao,ap,aq,ar,au,av,aw,ax,zm,zl,zk,zj,zi,zh,zg,zf,bf,zd] h)))))) (k (.exit 0) [a,b,c,d,e,f,g,i,j,l,m,n,o,p,q,r,s,aa,u,v,w,x,y,z,A,B,C,D,E,F,G,H,I,J,zz,zy,zx,zw,zv,zu,zt,zs,zr,zq,zp,zo,zn,zm,zl,zk,zj,zi,zh,zg,zf,ze,zd] h):=by kernel_rfl
theorem aK9:bT prog O L 102 [N,P,Q] h=ob (aG (aZ Q) h) λaa h=>ob (lR 23 1 2 [(.int .u16 0)] aa aa h) λab h=>ob (aG (aZ Q) h) λac h=>L (aN prog O L Po) (Pp O L) [N,P,Q,undef,undef,undef,(.slice none 0 0),ab,undef,undef,undef,Q,aa,ab,Q,ac,(.I 0),undef,undef,undef,undef,undef,undef,undef,undef,undef,undef,undef,undef,undef,undef,undef,undef,undef,undef,undef,undef,undef,undef,undef,undef,undef,undef,undef,undef,undef,undef,undef,undef,undef,undef,undef,undef,undef,undef,undef,undef] h:=by kernel_rfl
def Pr:Code:=bR [1,1,0,1,0,0] (cG prog 104)
def Ps:KV:=(dY 0 (eK prog O L (bR [1,1,1] (cG prog 104)) (eX prog Tryz.f104)))
theorem aLa:Ps O L (.exit 0) [a,b,c,d,e,f,g,i,j,l,m,n,o,p,q,r,s,t,u,v,w,x,y,z,A,B,C,D,E,F,G,H,I,J,zz,zy,zx,zw,zv,zu,zt,zs,zr,zq,zp,zo,zn,zm,zl,zk] h=some (aL [i],h):=by kernel_rfl
theorem aAA:aN prog O L Pr k [a,b,c,d,e,f,g,i,j,l,m,n,o,p,q,r,s,t,u,v,w,x,y,z,A,B,C,D,E,F,G,H,I,J,zz,zy,zx,zw,zv,zu,zt,zs,zr,zq,zp,zo,zn,zm,zl,zk] h=ob (aG (bin prog .lss 3 q p) h) λaa h=>aO aa (ob (aG (aP a) h) λab h=>ob (aG (aJ 15 ab) h) λac h=>ob (ld1 ac h) λad h=>ob (O (.func 96) [ad,b,c,q] h) λae h=>ob (aG (bin prog .eql 3 ae (.I 0)) h) λaf h=>aO af (ob (aG (bin prog .add 3 q (.I 1)) h) λag h=>k .normal [a,b,c,d,e,f,g,i,q,l,m,n,o,p,ag,aa,q,a,ab,ac,ad,b,c,q,ae,af,C,D,E,F,G,H,I,J,zz,zy,zx,zw,zv,zu,zt,zs,zr,zq,zp,zo,zn,zm,ag,zk] h) (ob (aG (bin prog .eql 3 c (.I 0)) h) λah h=>ob (gd ah false (cI a) h) λai h=>ob (gd ah false (aG (aP ai)) h) λaj h=>ob (gd ah false (aG (aJ 13 aj)) h) λak h=>ob (gd ah false (ld1 ak) h) λal h=>ob (gd ah false (cI c) h) λam h=>ob (gd ah false (aG (aT 3 al am)) h) λan h=>ob (gd ah false (aG (aJ 1 an)) h) λao h=>ob (gd ah false (ld1 ao) h) λap h=>ob (gd ah false (cI q) h) λaq h=>ob (gd ah false (aG (aT 2 ap aq)) h) λar h=>ob (gd ah false (aG (aJ 0 ar)) h) λau h=>ob (gd ah false (ld1 au) h) λav h=>ob (gd ah false (O (.func 149) [av]) h) λaw h=>ob (gd ah false (aG (bin prog .gtr 3 aw (.I 0))) h) λax h=>ob (aG (cQ ah (.bool true) ax) h) λay h=>aO ay (ob (aG (bin prog .shl 23 (.int .u16 1) q) h) λaz h=>ob (aG (bin prog .or 23 i az) h) λba h=>ob (aG (bin prog .add 3 q (.I 1)) h) λbb h=>k .normal [a,b,c,d,e,f,g,ba,q,l,m,n,o,p,bb,aa,q,a,ab,ac,ad,b,c,q,ae,af,c,ah,ah,ai,aj,ak,al,am,an,ao,ap,aq,ar,au,av,aw,ax,ay,i,q,az,ba,bb,zk] h) (ob (aG (bin prog .add 3 q (.I 1)) h) λbc h=>k .normal [a,b,c,d,e,f,g,i,q,l,m,n,o,p,bc,aa,q,a,ab,ac,ad,b,c,q,ae,af,c,ah,ah,ai,aj,ak,al,am,an,ao,ap,aq,ar,au,av,aw,ax,ay,zp,zo,zn,zm,bc,zk] h))) (k (.exit 0) [a,b,c,d,e,f,g,i,j,l,m,n,o,p,q,aa,s,t,u,v,w,x,y,z,A,B,C,D,E,F,G,H,I,J,zz,zy,zx,zw,zv,zu,zt,zs,zr,zq,zp,zo,zn,zm,zl,zk] h):=by kernel_rfl
theorem aLb:bT prog O L 104 [N,P,Q] h=ob (aG (aP N) h) λaa h=>ob (aG (aJ 1 aa) h) λab h=>ob (aG (aJ 2 ab) h) λac h=>ob (ld1 ac h) λad h=>L (aN prog O L Pr) (Ps O L) [N,P,Q,undef,undef,undef,(.int .u16 0),(.int .u16 0),undef,N,aa,ab,ac,ad,(.I 0),undef,undef,undef,undef,undef,undef,undef,undef,undef,undef,undef,undef,undef,undef,undef,undef,undef,undef,undef,undef,undef,undef,undef,undef,undef,undef,undef,undef,undef,undef,undef,undef,undef,undef,undef] h:=by kernel_rfl
theorem aLc:bT prog O L 105 [N,P] h=ob (aG (aP N) h) λaa h0=>ob (aG (aJ 0 aa) h0) λab h1=>ob (ld1 ab h1) λac h2=>ob (aG (aZ ac) h2) λad h3=>ob (aG (bin prog .shl 23 (.int .u16 1) ad) h3) λae h4=>ob (aG (bin prog .sub 23 ae (.int .u16 1)) h4) λaf h5=>ob (aG (bin prog .and 23 P af) h5) λag h6=>ob (aG (bin prog .eql 23 ag (.int .u16 0)) h6) λah h7=>aO ah (some (aL [(.I (-1))],h7)) (ob (O (.func 150) [N] h7) λai h8=>ob (aG (bin prog .and 23 ag ai) h8) λaj h9=>ob (aG (bin prog .eql 23 aj (.int .u16 0)) h9) λak h10=>aO ak (ob (aG (aP N) h10) λal h11=>ob (aG (aJ 1 al) h11) λam h12=>ob (ld1 am h12) λan h13=>ifB (true) (ob (aG (aP N) h13) λao h14=>ob (aG (aJ 0 ao) h14) λap h15=>ob (ld1 ap h15) λaq h16=>ifB (true) (ob (cpy 1 an aq h16) λar h17=>ifB (true) (ob (O (.func 150) [N] h17) λau h18=>ifB (true) (ob (aG (bin prog .and 23 ag au) h18) λav h19=>ob (aG (aP N) h19) λaw h20=>ob (aG (aJ 2 aw) h20) λax h21=>ob (ld1 ax h21) λay h22=>ifB (chk ((ld1 ax) h17) ay&&(true)) (ob (O (.func 103) [av,ay,ad] h22) λaz h23=>ifB (true) (ob (aG (aP N) h23) λba h24=>ob (aG (aJ 1 ba) h24) λbb h25=>ob (ld1 bb h25) λbc h26=>ob (aG (aT 1 bc az) h26) λbd h27=>ob (ld1 bd h27) λbe h28=>ob (aG (bin prog .sub 3 be (.I 1)) h28) λbf h29=>ob (aG (aT 1 bc az) h29) λbg h30=>ob (stN 1 bg bf h30) λbh h31=>ob (aG (bin prog .add 3 az (.I 1)) h31) λbi h32=>ob (aG (bin prog .rem 3 bi ad) h32) λbj h33=>ob (aG (aP N) h33) λbk h34=>ob (aG (aJ 2 bk) h34) λbl h35=>ob (stN 1 bl bj h35) λbm h36=>some (aL [az],h36)))))))) (ob (O (.func 150) [N] h10) λbn h37=>ifB (true) (ob (aG (bin prog .and 23 ag bn) h37) λbo h38=>ob (aG (aP N) h38) λbp h39=>ob (aG (aJ 2 bp) h39) λbq h40=>ob (ld1 bq h40) λbr h41=>ifB (chk ((ld1 bq) h10) br&&(true)) (ob (O (.func 103) [bo,br,ad] h41) λbs h42=>ifB (true) (ob (aG (aP N) h42) λbt h43=>ob (aG (aJ 1 bt) h43) λbu h44=>ob (ld1 bu h44) λbv h45=>ob (aG (aT 1 bv bs) h45) λbw h46=>ob (ld1 bw h46) λbx h47=>ob (aG (bin prog .sub 3 bx (.I 1)) h47) λbz h48=>ob (aG (aT 1 bv bs) h48) λca h49=>ob (stN 1 ca bz h49) λcb h50=>ob (aG (bin prog .add 3 bs (.I 1)) h50) λcc h51=>ob (aG (bin prog .rem 3 cc ad) h51) λcd h52=>ob (aG (aP N) h52) λce h53=>ob (aG (aJ 2 ce) h53) λcf h54=>ob (stN 1 cf cd h54) λcg h55=>some (aL [bs],h55)))))):=by kernel_rfl
theorem aLd:bT prog O L 107 [N] h=ob (aG (aP N) h) λaa h=>ob (aG (aJ 1 aa) h) λab h=>ob (ld1 ab h) λac h=>ob (aG (bin prog .eql 3 ac (.I 0)) h) λad h=>aO ad (some (aL [(.bool false)],h)) (ob (aG (aP N) h) λae h=>ob (aG (aJ 1 ae) h) λaf h=>ob (ld1 af h) λag h=>ob (aG (bin prog .sub 3 ag (.I 1)) h) λah h=>ob (aG (aP N) h) λai h=>ob (aG (aJ 1 ai) h) λaj h=>ob (stN 1 aj ah h) λak h=>some (aL [(.bool true)],h)):=by kernel_rfl
theorem aLe:bT prog O L 108 [N,P] h=ob (cX 54 (Value.cells P).toList .fix h) λaa h=>ob (aG (aP N) h) λab h=>ob (aG (aJ 3 ab) h) λac h=>ob (ld1 ac h) λad h=>ifB (true) (ob (ldN 4 aa h) λae h=>ifB (true) (ob (dT 54 4 1 [(.I 0),(.I 0),(.I 0),(.int .u32 0)] [(0,ae)] h) λaf h=>ob (app 54 4 32 ad af h) λag h=>ifB (true) (ob (aG (aP N) h) λah h=>ob (aG (aJ 3 ah) h) λai h=>ob (stN 1 ai ag h) λaj h=>ifB (true) (some (aL [],h))))):=by kernel_rfl
theorem aLf:bT prog O L 109 [N] h=ob (aG (aP N) h) λaa h=>ob (aG (aJ 0 aa) h) λab h=>ob (ldN 2 ab h) λac h=>ob (O (.func 153) [ac] h) λad h=>ob (aG (bin prog .eql 3 ad (.I 0)) h) λae h=>aO ae (some (aL [(.int .u64 0),(.bool false)],h)) (ob (aG (aP N) h) λaf h=>ob (aG (aJ 0 af) h) λag h=>ob (aG (aJ 0 ag) h) λah h=>ob (ld1 ah h) λai h=>ob (aG (aP N) h) λaj h=>ob (aG (aJ 0 aj) h) λak h=>ob (aG (aJ 0 ak) h) λal h=>ob (ld1 al h) λam h=>ob (aG (bin prog .add 55 am (.int .u64 1)) h) λan h=>ob (aG (aP N) h) λao h=>ob (aG (aJ 0 ao) h) λap h=>ob (aG (aJ 0 ap) h) λaq h=>ob (stN 1 aq an h) λar h=>some (aL [ai,(.bool true)],h)):=by kernel_rfl
def Pz:Code:=bR [1,1,0,1,0,0] (cG prog 136)
def P0:KV:=(dY 0 (eK prog O L (bR [1,1,1] (cG prog 136)) (eX prog Tryz.f136)))
theorem aLl:P0 O L (.exit 0) [a,b,c,d,e,f,g,i,j,l,m,n,o,p,q,r,s,t,u] h=some (aL [d],h):=by kernel_rfl
theorem aAD:aN prog O L Pz k [a,b,c,d,e,f,g,i,j,l,m,n,o,p,q,r,s,t,u] h=ob (aG (bin prog .lss 3 j i) h) λaa h=>aO aa (ob (aG (aT 1 g j) h) λab h=>ob (ld1 ab h) λac h=>ob (aG (bin prog .shl 37 d (.int .u64 8)) h) λad h=>ob (eA prog 5 37 ac h) λae h=>ob (aG (bin prog .or 37 ad ae) h) λaf h=>ob (aG (bin prog .add 3 j (.I 1)) h) λag h=>k .normal [a,b,c,af,e,ac,g,i,ag,aa,ab,ac,d,ad,ac,ae,af,ag,u] h) (k (.exit 0) [a,b,c,d,e,f,g,i,j,aa,m,n,o,p,q,r,s,t,u] h):=by kernel_rfl
theorem aLm:bT prog O L 136 [N] h=ob (aG (aZ N) h) λaa h=>L (aN prog O L Pz) (P0 O L) [N,undef,(.int .u32 0),(.int .u32 0),undef,undef,N,aa,(.I 0),undef,undef,undef,undef,undef,undef,undef,undef,undef,undef] h:=by kernel_rfl
theorem aLn:bT prog O L 137 [N,P] h=ob (aG (bin prog .sub 55 N (.int .u64 32768)) h) λaa h=>ob (O (.func 174) [aa] h) λab h=>ob (aG (bin prog .sub 23 P ab) h) λac h=>ob (eA prog 23 55 ac h) λad h=>ob (aG (bin prog .add 55 aa ad) h) λae h=>some (aL [ae],h):=by kernel_rfl
theorem aLo:bT prog O L 138 [N,P] h=ob (aG (aP N) h) λaa h=>ob (aG (aJ 0 aa) h) λab h=>ob (ld1 ab h) λac h=>ob (O (.func 137) [ac,P] h) λad h=>ob (aG (aP N) h) λae h=>ob (aG (aJ 0 ae) h) λaf h=>ob (ld1 af h) λag h=>ifB (true) (ob (aG (bin prog .sub 55 ad ag) h) λah h=>ob (aG (aP N) h) λai h=>ob (aG (aJ 0 ai) h) λaj h=>ob (ld1 aj h) λak h=>ifB (true) (ob (aG (bin prog .geq 55 ad ak) h) λal h=>some (aL [ad,ah,al],h))):=by kernel_rfl
theorem aLp:bT prog O L 139 [N,P] h=ob (O (.func 138) [N,P] h) λaa h=>ob (aG (ext 0 aa) h) λab h=>ob (aG (ext 1 aa) h) λac h=>ob (aG (ext 2 aa) h) λad h=>ob (aG (un prog .not ad) h) λae h=>aO ae (some (aL [(.int .u16 60)],h)) (ob (aG (aP N) h) λaf h=>ob (aG (aJ 2 af) h) λag h=>ob (ld1 ag h) λah h=>ifB (true) (ob (aG (aP N) h) λai h=>ob (aG (aJ 1 ai) h) λaj h=>ob (ld1 aj h) λak h=>ifB (true) (ob (aG (bin prog .sub 3 ah ak) h) λal h=>ob (eA prog 3 55 al h) λam h=>ob (aG (bin prog .geq 55 ac am) h) λan h=>aO an (some (aL [(.int .u16 61)],h)) (ob (aG (bin prog .add 55 ab (.int .u64 1)) h) λao h=>ob (aG (aP N) h) λap h=>ob (aG (aJ 0 ap) h) λaq h=>ob (stN 1 aq ao h) λar h=>ob (aG (aP N) h) λau h=>ob (aG (aJ 1 au) h) λav h=>ob (ld1 av h) λaw h=>ob (aG (bin prog .add 3 aw (.I 1)) h) λax h=>ob (aG (aP N) h) λay h=>ob (aG (aJ 1 ay) h) λaz h=>ob (stN 1 az ax h) λba h=>some (aL [(.int .u16 0)],h))))):=by kernel_rfl
def P3:Code:=bR [1,1,0,0] (cG prog 140)
def P4 (O:aH)(L:LV):KV:=(dY 0 (eX prog Tryz.f140))
theorem aLs:P4 O L (.exit 0) [a,b,c,d,e,f,g,i,j,l,m,n,o,p,q,r,s] h=some (aL [],h):=by kernel_rfl
theorem aAF:aN prog O L P3 k [a,b,c,d,e,f,g,i,j,l,m,n,o,p,q,r,s] h=ob (aG (bin prog .lss 3 o (.I 8)) h) λaa h=>aO aa (ob (O (.func 175) [a] h) λab h=>ob (aG (bin prog .add 3 o (.I 1)) h) λac h=>k .normal [a,b,c,d,e,f,g,i,j,l,m,n,ac,aa,a,ab,ac] h) (k (.exit 0) [a,b,c,d,e,f,g,i,j,l,m,n,o,aa,q,r,s] h):=by kernel_rfl
theorem aLt:bT prog O L 140 [N,P] h=ob (aG (aP N) h) λaa h=>ob (ld1 aa h) λab h=>ob (eA prog 5 253 P h) λac h=>ob (aG (bin prog .shl 253 ac (.int .u64 8)) h) λad h=>ob (aG (bin prog .xor 253 ab ad) h) λae h=>ob (aG (aP N) h) λaf h=>ob (stN 1 af ae h) λag h=>L (aN prog O L P3) (P4 O L) [N,P,undef,undef,N,aa,ab,P,ac,ad,ae,af,(.I 0),undef,undef,undef,undef] h:=by kernel_rfl
theorem aLv:bT prog O L 144 [N,P] h=ob (cX 94 (Value.cells N).toList .fix h) λaa h=>ob (aG (aJ 0 aa) h) λab h=>ob (ld1 ab h) λac h=>ob (ld1 P h) λad h=>ob (aG (bin prog .eql 3 ac ad) h) λae h=>some (aL [ae],h):=by kernel_rfl
theorem aLx:bT prog O L 148 [N,P] h=ob (aG (bin prog .geq 3 P (.I 0)) h) λaa h=>ob (gd aa true (cI P) h) λab h=>ob (gd aa true (aG (bin prog .lss 3 ab (.I 16))) h) λac h=>ob (aG (cQ aa ac (.bool false)) h) λad h=>ob (gd ad true (cI N) h) λae h=>ob (gd ad true (cI P) h) λaf h=>ob (gd ad true (aG (bin prog .shr 23 ae af)) h) λag h=>ob (gd ad true (aG (bin prog .and 23 ag (.int .u16 1))) h) λah h=>ob (gd ad true (aG (bin prog .eql 23 ah (.int .u16 1))) h) λai h=>ob (aG (cQ ad ai (.bool false)) h) λaj h=>some (aL [aj],h):=by kernel_rfl
def P5:Code:=bR [1,1,0,1,0,0] (cG prog 150)
def P6:KV:=(dY 0 (eK prog O L (bR [1,1,1] (cG prog 150)) (eX prog Tryz.f150)))
theorem aLz:P6 O L (.exit 0) [a,b,c,d,e,f,g,i,j,l,m,n,o,p,q,r,s,t,u,v,w,x,y,z] h=some (aL [d],h):=by kernel_rfl
theorem aAG:aN prog O L P5 k [a,b,c,d,e,f,g,i,j,l,m,n,o,p,q,r,s,t,u,v,w,x,y,z] h=ob (aG (bin prog .lss 3 n m) h) λaa h=>aO aa (ob (aG (aT 1 l n) h) λab h=>ob (ld1 ab h) λac h=>ob (aG (bin prog .gtr 3 ac (.I 0)) h) λad h=>aO ad (ob (aG (bin prog .shl 23 (.int .u16 1) n) h) λae h=>ob (aG (bin prog .or 23 d ae) h) λaf h=>ob (aG (bin prog .add 3 n (.I 1)) h) λag h=>k .normal [a,b,c,af,n,ac,g,i,j,l,m,ag,aa,n,ab,ac,ac,ad,d,n,ae,af,ag,z] h) (ob (aG (bin prog .add 3 n (.I 1)) h) λah h=>k .normal [a,b,c,d,n,ac,g,i,j,l,m,ah,aa,n,ab,ac,ac,ad,u,v,w,x,ah,z] h)) (k (.exit 0) [a,b,c,d,e,f,g,i,j,l,m,n,aa,p,q,r,s,t,u,v,w,x,y,z] h):=by kernel_rfl
theorem aLA:bT prog O L 150 [N] h=ob (aG (aP N) h) λaa h=>ob (aG (aJ 1 aa) h) λab h=>ob (ld1 ab h) λac h=>ob (aG (aZ ac) h) λad h=>L (aN prog O L P5) (P6 O L) [N,undef,(.int .u16 0),(.int .u16 0),undef,undef,N,aa,ab,ac,ad,(.I 0),undef,undef,undef,undef,undef,undef,undef,undef,undef,undef,undef,undef] h:=by kernel_rfl
theorem aLC:bT prog O L 174 [N] h=ob (eA prog 55 23 N h) λaa h=>some (aL [aa],h):=by kernel_rfl
theorem aLD:bT prog O L 175 [N] h=ob (aG (aP N) h) λaa h=>ob (ld1 aa h) λab h=>ob (aG (bin prog .and 253 ab (.int .u16 32768)) h) λac h=>ob (aG (aP N) h) λad h=>ob (ld1 ad h) λae h=>ob (aG (bin prog .shl 253 ae (.int .u64 1)) h) λaf h=>ob (aG (aP N) h) λag h=>ob (stN 1 ag af h) λah h=>ob (aG (bin prog .neq 253 ac (.int .u16 0)) h) λai h=>aO ai (ob (aG (aP N) h) λaj h=>ob (ld1 aj h) λak h=>ob (aG (bin prog .xor 253 ak (.int .u16 4129)) h) λal h=>ob (aG (aP N) h) λam h=>ob (stN 1 am al h) λan h=>some (aL [],h)) (some (aL [],h)):=by kernel_rfl
theorem aLw:bT prog O L 145 [N,P] h=aO (.bool false) (ob (eA prog 116 37 N h) λaa h=>ob (eA prog 116 37 P h) λab h=>ob (O (.func 176) [aa,ab] h) λac h=>ob (aG (ext 0 ac) h) λad h=>ob (aG (ext 1 ac) h) λae h=>ob (eA prog 37 116 ad h) λaf h=>ob (eA prog 37 116 ae h) λag h=>some (aL [af,ag],h)) (ob (O (.func 177) [N,P] h) λah h=>ob (aG (ext 0 ah) h) λai h=>ob (aG (ext 1 ah) h) λaj h=>some (aL [ai,aj],h)):=by kernel_rfl
theorem aLE:bT prog O L 177 [N,P] h=ob (aG (bin prog .and 55 N (.int .u64 4294967295)) h) λaa h=>ob (aG (bin prog .shr 55 N (.int .u64 32)) h) λab h=>ob (aG (bin prog .and 55 P (.int .u64 4294967295)) h) λac h=>ob (aG (bin prog .shr 55 P (.int .u64 32)) h) λad h=>ob (aG (bin prog .mul 55 aa ac) h) λae h=>ob (aG (bin prog .mul 55 ab ac) h) λaf h=>ob (aG (bin prog .shr 55 ae (.int .u64 32)) h) λag h=>ob (aG (bin prog .add 55 af ag) h) λah h=>ob (aG (bin prog .and 55 ah (.int .u64 4294967295)) h) λai h=>ob (aG (bin prog .shr 55 ah (.int .u64 32)) h) λaj h=>ob (aG (bin prog .mul 55 aa ad) h) λak h=>ob (aG (bin prog .add 55 ai ak) h) λal h=>ob (aG (bin prog .mul 55 ab ad) h) λam h=>ob (aG (bin prog .add 55 am aj) h) λan h=>ob (aG (bin prog .shr 55 al (.int .u64 32)) h) λao h=>ob (aG (bin prog .add 55 an ao) h) λap h=>ob (aG (bin prog .mul 55 N P) h) λaq h=>some (aL [ap,aq],h):=by kernel_rfl
end Go.Proofs.YtkeilicinggjmaaGreatDoor
end
namespace Go.Abs
open M
theorem aAY: ∀(cs:List Value)(o:Nat)(v:Value),eT cs o [v]=cs.set o v
 |[],_,_=>by simp[eT]
 |c::cs,0,v=>by simp[eT]
 |c::cs,o+1,v=>by
  rw[List.set_cons_succ,<-aAY cs o v];simp[eT]
theorem dI {H:aF}{b o:Nat}{cs:List Value}{e:TypeId}{k:Kind}{v:Value}(h:H[b]? =some (.cells cs e k))(hv:cs[o]? =some v):ld1 (.pointer (some ⟨b,o,none⟩)) H=some (v,H):=by
 rw[kM,h,uN,hv,vU]
theorem rG {H:aF}{b o n:Nat}{cs:List Value}{e:TypeId}{k:Kind}(h:H[b]? =some (.cells cs e k))(hn:o+n<=cs.length):ldN n (.pointer (some ⟨b,o,none⟩)) H=some (.agg ((cs.drop o).take n).toArray,H):=by
 rw[tT,h,uO _ _ _ _ _ hn]
theorem qN {H:aF}{b o:Nat}{cs:List Value}{e:TypeId}{k:Kind}{v:Value}(h:H[b]? =some (.cells cs e k))(hk:k≠ .ro)(ho:o<cs.length)(hv:v.cells.toList=[v])(ha:dV [v]=true):
  stN 1 (.pointer (some ⟨b,o,none⟩)) v H=some (undef,H.set b (.cells (cs.set o v) e k)):=by
 rw[mA 1 b o v (by rw[hv];rfl),h,hv,oK b cs e k o [v] hk (by simp only[aSg,List.length_nil];omega) ha,aAY]
theorem wD {H:aF}{b o n:Nat}{cs vs:List Value}{e:TypeId}{k:Kind}{v:Value}(h:H[b]? =some (.cells cs e k))(hk:k≠ .ro)(hv:v.cells.toList=vs)(hn:vs.length=n)(ho:o+n<=cs.length)(ha:dV vs=true):
  stN n (.pointer (some ⟨b,o,none⟩)) v H=some (undef,H.set b (.cells (eT cs o vs) e k)):=by
 subst hv;rw[mA n b o v hn,h,oK b cs e k o _ hk (by rw[hn];exact ho) ha]
theorem lN {H:aF}{b o:Nat}{cs:List Value}{e:TypeId}{k:Kind}{q:IntKind}{n:Int}(h:H[b]? =some (.cells cs e k))(hk:k≠ .ro)(ho:o<cs.length):
  stN 1 (.pointer (some ⟨b,o,none⟩)) (.int q n) H=some (undef,H.set b (.cells (cs.set o (.int q n)) e k)):=qN h hk ho rfl rfl
theorem fW {H:aF}{b:Nat}{x y:Blk}(h:H[b]? =some x):(H.set b y)[b]? =some y:=aR0 (aRU.mp h).1
theorem Qx (H:aF)(b:Nat)(x y:Blk):(H.set b x).set b y=H.set b y:=by simp
theorem eD (H:aF)(x:Blk):(H++[x])[H.length]? =some x:=by simp
theorem mW (H:aF)(x y:Blk):(H++[x]).set H.length y=H++[y]:=by simp
theorem oX {H:aF}{b:Nat}{x:Blk}(h:H[b]? =some x)(y:Blk):(H++[y])[b]? =some x:=by rw[aRX (aRU.mp h).1,h]
theorem dO {H:aF}{b:Nat}{x:Blk}(h:H[b]? =some x):b<H.length:=(aRU.mp h).1
theorem aMe (a b:Nat)(ha:a<18446744073709551616)(hb:b<18446744073709551616):IntKind.u64.wrap ((a:Int)-b)=(((a+(18446744073709551616-b))%18446744073709551616:Nat):Int):=by rw[uZ];omega
theorem aMb (a b:Nat):IntKind.u64.wrap ((a:Int)+b)=(((a+b)%18446744073709551616:Nat):Int):=by rw[uZ];omega
theorem aMd (a b:Nat)(ha:a<65536)(hb:b<65536):IntKind.u16.wrap ((a:Int)-b)=(((a+65536-b)%65536:Nat):Int):=by rw[Cy];omega
theorem Bi (a:Nat)(ha:a<18446744073709551616):IntKind.u64.wrap (a:Int)=a:=aHa U U
theorem aAX (a:Nat)(ha:a<4294967296):IntKind.u32.wrap (a:Int)=a:=aFI U U
theorem Do (a:Nat):IntKind.u16.wrap (a:Int)=((a%65536:Nat):Int):=by rw[Cy];omega
theorem aMc (a:Nat):IntKind.u8.wrap (a:Int)=((a%256:Nat):Int):=by rw[Cz];omega
theorem Bj (a:Nat)(ha:a<9223372036854775808):IntKind.i64.wrap (a:Int)=a:=dL U U
theorem Br.ext {H H':aF}{u:Value}{bs:List UInt8}(h:Br H u bs)(he:Ext H H'):Br H' u bs:=by
 rcases h with h|⟨b,o,c,cs,e,k,h1,h2,h3,h4⟩
 ·exact .inl h
 ·exact .inr ⟨b,o,c,cs,e,k,h1,h2,by rw[he.2 b (dO h3) id,h3],h4⟩
theorem Rs.aMa {α:Type}{el:α->List Value}{e:TypeId}{sz:Nat}{H:aF}{v:Value}{xs:List α}{P:Program}(hsz: ∀x,(el x).length=sz)(he:P.cellsOf e=sz)(h:Rs el e H v xs)(hne:xs≠[]):
  ∃b o cap,v= .slice (some ⟨b,o,none⟩) xs.length cap/\xs.length<=cap/\ ∀(H':aF),Rs el e H' v xs-> ∀(l r:Nat)(lo hi mx:Option Value)(c:Nat),bnd 0 lo=some l->bnd xs.length hi=some r->bnd cap mx=some c->l<=r->r<=xs.length->r<=c->c<=cap->
   slc P sz v lo hi mx H'=some (.slice (some ⟨b,o+l*sz,none⟩) (r-l) (c-l),H')/\Rs el e H' (.slice (some ⟨b,o+l*sz,none⟩) (r-l) (c-l)) ((xs.take r).drop l):=by
 rcases h with⟨_,h⟩|⟨b,o,cap,rfl,h3,h4⟩
 ·exact absurd h hne
 ·refine⟨b,o,cap,rfl,h3,λH' h' l r lo hi mx c h1 h2 h5 hlr hr hrc hcc=> ?_⟩
  rcases h' with⟨_,h⟩|⟨b',o',cap',heq,h3',h4'⟩
  ·exact absurd h hne
  ·cases heq
   have hl:=uP (xs.map el) (vV hsz);have hlen:((xs.take r).drop l).length=r-l:=by simp;omega
   obtain⟨e',k,pre,post,rfl,hk,hb⟩:=h4' hne;refine⟨rW (sz:=sz) hb (λh=>by rw[hk h];exact he) h1 h2 h5 hlr hrc hcc,.inr ⟨b,_,c-l,by rw[hlen],by rw[hlen];omega,λ_=>⟨e',k,pre++((xs.take l).map el).flatten,((xs.drop r).map el).flatten++post,?_,hk,?_⟩⟩⟩
   ·have hf:=uP ((xs.take l).map el) (vV hsz)
    rw[aR8,List.length_take,Nat.min_eq_left U] at hf
    rw[aR6,hf]
   ·rw[hb]
    have:xs=xs.take l++((xs.take r).drop l++xs.drop r):=by
     conv=>lhs;rw[<-List.take_append_drop l xs]
     congr 1
     have:=List.take_append_drop (r-l) (xs.drop l);rw[aSD,List.take_drop] at this;rw[show l+(r-l)=r by omega] at this
     exact this.symm
    congr 2
    conv=>lhs;rw[this]
    simp only[List.map_append,List.flatten_append,aR1]
structure Pkt where
 src:Int
 dst:Int
 lane:Int
 body:Int
deriving DecidableEq
def Pkt.oD (x:Pkt):List Value:=[.int .i64 x.src,.int .i64 x.dst,.int .i64 x.lane,.int .u32 x.body]
def Pkt.dN (x:Pkt):Value:= .agg ⟨x.oD⟩
def pk0:Pkt:=⟨0,0,0,0⟩
structure Pkt.ok (x:Pkt):Prop where
 src: -9223372036854775808<=x.src/\x.src<9223372036854775808
 dst: -9223372036854775808<=x.dst/\x.dst<9223372036854775808
 lane: -9223372036854775808<=x.lane/\x.lane<9223372036854775808
 body:0<=x.body/\x.body<4294967296
abbrev gO:=Int×Int×Int
def zJ (r:Nat):Nat:=if r<32768 then r*2 else(r*2-65536)^^^4129
theorem aA0 {r:Nat}(h:r<65536):zJ r<65536:=by
 unfold zJ;split
 ·omega
 ·exact Nat.xor_lt_two_pow (n:=16) U U
def Dp:Nat->Nat->Nat
 |0,r=>r
 |k+1,r=>Dp k (zJ r)
theorem aA3: ∀(k:Nat){r:Nat},r<65536->Dp k r<65536
 |0,_,h=>h
 |k+1,_,h=>aA3 k (aA0 h)
def wE (r:Nat)(c:UInt8):Nat:=Dp 8 (r^^^c.toNat*256)
theorem aA2 {r:Nat}(h:r<65536)(c:UInt8):r^^^c.toNat*256<65536:=Nat.xor_lt_two_pow (n:=16) h (by have:=c.toNat_lt;omega)
theorem aMf {r:Nat}(h:r<65536)(c:UInt8):wE r c<65536:=aA3 8 (aA2 h c)
attribute [irreducible] wE
def crc (bs:List UInt8):Nat:=bs.foldl wE 65535
theorem aA4 (bs:List UInt8): ∀{r:Nat},r<65536->bs.foldl wE r<65536:=by
 induction bs with
 |nil=>exact λh=>h
 |cons c bs ih=>
  intro r h;rw[List.foldl_cons];exact ih (aMf h c)
theorem Im (bs:List UInt8):crc bs<65536:=aA4 bs aC
theorem aA1 {r:Nat}(h:r<65536):(r&&&32768=0)↔r<32768:=by
 have e:r&&&32768=if r<32768 then 0 else 32768:=by
  apply Nat.eq_of_testBit_eq;intro i;rw[Nat.testBit_and];have hb:Nat.testBit 32768 i=decide (15=i):=Nat.testBit_two_pow (n:=15) (m:=i);by_cases hi:15=i
  ·subst hi
   rw[hb];split
   ·rename_i hl
    rw[Nat.testBit_lt_two_pow (i:=15) U]
    rfl
   ·rename_i hl
    have:r.testBit 15=true:=by
     rw[Nat.testBit_eq_decide_div_mod_eq];have:r/2 ^ 15=1:=U
     rw[this];rfl
    rw[this];rfl
  ·rw[hb,aSF hi,Bool.and_false]
   split
   ·simp
   ·rw[hb,aSF hi]
 rw[e]
 split<;>omega
def eF (near s:Nat):Nat:=((near+18446744073709518848)%18446744073709551616+(s+65536-(near+18446744073709518848)%18446744073709551616%65536)%65536)%18446744073709551616
structure Frm where
 kind:Nat
 lane:Nat
 seq:Nat
 src:Nat
 dst:Nat
 body:Nat
deriving DecidableEq
structure Frm.ok (f:Frm):Prop where
 kind:f.kind<256
 lane:f.lane<256
 seq:f.seq<65536
 src:f.src<256
 dst:f.dst<256
 body:f.body<4294967296
def Frm.pB:Frm:=⟨0,0,0,0,0,0⟩
def eZ (f:Frm):Bool:=decide (f.lane<=2)&&(if f.kind=1 then decide (f.src<=5)&&decide (f.dst<=5)&&decide (f.src≠f.dst) else(decide (f.kind=2)||decide (f.kind=3))&&decide (f.src=0)&&decide (f.dst=0)&&decide (f.body=0))
def by8 (n:Nat):UInt8:=UInt8.ofNat n
def gP (n:Nat):List UInt8:=[by8 (n/256),by8 n]
def zK (f:Frm):List UInt8:=by8 f.kind::by8 f.lane::gP f.seq
def mX (f:Frm):List UInt8:=zK f++if f.kind=1 then by8 f.src::by8 f.dst::(gP (f.body/65536)++gP f.body) else []
def oE (f:Frm):List UInt8:=mX f++gP (crc (mX f))
def pD (f:Frm):Option (List UInt8):=if eZ f=true then some (oE f) else none
def fC (bs:List UInt8):Nat:=bs.foldl (λn c=>n*256+c.toNat) 0
def kH (bs:List UInt8):Frm:=⟨(bs.getD 0 0).toNat,(bs.getD 1 0).toNat,fC [bs.getD 2 0,bs.getD 3 0],0,0,0⟩
def oF (bs:List UInt8):Frm:={kH bs with src:=(bs.getD 4 0).toNat,dst:=(bs.getD 5 0).toNat,body:=fC [bs.getD 6 0,bs.getD 7 0,bs.getD 8 0,bs.getD 9 0]}
def xP (b s:List UInt8)(f:Frm):Option Frm:=if crc b=fC s/\eZ f=true then some f else none
def pC (bs:List UInt8):Option Frm:=
 if bs.length=6/\(bs.getD 0 0).toNat≠1 then xP (bs.take 4) (bs.drop 4) (kH bs)
 else if bs.length=12/\(bs.getD 0 0).toNat=1 then xP (bs.take 10) (bs.drop 10) (oF bs)
 else none
def Qy (bs:List UInt8):Option Frm:=
 if bs.length<6 then none
 else let f:=if(bs.getD 0 0).toNat=1/\12<=bs.length then oF bs else kH bs
  if pD f=some bs then some f else none
theorem vA (n:Nat):(by8 n).toNat=n%256:=by simp[by8]
theorem aAZ (c:UInt8):by8 c.toNat=c:=by simp[by8]
theorem Q0 (a b:UInt8):fC [a,b]=a.toNat*256+b.toNat:=by simp[fC]
theorem aA7 (a b c d:UInt8):fC [a,b,c,d]=((a.toNat*256+b.toNat)*256+c.toNat)*256+d.toNat:=by simp[fC]
theorem xO {n:Nat}{c:UInt8}(h:n%256=c.toNat):by8 n=c:=by
 apply UInt8.toNat_inj.mp;rw[vA,h]
theorem Q1 (a b:UInt8):gP (fC [a,b])=[a,b]:=by
 have ha:=a.toNat_lt;have hb:=b.toNat_lt;rw[Q0];simp only[gP];rw[xO (n:=(a.toNat*256+b.toNat)/256) (c:=a) U,xO (n:=a.toNat*256+b.toNat) (c:=b) U]
theorem aA8 {n:Nat}(hn:n<65536){a b:UInt8}:gP n=[a,b]↔n=fC [a,b]:=by
 constructor
 ·intro h
  simp only[gP,List.cons.injEq,and_true] at h;have h1:=congrArg UInt8.toNat h.1;have h2:=congrArg UInt8.toNat h.2;rw[vA] at h1 h2;rw[Q0];omega
 ·rintro rfl
  exact Q1 a b
theorem aMh (a b c d:UInt8):gP (fC [a,b,c,d]/65536)++gP (fC [a,b,c,d])=[a,b,c,d]:=by
 have ha:=a.toNat_lt;have hb:=b.toNat_lt;have hc:=c.toNat_lt;have hd:=d.toNat_lt;rw[aA7];simp only[gP,List.cons_append,List.nil_append];rw[xO (c:=a) U,xO (c:=b) U,xO (c:=c) U,xO (c:=d) U]
theorem Qz (f:Frm):(oE f).length=if f.kind=1 then 12 else 6:=by
 unfold oE mX zK gP
 split<;>simp
attribute [irreducible] crc eZ
theorem aA5 {f:Frm}{b bs:List UInt8}{x y:UInt8}(hb:mX f=b)(hbs:bs=b++[x,y]):pD f=some bs↔crc b=fC [x,y]/\eZ f=true:=by
 unfold pD oE;rw[hb,hbs];by_cases hs:eZ f=true
 ·rw[if_pos hs,aSl,List.append_right_inj,aA8 (Im _)]
  simp[hs]
 ·rw[if_neg hs]
  simp[hs]
theorem aA6 {f:Frm}{bs:List UInt8}(h:bs.length≠if f.kind=1 then 12 else 6):pD f≠some bs:=by
 intro hh;unfold pD at hh
 split at hh
 ·injection hh with hh
  rw[<-hh,Qz] at h;exact h rfl
 ·cases hh
theorem aMg (bs:List UInt8):pC bs=Qy bs:=by
 have kf:(kH bs).kind=(bs.getD 0 0).toNat:=rfl;have kf':(oF bs).kind=(bs.getD 0 0).toNat:=rfl;unfold pC Qy;by_cases h1:bs.length=6/\(bs.getD 0 0).toNat≠1
 ·have hC: ¬((bs.getD 0 0).toNat=1/\12<=bs.length):=λh=>h1.2 h.1
  rw[if_pos h1,if_neg U]
  simp only[if_neg hC];have e:pD (kH bs)=some bs↔crc (bs.take 4)=fC (bs.drop 4)/\eZ (kH bs)=true:=by
   have h6:=h1.1
   match bs,h6 with
   |[a,b,c,d,e,f],_=>
    refine aA5 ?_ rfl;unfold mX zK;rw[if_neg (by rw[kf];exact h1.2)]
    simp only[kH,List.getD_cons_zero,List.getD_cons_succ,aAZ,Q1,List.append_nil,List.take_succ_cons,List.take_zero]
  unfold xP;by_cases h:pD (kH bs)=some bs
  ·rw[if_pos h,if_pos (e.mp h)]
  ·rw[if_neg h,if_neg λhh=>h (e.mpr hh)]
 ·rw[if_neg h1]
  by_cases h2:bs.length=12/\(bs.getD 0 0).toNat=1
  ·have hC:(bs.getD 0 0).toNat=1/\12<=bs.length:=⟨h2.2,by omega⟩
   rw[if_pos h2,if_neg U]
   simp only[if_pos hC];have e:pD (oF bs)=some bs↔crc (bs.take 10)=fC (bs.drop 10)/\eZ (oF bs)=true:=by
    have h12:=h2.1
    match bs,h12 with
    |[a,b,c,d,e,f,g,h,i,j,k,l],_=>
     refine aA5 ?_ rfl;unfold mX zK;rw[if_pos (by rw[kf'];exact h2.2)]
     simp only[kH,oF,List.getD_cons_zero,List.getD_cons_succ,aAZ,Q1,aMh,List.take_succ_cons,List.take_zero,List.cons_append,List.nil_append]
   unfold xP;by_cases h:pD (oF bs)=some bs
   ·rw[if_pos h,if_pos (e.mp h)]
   ·rw[if_neg h,if_neg λhh=>h (e.mpr hh)]
  ·rw[if_neg h2]
   by_cases h3:bs.length<6
   ·rw[if_pos h3]
   ·rw[if_neg h3]
    dsimp only
    rw[if_neg];by_cases h4:(bs.getD 0 0).toNat=1/\12<=bs.length
    ·rw[if_pos h4]
     refine aA6 ?_;rw[kf',if_pos h4.1];omega
    ·rw[if_neg h4]
     refine aA6 ?_;rw[kf];split
     ·omega
     ·omega
structure Cfg where
 nodes:Nat
 lanes:Nat
 room:Nat
 queue:Nat
 rounds:Nat
 every:Nat
 weights:List Int
 start:Nat
 me:Nat
 by':List Nat
 port:Nat->Nat
def Cfg.aK (c:Cfg):Nat:=c.by'.length+1
structure Cfg.ok (c:Cfg):Prop where
 nodes:2<=c.nodes/\c.nodes<=6
 lanes:1<=c.lanes/\c.lanes<=3
 room:1<=c.room/\c.room<=8
 queue:1<=c.queue/\c.queue<=8
 rounds:1<=c.rounds/\c.rounds<=4
 every:1<=c.every/\c.every<=8
 wlen:c.weights.length=c.lanes
 wts: ∀x∈c.weights,1<=x/\x<=5
 start:c.start<65536
 me:c.me<c.nodes
 by':c.by'.length<=5
 byN: ∀w∈c.by',w<c.nodes/\w≠c.me
 byD:c.by'.Nodup
 port: ∀d,d<c.nodes->c.port d<c.aK
structure Snd where
 s:Nat
 l:Nat
deriving DecidableEq
structure Rcv where
 n:Nat
 h:Nat
deriving DecidableEq
def Snd.rI (x:Snd):Nat:=x.l-x.s
def Snd.rH (x:Snd)(limit:Nat):Snd:=let n:=eF x.l limit;if n<=x.l∨x.s+8<n then x else⟨x.s,n⟩
def Snd.pE (x:Snd):Nat×Snd:=if x.l=x.s then(0,x) else(x.s,⟨x.s+1,x.l⟩)
def Rcv.mZ (x:Rcv)(room:Nat):Nat:=x.n+(room-x.h)
def Rcv.lO (x:Rcv)(room seq:Nat):Nat×Rcv:=let n:=eF x.n seq;if n<x.n then(60,x) else if x.mZ room<=n then(61,x) else(0,⟨n+1,x.h+1⟩)
def Rcv.wF (x:Rcv):Rcv:=⟨x.n,x.h-1⟩
def Rcv.pW (x:Rcv)(room sent:Nat):Rcv:=let n:=eF x.n sent;if n<=x.n∨x.mZ room<n then x else⟨n,x.h⟩
structure NS where
 hL:List Pkt
 hG:List Pkt
 rL:List (gO×Pkt)
 snd:Nat->Nat->Snd
 rcv:Nat->Nat->Rcv
 g:List Nat
 a:List Nat
 whl:Nat->Whl
 ticks:Nat
def NS.mY (c:Cfg):NS:=⟨[],[],[],λ_ _=>⟨c.start,c.start+c.room⟩,λ_ _=>⟨c.start,0⟩,List.replicate c.aK 0,List.replicate c.aK 0,λ_=>⟨c.weights,0⟩,0⟩
def gQ (L:List Pkt)(k:Int):List Pkt:=L.filter λx=>decide (x.lane=k)
def sZ (L:List Pkt)(k:Int):List Pkt:=L.eraseP λx=>decide (x.lane=k)
def pZ (L:List (gO×Pkt))(w:gO):List Pkt:=(L.filter λe=>decide (e.1=w)).map (·.2)
def pY (L:List (gO×Pkt))(w:gO):List (gO×Pkt):=L.eraseP λe=>decide (e.1=w)
def Dq (w:gO)(ports lanes:Nat):Bool:=decide (0<=w.1)&&decide (w.1<ports)&&decide (0<=w.2.1)&&decide (w.2.1<ports)&&decide (0<=w.2.2)&&decide (w.2.2<lanes)
def vD (c:Cfg)(L:List (gO×Pkt))(w:gO)(x:Pkt):List (gO×Pkt):=
 if Dq w c.aK c.lanes=true/\L.length<c.aK*c.lanes*c.room then L++[(w,x)] else L
def s9 (c:Cfg)(x:Pkt)(s:NS):Nat×NS:=
 if¬(0<=x.lane/\x.lane<c.lanes) then(1,s)
 else if(gQ s.hL x.lane).length=c.queue then(150,s)
 else(0,{s with hL:=s.hL++[x]})
def tX (c:Cfg)(x:Pkt)(s:NS):Nat×NS:=
 if x.src≠c.me∨x.dst<0∨(c.nodes:Int)<=x.dst∨x.dst=c.me then(1,s) else s9 c x s
def up2 {α:Type}(f:Nat->Nat->α)(i k:Nat)(x:α):Nat->Nat->α:=λj l=>if j=i/\l=k then x else f j l
def up1 {α:Type}(f:Nat->α)(i:Nat)(x:α):Nat->α:=λj=>if j=i then x else f j
def sY (c:Cfg)(i:Nat)(f:Frm)(s:NS):Nat×NS:=
 if c.nodes<=max f.src f.dst then(30,s)
 else match (s.rcv i f.lane).lO c.room f.seq with
  |(0,r)=>(0,{s with rcv:=up2 s.rcv i f.lane r,rL:=vD c s.rL ((i:Int),(c.port f.dst:Int),(f.lane:Int)) ⟨f.src,f.dst,f.lane,f.body⟩})
  |(e,_)=>(e,s)
def pG (c:Cfg)(fr:Int)(bs:List UInt8)(s:NS):Nat×NS:=
 match c.by'.findIdx? λw:Nat=>decide ((w:Int)=fr) with
 |none=>(1,s)
 |some j=>
  match pC bs with
  |none=>(30,s)
  |some f=>
   if c.lanes<=f.lane then(30,s)
   else if f.kind=2 then(0,{s with snd:=up2 s.snd (j+1) f.lane ((s.snd (j+1) f.lane).rH f.seq)})
   else if f.kind=3 then(0,{s with rcv:=up2 s.rcv (j+1) f.lane ((s.rcv (j+1) f.lane).pW c.room f.seq)})
   else sY c (j+1) f s
def qP (L:List (gO×Pkt))(i o k:Nat):Nat:=(pZ L (i,o,k)).length
def Bk (c:Cfg)(L:List (gO×Pkt))(k:Nat):Nat:=((List.range c.aK).map λo=>qP L 0 o k).sum
def nS (c:Cfg)(s:NS)(k:Nat):NS:=
 if c.room<=Bk c s.rL k then s
 else match gQ s.hL k with
  |[]=>s
  |x::_=>{s with hL:=sZ s.hL k,rL:=vD c s.rL (0,(c.port x.dst.toNat:Int),k) x}
def lD (c:Cfg)(s:NS):NS:=(List.range c.lanes).foldl (nS c) s
def iB (c:Cfg)(s:NS)(i o k:Nat):Bool:=decide (k<c.lanes)&&decide (0<qP s.rL i o k)&&(decide (o=0)||decide (0<(s.snd o k).rI))
def lX (c:Cfg)(s:NS)(i o:Nat):Bool:=decide (i<c.aK)&&decide (o<c.aK)&&(List.range c.lanes).any (iB c s i o)
def qO (f:Frm):List UInt8:=(pD f).getD []
abbrev kJ:=List (Nat×List UInt8)
def tY (c:Cfg)(o:Nat)(f:Frm):Nat×List UInt8:=(c.by'.getD (o-1) 0,qO f)
def vB (s:NS)(i k:Nat):Nat->Nat->Rcv:=if i=0 then s.rcv else up2 s.rcv i k (s.rcv i k).wF
def pF (c:Cfg)(s:NS)(i o:Nat):NS×kJ:=
 match lV c.weights (s.whl o) (iB c s i o) with
 |(none,_)=>(s,[])
 |(some k,w)=>
  let x:=(pZ s.rL (i,o,k)).headD pk0
  let s1:={s with whl:=up1 s.whl o w,rL:=pY s.rL (i,o,k),rcv:=vB s i k}
  if o=0 then({s1 with hG:=s1.hG++[x]},[])
  else({s1 with snd:=up2 s1.snd o k (s1.snd o k).pE.2},[tY c o ⟨1,k,(s1.snd o k).pE.1%65536,(x.src%256).toNat,(x.dst%256).toNat,x.body.toNat⟩])
def pX (c:Cfg)(m:List Int):List Nat->NS×kJ->NS×kJ
 |[],s=>s
 |i::l,s=>pX c m l (if 0<=m.getD i 0 then((pF c s.1 i (m.getD i 0).toNat).1,s.2++(pF c s.1 i (m.getD i 0).toNat).2) else s)
def oO (c:Cfg)(s:NS):kJ:=
 (List.range c.by'.length).flatMap λi=>(List.range c.lanes).flatMap λk=>
  [tY c (i+1) ⟨3,k,(s.snd (i+1) k).s%65536,0,0,0⟩,tY c (i+1) ⟨2,k,(s.rcv (i+1) k).mZ c.room%65536,0,0,0⟩]
def qA (c:Cfg)(s:NS):NS×kJ:=
 let s1:=lD c s
 let t:=oV (lX c s1) c.aK c.rounds s1.g s1.a
 let r:=pX c t.m (List.range c.aK) ({s1 with g:=t.g,a:=t.a},[])
 ({r.1 with ticks:=s.ticks+1},if(s.ticks+1)%c.every=0 then r.2++oO c r.1 else r.2)
end Go.Abs
namespace Go.Proofs.YtkeilicinggjmaaGreatDoor
open Go.Proofs.Tryz
open Go.Abs Go.Abs.M
structure Put1 (H:aF)(b:Nat)(y:Blk)(H':aF):Prop where
 le:H.length<=H'.length
 at_:H'[b]? =some y
 keep: ∀c,c<H.length->c≠b->H'[c]? =H[c]?
theorem Put1.xQ {H:aF}{b:Nat}{y:Blk}(h:H[b]? =some y):Put1 H b y H:=⟨aRZ _,h,λ_ _ _=>rfl⟩
theorem Put1.Dr {H:aF}{b:Nat}{x y:Blk}(h:H[b]? =some x):Put1 H b y (H.set b y):=⟨by simp,fW h,λc _ hc=>aRV (Ne.symm hc)⟩
theorem Put1.ext {H H':aF}{b:Nat}{y:Blk}(h:H[b]? =some y)(he:Ext H H'):Put1 H b y H':=⟨he.1,by rw[he.2 b (dO h) id,h],λc hc _=>he.2 c hc id⟩
theorem Put1.aMi {H H1 H':aF}{b:Nat}{y:Blk}(he:Ext H H1)(h:Put1 H1 b y H'):Put1 H b y H':=⟨aSa he.1 h.le,h.at_,λc hc hcb=>by rw[h.keep c (aR9 hc he.1) hcb,he.2 c hc id]⟩
section
variable {H : aF} {m : Nat}
theorem sF:prog.underlying 55=some (.int .u64):=by kernel_rfl
theorem oG:prog.underlying 23=some (.int .u16):=by kernel_rfl
theorem iU:prog.underlying 3=some (.int .i64):=by kernel_rfl
theorem u8U:prog.underlying 5=some (.int .u8):=by kernel_rfl
theorem aMm:prog.underlying 253=some (.int .u16):=by kernel_rfl
theorem aMn (hm:0<m)(n:Nat):lvl prog pkN m (.func 174) [.int .u64 n] H=some (.int .u16 ((n%65536:Nat):Int),H):=by
 refine cS (cH rfl) hm ?_;rw[aLC];simp only[gsR,fU _ _ sF oG,Do]
theorem Q3 (near s:Nat):eF near s<18446744073709551616:=Nat.mod_lt _ U
theorem aA9 (hm:1<m)(near s:Nat)(hn:near<18446744073709551616)(hs:s<65536):lvl prog pkN m (.func 137) [.int .u64 near,.int .u16 s] H=some (.int .u64 (eF near s),H):=by
 refine cS (cH rfl) U ?_
 rw[aLn];have e1:IntKind.u64.wrap ((near:Int)-32768)=(((near+18446744073709518848)%18446744073709551616:Nat):Int):=by rw[uZ];omega
 have e2:=aMn (H:=H) (m:=m-1) U ((near+18446744073709518848)%18446744073709551616)
 have e3:=aMd s ((near+18446744073709518848)%18446744073709551616%65536) hs U
 have e4:=Bi ((s+65536-(near+18446744073709518848)%18446744073709551616%65536)%65536) U
 simp only[gsR,iC,e1,e2,e3,fU _ _ oG sF,e4,cR,aMb];rfl
def nG (r:Nat):Blk:= .cells [.int .u16 r] 253 .fix
theorem aMj (hm:0<m){b r:Nat}(hb:H[b]? =some (nG r))(hr:r<65536):lvl prog pkN m (.func 175) [.Q b 0] H=some (aL [],H.set b (nG (zJ r))):=by
 refine cS (cH rfl) hm ?_;rw[aLD];have e1:ld1 (.Q b 0) H=some (.int .u16 r,H):=dI hb rfl;have e2:bin prog .and 253 (.int .u16 (r:Int)) (.int .u16 32768)=some (.int .u16 ((r&&&32768:Nat):Int)):=zB .u16 rfl _ (a:=r) (b:=32768) hr aC
 have e3:bin prog .shl 253 (.int .u16 (r:Int)) (.int .u64 1)=some (.int .u16 ((r*2%65536:Nat):Int)):=Gf .u16 .u64 rfl _ r 1 aC
 have e4:stN 1 (.Q b 0) (.int .u16 ((r*2%65536:Nat):Int)) H=some (undef,H.set b (nG (r*2%65536))):=lN hb aC Nat.zero_lt_one
 have e5:ld1 (.Q b 0) (H.set b (nG (r*2%65536)))=some (.int .u16 ((r*2%65536:Nat):Int),H.set b (nG (r*2%65536))):=dI (fW hb) rfl;have e6:bin prog .xor 253 (.int .u16 ((r*2%65536:Nat):Int)) (.int .u16 4129)=some (.int .u16 (((r*2%65536)^^^4129:Nat):Int)):=Xm .u16 rfl _ (a:=r*2%65536) (b:=4129) (by show _<65536;omega) aC
 have e7:stN 1 (.Q b 0) (.int .u16 (((r*2%65536)^^^4129:Nat):Int)) (H.set b (nG (r*2%65536)))=some (undef,(H.set b (nG (r*2%65536))).set b (nG ((r*2%65536)^^^4129))):=lN (fW hb) aC Nat.zero_lt_one
 by_cases hc:r<32768
 ·have h0:(r&&&32768:Nat)=0:=(aA1 hr).mpr hc
  have k1:((((r&&&32768:Nat):Int))!=0)=false:=by rw[h0];rfl
  simp only[gsR,e1,e2,e3,e4,k1];rw[zJ,if_pos hc,aSs U]
 ·have h0: ¬(r&&&32768:Nat)=0:=λh=>hc ((aA1 hr).mp h)
  have k1:((((r&&&32768:Nat):Int))!=0)=true:=by simp[h0]
  simp only[gsR,e1,e2,e3,e4,e5,e6,e7,k1,Qx];rw[zJ,if_neg hc,show r*2%65536=r*2-65536 by omega]
theorem aMl {b:Nat}{H0:aF}: ∀(q i k r:Nat)(H:aF),8-i=q->i<=8->q<k->10<m->H=H0.set b (nG r)->b<H0.length->r<65536->
  ∀x1 x2 x3 x4 x5 x6 x7 x8 x9 bS cE aR aS aQ aW:Value,aM k (aN prog (lvl prog pkN (m-1)) (aM (m-1)) P3) (P4 (lvl prog pkN (m-1)) (aM (m-1))) [(.Q b 0),x1,x2,x3,x4,x5,x6,x7,x8,x9,bS,cE,(.I i),aR,aS,aQ,aW] H=some (aL [],H0.set b (nG (Dp (8-i) r))):=by
 intro q;induction q with
 |zero=>
  intro i k r H hq hi hk hm hH hb hr x1 x2 x3 x4 x5 x6 x7 x8 x9 bS cE aR aS aQ aW;obtain⟨k,rfl⟩: ∃k',k=k'+1:=⟨k-1,by omega⟩
  have hi8:i=8:=U
  subst hi8;have c1:decide (((8:Nat):Int)<8)=false:=by decide
  rw[aM,aAF];simp only[gsR,c1];rw[aLs];rw[hH];rfl
 |succ q ih=>
  intro i k r H hq hi hk hm hH hb hr x1 x2 x3 x4 x5 x6 x7 x8 x9 bS cE aR aS aQ aW;obtain⟨k,rfl⟩: ∃k',k=k'+1:=⟨k-1,by omega⟩
  have c1:decide ((i:Int)<8)=true:=by rw[decide_eq_true_eq];omega
  have hg:H[b]? =some (nG r):=by rw[hH,aR0 hb]
  have e1:=aMj (m:=m-1) U hg hr
  have e2:=aA (i:=i) U
  rw[aM,aAF];simp only[gsR,c1,e1,cR,e2];rw[ih (i+1) k (zJ r) _ U U U hm (by rw[hH,Qx]) hb (aA0 hr)]
  rw[show 8-i=(8-(i+1))+1 by omega,Dp]
theorem aMk (hm:10<m){b r:Nat}(hb:H[b]? =some (nG r))(hr:r<65536)(c:UInt8):lvl prog pkN m (.func 140) [.Q b 0,kF c] H=some (aL [],H.set b (nG (wE r c))):=by
 refine cS (cH rfl) U ?_
 rw[aLt];have hc:=c.toNat_lt;have e1:ld1 (.Q b 0) H=some (.int .u16 r,H):=dI hb rfl;have e2:eA prog 5 253 (kF c) H=some (.int .u16 c.toNat,H):=by
  show eA prog 5 253 (.int .u8 c.toNat) H=_
  rw[fU _ _ u8U aMm,Mn U U]
 have e3:bin prog .shl 253 (.int .u16 (c.toNat:Int)) (.int .u64 8)=some (.int .u16 ((c.toNat*256:Nat):Int)):=by
  have:=Gf (P:=prog) .u16 .u64 rfl 253 c.toNat 8 aC
  rw[show c.toNat*2 ^ 8%2 ^ IntKind.u16.bits=c.toNat*256 from by show c.toNat*256%65536=_;omega] at this
  exact this
 have e4:bin prog .xor 253 (.int .u16 (r:Int)) (.int .u16 ((c.toNat*256:Nat):Int))=some (.int .u16 ((r^^^c.toNat*256:Nat):Int)):=Xm .u16 rfl _ (a:=r) (b:=c.toNat*256) hr (by show _<65536;omega)
 have e5:stN 1 (.Q b 0) (.int .u16 ((r^^^c.toNat*256:Nat):Int)) H=some (undef,H.set b (nG (r^^^c.toNat*256))):=lN hb aC Nat.zero_lt_one
 simp only[gsR,e1,e2,e3,e4,e5];refine(aMl (m:=m) 8 0 (m-1) (r^^^c.toNat*256) _ rfl U U U rfl (dO hb) (aA2 hr c) _ _ _ _ _ _ _ _ _ _ _ _ _ _ _).trans ?_
 unfold wE;rfl
theorem aMo {u:Value}{bs:List UInt8}{H0:aF}(hu:Br H0 u bs): ∀(q i k:Nat)(H:aF),bs.length-i=q->i<=bs.length->q<k->20<m->bs.length<4611686018427387904->H=H0++[nG ((bs.take i).foldl wE 65535)]->
  ∀x0 x1 x2 x4 x5 x9 bS cE aV aR aS aQ:Value,aM k (aN prog (lvl prog pkN (m-1)) (aM (m-1)) Qv) (Qw (lvl prog pkN (m-1)) (aM (m-1))) [x0,x1,x2,(.Q H0.length 0),x4,x5,u,(.I bs.length),(.I i),x9,bS,cE,aV,aR,aS,aQ] H=some (.int .u16 (crc bs),H0++[nG (crc bs)]):=by
 intro q;induction q with
 |zero=>
  intro i k H hq hi hk hm hl hH x0 x1 x2 x4 x5 x9 bS cE aV aR aS aQ;obtain⟨k,rfl⟩: ∃k',k=k'+1:=⟨k-1,by omega⟩
  have hi8:i=bs.length:=U
  subst hi8;have c1:decide ((bs.length:Int)<(bs.length:Int))=false:=by simp
  have hf:(bs.take bs.length).foldl wE 65535=crc bs:=by rw[List.take_length];unfold crc;rfl
  rw[hf] at hH;have e1:ld1 (.Q H0.length 0) H=some (.int .u16 (crc bs),H):=by rw[hH];exact dI (eD _ _) rfl
  rw[aM,aAV];simp only[gsR,c1];rw[aL7];simp only[gsR,e1];rw[hH]
 |succ q ih=>
  intro i k H hq hi hk hm hl hH x0 x1 x2 x4 x5 x9 bS cE aV aR aS aQ;obtain⟨k,rfl⟩: ∃k',k=k'+1:=⟨k-1,by omega⟩
  have c1:decide ((i:Int)<(bs.length:Int))=true:=by rw[decide_eq_true_eq];omega
  have hx:bs[i]? =some bs[i]:=aRW U
  have hu':Br H u bs:=hu.ext (by rw[hH];exact Fr.app _ _ _)
  obtain⟨b,o,a1,a2⟩:=hu'.aGG hx .i64;have hg:H[H0.length]? =some (nG ((bs.take i).foldl wE 65535)):=by rw[hH];exact eD _ _
  have e1:=aMk (m:=m-1) U hg (aA4 _ aC) bs[i]
  have e2:=aA (i:=i) U
  rw[aM,aAV];simp only[gsR,c1,a1,a2,e1,cR,e2];refine ih (i+1) k _ U U U hm hl ?_ _ _ _ _ _ _ _ _ _ _ _ _
  rw[hH,mW,List.take_add_one,hx,List.foldl_append];rfl
theorem Q2 {u:Value}{bs:List UInt8}(hu:Br H u bs)(hm:20<m)(hl:bs.length+1<m)(hl2:bs.length<4611686018427387904):lvl prog pkN m (.func 95) [u] H=some (.int .u16 (crc bs),H++[nG (crc bs)]):=by
 refine cS (cH rfl) U ?_
 rw[aL8];have e1:stN 1 (.Q H.length 0) (.int .u16 65535) (H++[.cells [.int .u16 0] 253 .fix])=some (undef,H++[nG 65535]):=by
  rw[lN (eD _ _) aC Nat.zero_lt_one,mW]
  rfl
 simp only[gsR,e1,hu.aGJ];exact aMo hu bs.length 0 (m-1) _ U U U hm hl2 rfl _ _ _ _ _ _ _ _ _ _ _ _
end
def nH (x:Snd):Blk:= .cells [.int .u64 x.s,.int .u64 x.l] 143 .fix
def kK (x:Rcv)(room:Nat):Blk:= .cells [.int .u64 x.n,.int .i64 x.h,.int .i64 room] 174 .fix
structure SndOk (x:Snd):Prop where
 le:x.s<=x.l
 wide:x.l<=x.s+8
 big:x.l<4611686018427387904
structure RcvOk (x:Rcv)(room:Nat):Prop where
 h:x.h<=room
 room:room<=8
 big:x.n<4611686018427387904
section
variable {H : aF} {m : Nat} {b : Nat}
theorem aBc (hm:0<m){x:Snd}(hx:SndOk x):lvl prog pkN m (.func 153) [.agg #[.int .u64 x.s,.int .u64 x.l]] H=some (.I x.rI,H++[.cells [.int .u64 x.s,.int .u64 x.l] 141 .fix]):=by
 have:=hx.le;have:=hx.wide;have:=hx.big;refine cS (cH rfl) hm ?_;rw[aLB];have e0:(Value.cells (.agg #[.int .u64 x.s,.int .u64 x.l])).toList=[.int .u64 x.s,.int .u64 x.l]:=rfl;have e1:ld1 (.Q H.length 1) (H++[.cells [.int .u64 x.s,.int .u64 x.l] 141 .fix])=some (.int .u64 x.l,H++[.cells [.int .u64 x.s,.int .u64 x.l] 141 .fix]):=dI (eD _ _) rfl;have e2:ld1 (.Q H.length 0) (H++[.cells [.int .u64 x.s,.int .u64 x.l] 141 .fix])=some (.int .u64 x.s,H++[.cells [.int .u64 x.s,.int .u64 x.l] 141 .fix]):=dI (eD _ _) rfl;have e3:IntKind.u64.wrap ((x.l:Int)-x.s)=((x.rI:Nat):Int):=by rw[uZ,Snd.rI];omega
 have e4:=Bj x.rI (by unfold Snd.rI;omega)
 simp only[gsR,e0,e1,e2,iC,e3,fU _ _ sF iU,e4]
theorem Q4 {x:Snd}(hb:H[b]? =some (nH x)):ldN 2 (.Q b 0) H=some (.agg #[.int .u64 x.s,.int .u64 x.l],H):=rG hb (aRZ 2)
theorem aMy (hm:1<m){x:Snd}(hb:H[b]? =some (nH x))(hx:SndOk x):lvl prog pkN m (.func 149) [.Q b 0] H=some (.I x.rI,H++[.cells [.int .u64 x.s,.int .u64 x.l] 141 .fix]):=by
 refine cS (cH rfl) U ?_
 rw[aLy];simp only[gsR,Q4 hb,aBc (H:=H) (m:=m-1) U hx]
theorem aMx (hm:0<m){x:Snd}(hb:H[b]? =some (nH x)):lvl prog pkN m (.func 20) [.Q b 0] H=some (.int .u64 x.s,H):=by
 refine cS (cH rfl) U ?_
 rw[aLF];have e1:ld1 (.Q b 0) H=some (.int .u64 x.s,H):=dI hb rfl;simp only[gsR,e1]
theorem aMw (hm:1<m){x:Snd}(hb:H[b]? =some (nH x))(hx:SndOk x): ∃H',lvl prog pkN m (.func 109) [.Q b 0] H=some (.tuple #[.int .u64 x.pE.1,.bool (decide (x.l≠x.s))],H')/\Put1 H b (nH x.pE.2) H':=by
 have:=hx.le;have:=hx.wide;have:=hx.big;refine nQ (cH rfl) U ?_
 rw[aLf];have e0:=aBc (H:=H) (m:=m-1) U hx
 have hx1:Ext H (H++[Blk.cells [.int .u64 x.s,.int .u64 x.l] 141 .fix]):=Fr.app _ _ _;have hb1:=oX hb (Blk.cells [.int .u64 x.s,.int .u64 x.l] 141 .fix);by_cases hc:x.l=x.s
 ·have c1:((x.rI:Int)==0)=true:=by simp[Snd.rI,hc]
  have d1:x.pE=(0,x):=by simp[Snd.pE,hc]
  have d2:decide (x.l≠x.s)=false:=by simp[hc]
  simp only[gsR,Q4 hb,e0,c1,d1,d2]
  exact⟨_,rfl,Put1.ext hb hx1⟩
 ·have c1:((x.rI:Int)==0)=false:=by simp[Snd.rI];omega
  have d1:x.pE=(x.s,⟨x.s+1,x.l⟩):=by simp[Snd.pE,hc]
  have d2:decide (x.l≠x.s)=true:=by simp[hc]
  have e1:ld1 (.pointer (some ⟨b,0,none⟩)) (H++[Blk.cells [.int .u64 x.s,.int .u64 x.l] 141 .fix])=some (.int .u64 x.s,_):=dI hb1 rfl;have e2:IntKind.u64.wrap ((x.s:Int)+1)=((x.s+1:Nat):Int):=by rw[uZ];omega
  have e3:stN 1 (.pointer (some ⟨b,0,none⟩)) (.int .u64 ((x.s+1:Nat):Int)) (H++[Blk.cells [.int .u64 x.s,.int .u64 x.l] 141 .fix])=some (undef,(H++[Blk.cells [.int .u64 x.s,.int .u64 x.l] 141 .fix]).set b (nH ⟨x.s+1,x.l⟩)):=lN hb1 aC (by simp)
  simp only[gsR,Q4 hb,e0,c1,e1,cR,e2,e3,d1,d2]
  exact⟨_,rfl,Put1.aMi hx1 (Put1.Dr hb1)⟩
theorem aMu (hm:2<m){x:Snd}(hb:H[b]? =some (nH x))(hx:SndOk x)(limit:Nat)(hl:limit<65536): ∃H' u,lvl prog pkN m (.func 88) [.Q b 0,.int .u16 limit] H=some (u,H')/\Put1 H b (nH (x.rH limit)) H':=by
 have:=hx.le;have:=hx.wide;have:=hx.big;refine gN (cH rfl) U ?_
 rw[aL2];have e1:ld1 (.Q b 1) H=some (.int .u64 x.l,H):=dI hb rfl;have e2:ld1 (.Q b 0) H=some (.int .u64 x.s,H):=dI hb rfl;have e3:=aA9 (H:=H) (m:=m-1) U x.l limit U hl
 have e4:IntKind.u64.wrap ((x.s:Int)+8)=((x.s+8:Nat):Int):=by rw[uZ];omega
 by_cases c:eF x.l limit<=x.l
 ·have c1:decide ((eF x.l limit:Int)<=(x.l:Int))=true:=by rw[decide_eq_true_eq];omega
  have d:x.rH limit=x:=by unfold Snd.rH;rw[if_pos (.inl c)]
  simp only[gsR,e1,e3,c1]
  exact⟨_,_,rfl,by rw[d];exact Put1.xQ hb⟩
 ·have c1:decide ((eF x.l limit:Int)<=(x.l:Int))=false:=by rw[decide_eq_false_iff_not];omega
  by_cases c':x.s+8<eF x.l limit
  ·have c2:decide (((x.s+8:Nat):Int)<(eF x.l limit:Int))=true:=by rw[decide_eq_true_eq];omega
   have d:x.rH limit=x:=by unfold Snd.rH;rw[if_pos (.inr c')]
   simp only[gsR,e1,e2,e3,c1,cR,e4,c2]
   exact⟨_,_,rfl,by rw[d];exact Put1.xQ hb⟩
  ·have c2:decide (((x.s+8:Nat):Int)<(eF x.l limit:Int))=false:=by rw[decide_eq_false_iff_not];omega
   have d:x.rH limit=⟨x.s,eF x.l limit⟩:=by unfold Snd.rH;rw[if_neg U]
   have e5:stN 1 (.Q b 1) (.int .u64 (eF x.l limit)) H=some (undef,H.set b (nH ⟨x.s,eF x.l limit⟩)):=lN hb aC (by simp)
   simp only[gsR,e1,e2,e3,c1,cR,e4,c2,e5]
   exact⟨_,_,rfl,by rw[d];exact Put1.Dr hb⟩
theorem aMv (hm:0<m)(start room:Nat)(h1:start<65536)(h2:1<=room/\room<=8):lvl prog pkN m (.func 38) [.int .u64 start,.I room] H=some (.Q H.length 0,H++[nH ⟨start,start+room⟩]):=by
 refine cS (cH rfl) U ?_
 rw[aLH];have c1:decide (4611686018427387904<=(start:Int))=false:=by rw[decide_eq_false_iff_not];omega
 have c2:decide ((room:Int)<1)=false:=by rw[decide_eq_false_iff_not];omega
 have c3:decide (8<(room:Int))=false:=by rw[decide_eq_false_iff_not];omega
 have e1:IntKind.u64.wrap (room:Int)=room:=Bi room U
 have e2:IntKind.u64.wrap ((start:Int)+room)=((start+room:Nat):Int):=by rw[uZ];omega
 have e3:bld prog 141 [(0,.int .u64 start),(1,.int .u64 ((start+room:Nat):Int))]=some (.agg #[.int .u64 start,.int .u64 ((start+room:Nat):Int)]):=rfl;have e4:bld prog 143 [(0,.agg #[.int .u64 start,.int .u64 ((start+room:Nat):Int)])]=some (.agg #[.int .u64 start,.int .u64 ((start+room:Nat):Int)]):=rfl;simp only[gsR,c1,c2,c3,fU _ _ iU sF,e1,cR,e2,e3,e4];rfl
theorem aMt (hm:0<m)(start room:Nat)(h1:start<65536)(h2:1<=room/\room<=8):lvl prog pkN m (.func 39) [.int .u64 start,.I room] H=some (.Q H.length 0,H++[kK ⟨start,0⟩ room]):=by
 refine cS (cH rfl) U ?_
 rw[aLI];have c1:decide (4611686018427387904<=(start:Int))=false:=by rw[decide_eq_false_iff_not];omega
 have c2:decide ((room:Int)<1)=false:=by rw[decide_eq_false_iff_not];omega
 have c3:decide (8<(room:Int))=false:=by rw[decide_eq_false_iff_not];omega
 have e3:bld prog 174 [(0,.int .u64 start),(2,.I room)]=some (.agg #[.int .u64 start,.I 0,.I room]):=rfl;simp only[gsR,c1,c2,c3,e3];rfl
section
variable {x : Rcv} {room : Nat}
theorem xR (hb:H[b]? =some (kK x room)):ld1 (.Q b 0) H=some (.int .u64 x.n,H)/\ld1 (.Q b 1) H=some (.I x.h,H)/\ld1 (.Q b 2) H=some (.I room,H):=⟨dI hb rfl,dI hb rfl,dI hb rfl⟩
theorem xS (hx:RcvOk x room):IntKind.i64.wrap ((room:Int)-x.h)=((room-x.h:Nat):Int)/\IntKind.u64.wrap ((room-x.h:Nat):Int)=((room-x.h:Nat):Int):=by
 have:=hx.h;have:=hx.room
 exact⟨by rw[dL U U];omega,Bi _ U⟩
theorem aMs (hm:0<m)(hb:H[b]? =some (kK x room))(hx:RcvOk x room):lvl prog pkN m (.func 110) [.Q b 0] H=some (.int .u64 (x.mZ room),H):=by
 have:=hx.h;have:=hx.room;have:=hx.big;refine cS (cH rfl) U ?_
 rw[aLg];have e:IntKind.u64.wrap ((x.n:Int)+((room-x.h:Nat):Int))=((x.mZ room:Nat):Int):=by rw[uZ,Rcv.mZ];omega
 simp only[gsR,(xR hb).1,(xR hb).2.1,(xR hb).2.2,iC,(xS hx).1,(xS hx).2,fU _ _ iU sF,cR,e]
def oY (n w:Nat):Nat:=(w+(18446744073709551616-n))%18446744073709551616
theorem aBb (hm:2<m)(hb:H[b]? =some (kK x room))(hx:RcvOk x room)(s:Nat)(hs:s<65536):lvl prog pkN m (.func 138) [.Q b 0,.int .u16 s] H=some (.tuple #[.int .u64 (eF x.n s),.int .u64 (oY x.n (eF x.n s)),.bool (decide (x.n<=eF x.n s))],H):=by
 have:=hx.big;refine cS (cH rfl) U ?_
 rw[aLo];have e1:=aA9 (H:=H) (m:=m-1) U x.n s U hs
 have e2:IntKind.u64.wrap ((eF x.n s:Int)-x.n)=((oY x.n (eF x.n s):Nat):Int):=aMe _ _ (Q3 _ _) U
 have e3:decide ((x.n:Int)<=(eF x.n s:Int))=decide (x.n<=eF x.n s):=by simp
 simp only[gsR,(xR hb).1,e1,iC,e2,e3];rfl
theorem aBa {n w:Nat}(hn:n<18446744073709551616)(hw:w<18446744073709551616)(h:n<=w):oY n w=w-n:=by unfold oY;omega
theorem aMp (hm:3<m)(hb:H[b]? =some (kK x room))(hx:RcvOk x room)(s:Nat)(hs:s<65536): ∃H',lvl prog pkN m (.func 139) [.Q b 0,.int .u16 s] H=some (.int .u16 (x.lO room s).1,H')/\Put1 H b (kK (x.lO room s).2 room) H':=by
 have:=hx.h;have:=hx.room;have:=hx.big;have hwl:=Q3 x.n s;refine nQ (cH rfl) U ?_
 rw[aLp];have e1:=aBb (m:=m-1) U hb hx s hs
 obtain⟨l0,l1,l2⟩:=xR hb;have x0: ∀y,ext 0 (.tuple #[.int .u64 (eF x.n s),.int .u64 (oY x.n (eF x.n s)),.bool y])=some (.int .u64 (eF x.n s)):=λ_=>rfl
 have x1: ∀y,ext 1 (.tuple #[.int .u64 (eF x.n s),.int .u64 (oY x.n (eF x.n s)),.bool y])=some (.int .u64 (oY x.n (eF x.n s))):=λ_=>rfl
 have x2: ∀y,ext 2 (.tuple #[.int .u64 (eF x.n s),.int .u64 (oY x.n (eF x.n s)),.bool y])=some (.bool y):=λ_=>rfl
 by_cases c:x.n<=eF x.n s
 ·have c1:decide (x.n<=eF x.n s)=true:=aSE c
  have hf:=aBa U hwl c
  have ef:IntKind.u64.wrap (((room-x.h:Nat)):Int)=_:=(xS hx).2;by_cases c':x.mZ room<=eF x.n s
  ·have c2:decide (((room-x.h:Nat):Int)<=(oY x.n (eF x.n s):Int))=true:=by rw[decide_eq_true_eq,hf];unfold Rcv.mZ at c';omega
   have d:x.lO room s=(61,x):=by unfold Rcv.lO;rw[if_neg U,if_pos c']
   simp only[gsR,e1,x0,x1,x2,c1,l0,l1,l2,iC,(xS hx).1,fU _ _ iU sF,ef,c2,d]
   exact⟨_,rfl,Put1.xQ hb⟩
  ·have c2:decide (((room-x.h:Nat):Int)<=(oY x.n (eF x.n s):Int))=false:=by rw[decide_eq_false_iff_not,hf];unfold Rcv.mZ at c';omega
   have d:x.lO room s=(0,⟨eF x.n s+1,x.h+1⟩):=by unfold Rcv.lO;rw[if_neg U,if_neg c']
   have hlt:eF x.n s<4611686018427387912:=by unfold Rcv.mZ at c';omega
   have e2:IntKind.u64.wrap ((eF x.n s:Int)+1)=((eF x.n s+1:Nat):Int):=by rw[uZ];omega
   have e3:stN 1 (.Q b 0) (.int .u64 ((eF x.n s+1:Nat):Int)) H=some (undef,H.set b (kK ⟨eF x.n s+1,x.h⟩ room)):=lN hb aC (by simp)
   have hb1:(H.set b (kK ⟨eF x.n s+1,x.h⟩ room))[b]? =some (kK ⟨eF x.n s+1,x.h⟩ room):=fW hb;have e4:=(xR hb1).2.1;have e5:IntKind.i64.wrap ((x.h:Int)+1)=((x.h+1:Nat):Int):=by rw[dL U U];omega
   have e6:stN 1 (.Q b 1) (.I ((x.h+1:Nat):Int)) (H.set b (kK ⟨eF x.n s+1,x.h⟩ room))=some (undef,(H.set b (kK ⟨eF x.n s+1,x.h⟩ room)).set b (kK ⟨eF x.n s+1,x.h+1⟩ room)):=lN hb1 aC (by simp)
   simp only[gsR,e1,x0,x1,x2,c1,l0,l1,l2,iC,(xS hx).1,fU _ _ iU sF,ef,c2,cR,e2,e3,e4,e5,e6,d,Qx]
   exact⟨_,rfl,Put1.Dr hb⟩
 ·have c1:decide (x.n<=eF x.n s)=false:=aSF c
  have d:x.lO room s=(60,x):=by unfold Rcv.lO;rw[if_pos U]
  simp only[gsR,e1,x0,x1,x2,c1,d]
  exact⟨_,rfl,Put1.xQ hb⟩
theorem aMq (hm:0<m)(hb:H[b]? =some (kK x room))(hx:RcvOk x room): ∃H' u,lvl prog pkN m (.func 107) [.Q b 0] H=some (u,H')/\Put1 H b (kK x.wF room) H':=by
 have:=hx.h;have:=hx.room;refine gN (cH rfl) U ?_
 rw[aLd];obtain⟨l0,l1,l2⟩:=xR hb;by_cases c:x.h=0
 ·have c1:((x.h:Int)==0)=true:=by simp[c]
  simp only[gsR,l1,c1];refine⟨_,_,rfl,?_⟩;have d:x.wF=x:=by unfold Rcv.wF;rw[c];cases x;simp at c;subst c;rfl
  rw[d];exact Put1.xQ hb
 ·have c1:((x.h:Int)==0)=false:=by simp[c]
  have e5:IntKind.i64.wrap ((x.h:Int)-1)=((x.h-1:Nat):Int):=by rw[dL U U];omega
  have e6:stN 1 (.Q b 1) (.I ((x.h-1:Nat):Int)) H=some (undef,H.set b (kK x.wF room)):=lN hb aC (by simp)
  simp only[gsR,l1,c1,iC,e5,e6]
  exact⟨_,_,rfl,Put1.Dr hb⟩
theorem aMr (hm:3<m)(hb:H[b]? =some (kK x room))(hx:RcvOk x room)(s:Nat)(hs:s<65536): ∃H' u,lvl prog pkN m (.func 89) [.Q b 0,.int .u16 s] H=some (u,H')/\Put1 H b (kK (x.pW room s) room) H':=by
 have:=hx.h;have:=hx.room;have:=hx.big;have hwl:=Q3 x.n s;refine gN (cH rfl) U ?_
 rw[aL3];have e1:=aBb (m:=m-1) U hb hx s hs
 obtain⟨l0,l1,l2⟩:=xR hb;have x0: ∀y,ext 0 (.tuple #[.int .u64 (eF x.n s),.int .u64 (oY x.n (eF x.n s)),.bool y])=some (.int .u64 (eF x.n s)):=λ_=>rfl
 have x1: ∀y,ext 1 (.tuple #[.int .u64 (eF x.n s),.int .u64 (oY x.n (eF x.n s)),.bool y])=some (.int .u64 (oY x.n (eF x.n s))):=λ_=>rfl
 have x2: ∀y,ext 2 (.tuple #[.int .u64 (eF x.n s),.int .u64 (oY x.n (eF x.n s)),.bool y])=some (.bool y):=λ_=>rfl
 by_cases c:x.n<=eF x.n s
 ·have c1:decide (x.n<=eF x.n s)=true:=aSE c
  have hf:=aBa U hwl c
  have ef:IntKind.u64.wrap (((room-x.h:Nat)):Int)=_:=(xS hx).2;by_cases c0:eF x.n s=x.n
  ·have c2:((oY x.n (eF x.n s):Int)==0)=true:=by rw[hf,c0];simp
   have d:x.pW room s=x:=by unfold Rcv.pW;rw[if_pos U]
   simp only[gsR,e1,x0,x1,x2,c1,c2]
   exact⟨_,_,rfl,by rw[d];exact Put1.xQ hb⟩
  ·have c2:((oY x.n (eF x.n s):Int)==0)=false:=by rw[hf];simp;omega
   by_cases c':x.mZ room<eF x.n s
   ·have c3:decide (((room-x.h:Nat):Int)<(oY x.n (eF x.n s):Int))=true:=by rw[decide_eq_true_eq,hf];unfold Rcv.mZ at c';omega
    have d:x.pW room s=x:=by unfold Rcv.pW;rw[if_pos U]
    simp only[gsR,e1,x0,x1,x2,c1,c2,l0,l1,l2,iC,(xS hx).1,fU _ _ iU sF,ef,c3]
    exact⟨_,_,rfl,by rw[d];exact Put1.xQ hb⟩
   ·have c3:decide (((room-x.h:Nat):Int)<(oY x.n (eF x.n s):Int))=false:=by rw[decide_eq_false_iff_not,hf];unfold Rcv.mZ at c';omega
    have d:x.pW room s=⟨eF x.n s,x.h⟩:=by unfold Rcv.pW;rw[if_neg U]
    have e3:stN 1 (.Q b 0) (.int .u64 (eF x.n s)) H=some (undef,H.set b (kK ⟨eF x.n s,x.h⟩ room)):=lN hb aC (by simp)
    simp only[gsR,e1,x0,x1,x2,c1,c2,l0,l1,l2,iC,(xS hx).1,fU _ _ iU sF,ef,c3,e3]
    exact⟨_,_,rfl,by rw[d];exact Put1.Dr hb⟩
 ·have c1:decide (x.n<=eF x.n s)=false:=aSF c
  have d:x.pW room s=x:=by unfold Rcv.pW;rw[if_pos U]
  simp only[gsR,e1,x0,x1,x2,c1]
  exact⟨_,_,rfl,by rw[d];exact Put1.xQ hb⟩
end
end
def frC (f:Frm):List Value:=[.int .u8 f.kind,.int .u8 f.lane,.int .u16 f.seq,.int .u8 f.src,.int .u8 f.dst,.int .u32 f.body]
def frV (f:Frm):Value:= .agg ⟨frC f⟩
def frB (f:Frm):Blk:= .cells (frC f) 39 .fix
def byC (b:UInt8):List Value:=[kF b]
theorem Io (b:UInt8):(byC b).length=1:=rfl
theorem aBd (b:UInt8):dV (byC b)=true:=rfl
theorem vE: ∀bs:List UInt8,(bs.map byC).flatten=bs.map kF
 |[]=>rfl
 |b::bs=>by simp[byC,vE bs]
abbrev By (H:aF)(v:Value)(bs:List UInt8):Prop:=Rw byC 5 1 H v bs
theorem By.br {H:aF}{v:Value}{bs:List UInt8}(h:By H v bs):Br H v bs:=by
 rcases h.rs with⟨h1,h2⟩|⟨b,o,cap,h1,h2,h3⟩
 ·exact .inl ⟨h2,.inl h1⟩
 ·by_cases hb:bs=[]
  ·exact .inl ⟨hb,.inr ⟨b,o,cap,by rw[h1,hb];rfl⟩⟩
  ·obtain⟨e',k,pre,post,h4,_,h5⟩:=h3 hb
   refine .inr ⟨b,o,cap,_,e',k,h1,List.length_pos_iff.mpr hb,h5,?_,?_⟩
   ·rw[vE]
    simp;omega
   ·rw[vE,<-h4,aR1,List.drop_left]
    have:bs.length=(bs.map kF).length:=by simp
    rw[this,List.take_left]
section
variable {H : aF} {m : Nat}
theorem rJ:prog.underlying 37=some (.int .u32):=by kernel_rfl
theorem kFr:tN prog 39=some [true,true,true,true,true,true]:=by kernel_rfl
def Ip (x y:Frm):Bool:=((x.kind:Int)==y.kind)&&(((x.lane:Int)==y.lane)&&(((x.seq:Int)==y.seq)&&(((x.src:Int)==y.src)&&(((x.dst:Int)==y.dst)&&(((x.body:Int)==y.body)&&true)))))
theorem eFr (x y:Frm):bin prog .eql 39 (frV x) (frV y)=some (.bool (Ip x y)):=by
 simp[bin,frV,eE,nL,kFr,eqT,frC,Ip]
theorem zM (a b:Int):nC prog true [.int .u8 a,.int .u8 b]=some (.int .u8 (max a b)):=by
 simp[nC,eE,iI,pur,Builtin.max_,Builtin.max2,pure,bind,Sem.bind]
 split<;>omega
theorem pH {b:Nat}{f:Frm}(hb:H[b]? =some (frB f)):ld1 (.Q b 0) H=some (.int .u8 f.kind,H)/\ld1 (.Q b 1) H=some (.int .u8 f.lane,H)/\ld1 (.Q b 2) H=some (.int .u16 f.seq,H)/\
  ld1 (.Q b 3) H=some (.int .u8 f.src,H)/\ld1 (.Q b 4) H=some (.int .u8 f.dst,H)/\ld1 (.Q b 5) H=some (.int .u32 f.body,H)/\ldN 6 (.Q b 0) H=some (frV f,H):=
 ⟨dI hb rfl,dI hb rfl,dI hb rfl,dI hb rfl,dI hb rfl,dI hb rfl,rG hb (aRZ 6)⟩
theorem zO (a b:Nat):((a:Int)==(b:Int))=decide (a=b):=by
 by_cases h:a=b
 ·simp[h]
 ·simp[h];omega
theorem Dt (a b:Nat):((a:Int)!=(b:Int))=decide (a≠b):=by
 by_cases h:a=b
 ·simp[h]
 ·simp[h];omega
theorem aBe (hm:0<m)(f:Frm):lvl prog pkN m (.func 92) [frV f] H=some (.bool (eZ f),H++[frB f]):=by
 refine cS (cH rfl) hm ?_;rw[aL4];have e0:(Blk.cells (Value.cells (frV f)).toList 39 .fix)=frB f:=rfl;obtain⟨l0,l1,l2,l3,l4,l5,l6⟩:=pH (eD H (frB f));have k1:((f.kind:Int)==1)=decide (f.kind=1):=zO f.kind 1;have k2:((f.kind:Int)==2)=decide (f.kind=2):=zO f.kind 2;have k3:((f.kind:Int)==3)=decide (f.kind=3):=zO f.kind 3;have k4:decide ((f.lane:Int)<3)=decide (f.lane<=2):=by congr 1;exact propext U
 have k5:decide (max (f.src:Int) (f.dst:Int)<6)=decide (f.src<=5/\f.dst<=5):=by congr 1;exact propext U
 have k6:((f.src:Int)!=(f.dst:Int))=decide (f.src≠f.dst):=Dt _ _;have b1:bld prog 39 [(0,.int .u8 f.kind),(1,.int .u8 f.lane),(2,.int .u16 f.seq)]=some (frV ⟨f.kind,f.lane,f.seq,0,0,0⟩):=rfl;have b2:Ip f ⟨f.kind,f.lane,f.seq,0,0,0⟩=decide (f.src=0/\f.dst=0/\f.body=0):=by
  simp only[Ip,zO,decide_true,aSh,Bool.and_true];rw[<-Bool.decide_and,<-Bool.decide_and]
 by_cases p1:f.kind=1
 ·by_cases p2:f.lane<=2
  ·by_cases p3:f.src<=5/\f.dst<=5
   ·by_cases p4:f.src≠f.dst
    ·have hs:eZ f=true:=by unfold eZ;simp[p1,p2,p3.1,p3.2,p4]
     simp only[gsR,e0,l0,l1,l3,l4,zM,k1,k4,k5,k6,aSE p1,aSE p2,aSE p3,aSE p4,hs]
    ·have hs:eZ f=false:=by unfold eZ;simp[p1,p4]
     simp only[gsR,e0,l0,l1,l3,l4,zM,k1,k4,k5,k6,aSE p1,aSE p2,aSE p3,aSF p4,hs]
   ·have hs:eZ f=false:=by unfold eZ;simp[p1];omega
    simp only[gsR,e0,l0,l1,l3,l4,zM,k1,k4,k5,k6,aSE p1,aSE p2,aSF p3,hs]
  ·have hs:eZ f=false:=by unfold eZ;simp[p2]
   simp only[gsR,e0,l0,l1,l3,l4,zM,k1,k4,k5,k6,aSE p1,aSF p2,hs]
 ·by_cases p2:f.kind=2
  ·by_cases p3:f.lane<=2
   ·by_cases p4:f.src=0/\f.dst=0/\f.body=0
    ·have hs:eZ f=true:=by unfold eZ;simp[p2,p3,p4.1,p4.2.1,p4.2.2]
     simp only[gsR,e0,l0,l1,l2,l6,k1,k2,k4,b1,eFr,b2,aSF p1,aSE p2,aSE p3,aSE p4,hs]
    ·have hs:eZ f=false:=by unfold eZ;simp[p2];omega
     simp only[gsR,e0,l0,l1,l2,l6,k1,k2,k4,b1,eFr,b2,aSF p1,aSE p2,aSE p3,aSF p4,hs]
   ·have hs:eZ f=false:=by unfold eZ;simp[p3]
    simp only[gsR,e0,l0,l1,l2,l6,k1,k2,k4,b1,eFr,b2,aSF p1,aSE p2,aSF p3,hs]
  ·by_cases p2':f.kind=3
   ·by_cases p3:f.lane<=2
    ·by_cases p4:f.src=0/\f.dst=0/\f.body=0
     ·have hs:eZ f=true:=by unfold eZ;simp[p2',p3,p4.1,p4.2.1,p4.2.2]
      simp only[gsR,e0,l0,l1,l2,l6,k1,k2,k3,k4,b1,eFr,b2,aSF p1,aSF p2,aSE p2',aSE p3,aSE p4,hs]
     ·have hs:eZ f=false:=by unfold eZ;simp[p2'];omega
      simp only[gsR,e0,l0,l1,l2,l6,k1,k2,k3,k4,b1,eFr,b2,aSF p1,aSF p2,aSE p2',aSE p3,aSF p4,hs]
    ·have hs:eZ f=false:=by unfold eZ;simp[p3]
     simp only[gsR,e0,l0,l1,l2,l6,k1,k2,k3,k4,b1,eFr,b2,aSF p1,aSF p2,aSE p2',aSF p3,hs]
   ·have hs:eZ f=false:=by unfold eZ;simp[p1,p2,p2']
    simp only[gsR,e0,l0,l1,l2,l6,k1,k2,k3,k4,aSF p1,aSF p2,aSF p2',hs]
theorem Q5 (n:Nat):kF (by8 n)= .int .u8 ((n%256:Nat):Int):=by rw[kF,vA]
theorem Du (hm:0<m){H0:aF}{v:Value}{bs:List UInt8}(n:Nat)(hn:n<65536)(h:By H v bs)(hv:New H0 v)(he:Ext H0 H)(hr:hP (bs.length+2) 1=true):
  ∃H' v',lvl prog pkN m (.func 93) [v,.int .u16 n] H=some (v',H')/\By H' v' (bs++gP n)/\New H0 v'/\Ext H0 H':=by
 refine gN (cH rfl) hm ?_;rw[aL5];have e1:bin prog .shr 23 (.int .u16 (n:Int)) (.int .u64 8)=some (.int .u16 ((n/256:Nat):Int)):=by
  have:=Gg (P:=prog) .u16 .u64 23 n 8 aC
  rw[Nat.shiftRight_eq_div_pow] at this;exact this
 have e2:dT 5 1 2 [.int .u8 0] [(0,.int .u8 ((n/256%256:Nat):Int)),(1,.int .u8 ((n%256:Nat):Int))] H=some (.slice (some ⟨H.length,0,none⟩) 2 2,H++[.cells ((gP n).map byC).flatten 5 .row]):=by
  rw[vE];simp only[gP,aSp,List.map_nil,Q5];rfl
 have hw:Rs byC 5 (H++[.cells ((gP n).map byC).flatten 5 .row]) (.slice (some ⟨H.length,0,none⟩) 2 2) (gP n):=
  .inr ⟨H.length,0,2,rfl,aRZ 2,λ_=>⟨5,.row,[],[],rfl,λ_=>rfl,by simp⟩⟩
 obtain⟨v',H',g1,g2,g3,g4⟩:=(h.wY [.cells ((gP n).map byC).flatten 5 .row]).yY Io aBd aC (by':=1) hw hv (he.tr (Fr.app _ _ _)) hr
 simp only[gsR,e1,fU _ _ oG u8U,aMc,e2,g1]
 exact⟨_,_,rfl,g2,g3,g4⟩
theorem aMz (hm:1<m){H0:aF}{v:Value}{bs:List UInt8}(n:Nat)(hn:n<4294967296)(h:By H v bs)(hv:New H0 v)(he:Ext H0 H)(hr:hP (bs.length+4) 1=true):
  ∃H' v',lvl prog pkN m (.func 94) [v,.int .u32 n] H=some (v',H')/\By H' v' (bs++(gP (n/65536)++gP n))/\New H0 v'/\Ext H0 H':=by
 refine gN (cH rfl) U ?_
 rw[aL6];have e1:bin prog .shr 37 (.int .u32 (n:Int)) (.int .u64 16)=some (.int .u32 ((n/65536:Nat):Int)):=by
  have:=Gg (P:=prog) .u32 .u64 37 n 16 aC
  rw[Nat.shiftRight_eq_div_pow] at this;exact this
 have e2:IntKind.u16.wrap ((n/65536:Nat):Int)=((n/65536:Nat):Int):=Mn U U
 obtain⟨H1,v1,g1,g2,g3,g4⟩:=Du (m:=m-1) U (n/65536) U h hv he (iE hr U)
 obtain⟨H2,v2,g5,g6,g7,g8⟩:=Du (m:=m-1) U (n%65536) U g2 g3 g4 (iE hr (by simp[gP]))
 have e3:gP (n%65536)=gP n:=by
  simp only[gP];rw[xO (n:=n%65536/256) (c:=by8 (n/256)) (by rw[vA];omega),xO (n:=n%65536) (c:=by8 n) (by rw[vA];omega)]
 rw[e3,aR1] at g6;simp only[gsR,e1,fU _ _ rJ oG,e2,g1,Do,g5]
 exact⟨_,_,rfl,g6,g7,g8⟩
end
section
variable {H : aF} {m : Nat}
theorem By.aBf (H:aF)(bs:List UInt8):By (H++[.cells ((bs.map byC).flatten) 5 .row]) (.slice (some ⟨H.length,0,none⟩) bs.length bs.length) bs:=by
 refine⟨by rw[vE];simp,.inr ⟨H.length,bs.length,[],rfl,aRZ _,by simp,by simp⟩⟩
theorem By.ext {H':aF}{v:Value}{bs:List UInt8}(h:By H v bs)(he:Ext H H'):By H' v bs:=h.eY λb hb=>he.2 b (h.gU hb) id
theorem aMB (H0:aF){H:aF}(he:Ext H0 H)(n c:Nat):New H0 (.slice (some ⟨H.length,0,none⟩) n c):=λb ⟨_,_,_,h⟩=>by
 cases h;exact he.1
theorem Q6 {n:Nat}(h:n<=100):hP n 1=true:=iE (n:=100) aC h
theorem aMA (hm:100<m)(f:Frm)(hf:f.ok): ∃H' v,lvl prog pkN m (.func 48) [frV f] H=some (.tuple #[v,.int .u16 (if eZ f=true then 0 else 1)],H')/\Ext H H'/\By H' v (qO f)/\New H v:=by
 have main: ∃H' r,lvl prog pkN m (.func 48) [frV f] H=some (r,H')/\ ∃v,r= .tuple #[v,.int .u16 (if eZ f=true then 0 else 1)]/\Ext H H'/\By H' v (qO f)/\New H v:=by
  refine gN (cH rfl) U ?_
  rw[aLN];have e0:(Blk.cells (Value.cells (frV f)).toList 39 .fix)=frB f:=rfl;obtain⟨l0,l1,l2,l3,l4,l5,l6⟩:=pH (eD H (frB f));have s1:=aBe (H:=H++[frB f]) (m:=m-1) U f
  have x0:Ext H (H++[frB f]):=Fr.app _ _ _;have x1:Ext H (H++[frB f]++[frB f]):=x0.tr (Fr.app _ _ _);by_cases hs:eZ f=true
  ·rw[hs] at s1
   have hb2:=oX (eD H (frB f)) (frB f);obtain⟨q0,q1,q2,q3,q4,q5,q6⟩:=pH hb2;have e2: ∀G:aF,dT 5 1 2 [.int .u8 0] [(0,.int .u8 (f.kind:Int)),(1,.int .u8 (f.lane:Int))] G=some (.slice (some ⟨G.length,0,none⟩) 2 2,G++[.cells (([by8 f.kind,by8 f.lane].map byC).flatten) 5 .row]):=λG=>by
    rw[vE];simp only[aSp,List.map_nil,Q5,aSs hf.kind,aSs hf.lane];rfl
   obtain⟨G2,hG2⟩: ∃G2,H++[frB f]++[frB f]=G2:=⟨_,rfl⟩;rw[hG2] at s1 x1 hb2 q0 q1 q2 q3 q4 q5 q6;obtain⟨G3,hG3⟩: ∃G3,G2++[Blk.cells (([by8 f.kind,by8 f.lane].map byC).flatten) 5 .row]=G3:=⟨_,rfl⟩;have b3:By G3 (.slice (some ⟨G2.length,0,none⟩) 2 2) [by8 f.kind,by8 f.lane]:=by rw[<-hG3];exact By.aBf G2 [by8 f.kind,by8 f.lane]
   have x3:Ext H G3:=by rw[<-hG3];exact x1.tr (Fr.app _ _ _)
   have hb3:G3[H.length]? =some (frB f):=by rw[<-hG3];exact oX hb2 _
   obtain⟨p0,p1,p2,p3,p4,p5,p6⟩:=pH hb3;have x3':Ext G2 G3:=by rw[<-hG3];exact Fr.app _ _ _
   obtain⟨G4,v4,g1,b4,n4',x4'⟩:=Du (m:=m-1) U (H0:=G2) f.seq hf.seq b3 (aMB G2 (Fr.kO _ _) 2 2) x3' (Q6 (by simp))
   have nk:((f.kind:Int)==1)=decide (f.kind=1):=zO f.kind 1;have hb4:G4[H.length]? =some (frB f):=by rw[x4'.2 _ (dO hb2) id,hb2]
   obtain⟨t0,t1,t2,t3,t4,t5,t6⟩:=pH hb4;by_cases hk:f.kind=1
   ·have e5:dT 5 1 2 [.int .u8 0] [(0,.int .u8 (f.src:Int)),(1,.int .u8 (f.dst:Int))] G4=some (.slice (some ⟨G4.length,0,none⟩) 2 2,G4++[.cells (([by8 f.src,by8 f.dst].map byC).flatten) 5 .row]):=by
     rw[vE];simp only[aSp,List.map_nil,Q5,aSs hf.src,aSs hf.dst];rfl
    have w5:Rs byC 5 (G4++[.cells (([by8 f.src,by8 f.dst].map byC).flatten) 5 .row]) (.slice (some ⟨G4.length,0,none⟩) 2 2) [by8 f.src,by8 f.dst]:=(By.aBf G4 [by8 f.src,by8 f.dst]).rs;obtain⟨v6,G6,g6,b6,n6,x6⟩:=(b4.wY [.cells (([by8 f.src,by8 f.dst].map byC).flatten) 5 .row]).yY Io aBd aC (by':=1) w5 n4' (x4'.tr (Fr.app _ _ _)) (Q6 (by simp[gP]))
    have hb6:G6[H.length]? =some (frB f):=by rw[x6.2 _ (dO hb2) id,hb2]
    obtain⟨r0,r1,r2,r3,r4,r5,r6⟩:=pH hb6;have hb5:(G4++[Blk.cells (([by8 f.src,by8 f.dst].map byC).flatten) 5 .row])[H.length]? =some (frB f):=oX hb4 _;have r5':=(pH hb5).2.2.2.2.2.1;have ck:chk (some (Value.int .u32 (f.body:Int),G4++[Blk.cells (([by8 f.src,by8 f.dst].map byC).flatten) 5 .row])) (.int .u32 (f.body:Int))=true:=by simp[chk,veq]
    obtain⟨G7,v7,g7,b7,n7,x7⟩:=aMz (m:=m-1) U f.body hf.body b6 n6 x6 (Q6 (by simp[gP]))
    have hbody:mX f=[by8 f.kind,by8 f.lane]++gP f.seq++[by8 f.src,by8 f.dst]++(gP (f.body/65536)++gP f.body):=by
     unfold mX zK;rw[if_pos hk];simp[gP]
    rw[<-hbody] at b7;have hl7:(mX f).length=10:=by rw[hbody];simp[gP]
    have s7:=Q2 (H:=G7) (m:=m-1) b7.br U U U
    obtain⟨G8,v8,g8,b8,n8,x8⟩:=Du (H:=G7++[nG (crc (mX f))]) (m:=m-1) U (crc (mX f)) (Im _) (b7.ext (Fr.app _ _ _)) n7 (x7.tr (Fr.app _ _ _)) (by rw[hl7];decide)
    simp only[gsR,e0,l6,hG2,s1,q0,q1,e2,hG3,p2,g1,t0,nk,aSE hk,t3,t4,e5,g6,r5,r5',ck,g7,s7,g8];refine⟨_,_,rfl,_,by simp[hs],x1.tr x8,?_,λb hb=>aSa x1.1 (n8 b hb)⟩
    unfold qO pD oE;rw[if_pos hs];exact b8
   ·have hbody:mX f=[by8 f.kind,by8 f.lane]++gP f.seq:=by
     unfold mX zK;rw[if_neg hk];simp[gP]
    rw[<-hbody] at b4;have hl7:(mX f).length=4:=by rw[hbody];simp[gP]
    have s7:=Q2 (H:=G4) (m:=m-1) b4.br U U U
    obtain⟨G8,v8,g8,b8,n8,x8⟩:=Du (H:=G4++[nG (crc (mX f))]) (m:=m-1) U (crc (mX f)) (Im _) (b4.ext (Fr.app _ _ _)) n4' (x4'.tr (Fr.app _ _ _)) (by rw[hl7];decide)
    simp only[gsR,e0,l6,hG2,s1,q0,q1,e2,hG3,p2,g1,t0,nk,aSF hk,s7,g8];refine⟨_,_,rfl,_,by simp[hs],x1.tr x8,?_,λb hb=>aSa x1.1 (n8 b hb)⟩
    unfold qO pD oE;rw[if_pos hs];exact b8
  ·have hs':eZ f=false:=by simpa using hs
   rw[hs'] at s1;simp only[gsR,e0,l6,s1];refine⟨_,_,rfl,_,by simp[hs],x1,?_,New.mT H⟩
   unfold qO pD;rw[if_neg hs];exact Rw.kP
 obtain⟨H',r,h1,v,rfl,h2⟩:=main
 exact⟨H',v,h1,h2⟩
end
section
variable {H : aF} {m : Nat}
abbrev Bs (H:aF)(v:Value)(bs:List UInt8):Prop:=Rs byC 5 H v bs
theorem aMC {v:Value}{bs:List UInt8}(h:Bs H v bs):Br H v bs:=by
 rcases h with⟨h1,h2⟩|⟨b,o,cap,h1,h2,h3⟩
 ·exact .inl ⟨h2,.inl h1⟩
 ·by_cases hb:bs=[]
  ·exact .inl ⟨hb,.inr ⟨b,o,cap,by rw[h1,hb];rfl⟩⟩
  ·obtain⟨e',k,pre,post,h4,_,h5⟩:=h3 hb
   refine .inr ⟨b,o,cap,_,e',k,h1,List.length_pos_iff.mpr hb,h5,?_,?_⟩
   ·rw[vE]
    simp;omega
   ·rw[vE,<-h4,aR1,List.drop_left]
    have:bs.length=(bs.map kF).length:=by simp
    rw[this,List.take_left]
theorem Dv {v:Value}{bs:List UInt8}(h:Bs H v bs){i:Nat}{x:UInt8}(hx:bs[i]? =some x)(k:IntKind): ∃a,aT 1 v (.int k i)=some a/\ ∀H',Ext H H'->ld1 a H'=some (kF x,H'):=by
 obtain⟨b,o,h1,h2,h3⟩:=h.fS Io hx k;obtain⟨e',hr⟩:=h.rr (λh=>by subst h;simp at hx)
 exact⟨_,h1,λH' he=>(h3 H' (he.2 b (hr.aGY h2) id)).2.1 0 (kF x) rfl⟩
theorem aBh (bs:List UInt8)(c:UInt8):fC (bs++[c])=fC bs*256+c.toNat:=by simp[fC]
theorem Q7: ∀(n:Nat)(bs:List UInt8),bs.length=n->fC bs<256 ^ n:=by
 intro n;induction n with
 |zero=>intro bs h;rw[aSc.mp h];decide
 |succ n ih=>
  intro bs h;have hne:bs≠[]:=λhh=>by rw[hh] at h;simp at h
  rw[<-List.dropLast_concat_getLast hne,aBh,Nat.pow_succ];have h1:=ih bs.dropLast (by simp[h])
  have h2:=(bs.getLast hne).toNat_lt;omega
theorem aMF (n c:Nat)(hc:c<256):n*256|||c=n*256+c:=by
 have:=Nat.shiftLeft_add_eq_or_of_lt (i:=8) (b:=c) hc n;rw[Nat.shiftLeft_eq] at this;exact this.symm
theorem aMG {u:Value}{bs:List UInt8}(hu:Bs H u bs)(h4:bs.length<=4): ∀(q i k:Nat),bs.length-i=q->i<=bs.length->q<k->
  ∀x0 x1 x2 x4 x5 x9 bS cE aV aR aS aQ aW aX aU:Value,aM k (aN prog (lvl prog pkN m) (aM m) Pz) (P0 (lvl prog pkN m) (aM m)) [x0,x1,x2,(.int .u32 (fC (bs.take i))),x4,x5,u,(.I bs.length),(.I i),x9,bS,cE,aV,aR,aS,aQ,aW,aX,aU] H=some (.int .u32 (fC bs),H):=by
 intro q;induction q with
 |zero=>
  intro i k hq hi hk x0 x1 x2 x4 x5 x9 bS cE aV aR aS aQ aW aX aU;obtain⟨k,rfl⟩: ∃k',k=k'+1:=⟨k-1,by omega⟩
  have hi8:i=bs.length:=U
  subst hi8;have c1:decide ((bs.length:Int)<(bs.length:Int))=false:=by simp
  rw[aM,aAD];simp only[gsR,c1];rw[aLl];simp only[gsR,List.take_length]
 |succ q ih=>
  intro i k hq hi hk x0 x1 x2 x4 x5 x9 bS cE aV aR aS aQ aW aX aU;obtain⟨k,rfl⟩: ∃k',k=k'+1:=⟨k-1,by omega⟩
  have c1:decide ((i:Int)<(bs.length:Int))=true:=by rw[decide_eq_true_eq];omega
  have hx:bs[i]? =some bs[i]:=aRW U
  obtain⟨a,a1,a2⟩:=Dv hu hx .i64;have a2:=a2 H (Fr.kO _ _);have hb:=Q7 i (bs.take i) (by simp;omega)
  have hb3:fC (bs.take i)<16777216:=aR9 hb (Nat.pow_le_pow_right (n:=256) (i:=i) (j:=3) U U)
  have hc:=bs[i].toNat_lt;have e1:bin prog .shl 37 (.int .u32 (fC (bs.take i):Int)) (.int .u64 8)=some (.int .u32 ((fC (bs.take i)*256:Nat):Int)):=by
   have:=Gf (P:=prog) .u32 .u64 rfl 37 (fC (bs.take i)) 8 aC
   rw[show fC (bs.take i)*2 ^ 8%2 ^ IntKind.u32.bits=fC (bs.take i)*256 from by show fC (bs.take i)*256%4294967296=_;omega] at this
   exact this
  have e2:eA prog 5 37 (kF bs[i]) H=some (.int .u32 (bs[i].toNat:Int),H):=by
   show eA prog 5 37 (.int .u8 bs[i].toNat) H=_
   rw[fU _ _ u8U rJ,aAX _ U]
  have e3:bin prog .or 37 (.int .u32 ((fC (bs.take i)*256:Nat):Int)) (.int .u32 (bs[i].toNat:Int))=some (.int .u32 (fC (bs.take (i+1)):Int)):=by
   rw[Mm .u32 rfl _ (a:=fC (bs.take i)*256) (b:=bs[i].toNat) (by show _<4294967296;omega) (by show _<4294967296;omega),aMF _ _ hc,List.take_add_one,hx]
   rw[show(some bs[i]).toList=[bs[i]] from rfl,aBh]
  have e4:=aA (i:=i) U
  rw[aM,aAD];simp only[gsR,c1,a1,a2,e1,e2,e3,cR,e4];exact ih (i+1) k U U U _ _ _ _ _ _ _ _ _ _ _ _ _ _ _
theorem Q8 {u:Value}{bs:List UInt8}(hu:Bs H u bs)(h4:bs.length<=4)(hm:10<m):lvl prog pkN m (.func 136) [u] H=some (.int .u32 (fC bs),H):=by
 refine cS (cH rfl) U ?_
 rw[aLm];simp only[gsR,hu.gW];exact aMG hu h4 bs.length 0 (m-1) U U U _ _ _ _ _ _ _ _ _ _ _ _ _ _ _
def zfB:Blk:=frB Frm.pB
def oP (bs:List UInt8):Value:=match pC bs with
 |some f=> .tuple #[frV f,.int .u16 0]
 |none=> .tuple #[frV Frm.pB,.int .u16 30]
theorem aMD:prog.cellsOf 5=1:=by kernel_rfl
theorem Iq {b:Nat}{f:Frm}(g:Frm)(hb:H[b]? =some (frB f)):stN 6 (.Q b 0) (frV g) H=some (undef,H.set b (frB g)):=wD hb aC rfl rfl (aRZ 6) rfl
theorem Bl (a b:Bool):bin prog .neq 4 (.bool a) (.bool b)=some (.bool (a !=b)):=by
 cases a<;>cases b<;>rfl
theorem Bm {H G:aF}{b:Nat}(he:Ext H G)(hb:H.length<=b)(y:Blk):Ext H (G.set b y):=⟨by simp[he.1],λc hc _=>by rw[aRV U,he.2 c hc id]⟩
theorem aBg {G:aF}(he:Ext H G)(h0:G[H.length]? =some zfB)(h1:G[H.length+1]? =some zfB):ldN 6 (.Q (H.length+1) 0) G=some (frV Frm.pB,G)/\
  stN 6 (.Q H.length 0) (frV Frm.pB) G=some (undef,G.set H.length zfB)/\ldN 6 (.Q H.length 0) (G.set H.length zfB)=some (frV Frm.pB,G.set H.length zfB)/\Ext H (G.set H.length zfB):=
 ⟨(pH h1).2.2.2.2.2.2,Iq Frm.pB h0,(pH (fW h0)).2.2.2.2.2.2,Bm he (aRZ _) _⟩
theorem aBi (H:aF)(X:aF):(H++[zfB]++[zfB]++X)[H.length]? =some zfB/\(H++[zfB]++[zfB]++X)[H.length+1]? =some zfB:=by
 constructor
 ·simp
 ·rw[aR1,aR1,aSe U]
  simp
theorem aME (hm:100<m){u:Value}{bs:List UInt8}(hu:Bs H u bs)(h6:bs.length≠6)(h12:bs.length≠12): ∃H',lvl prog pkN m (.func 87) [u] H=some (oP bs,H')/\Ext H H':=by
 refine nQ (cH rfl) U ?_
 rw[aAT];have hd:oP bs= .tuple #[frV Frm.pB,.int .u16 30]:=by
  unfold oP pC;rw[if_neg U,if_neg U]
 have e0:(Blk.cells [.int .u8 0,.int .u8 0,.int .u16 0,.int .u8 0,.int .u8 0,.int .u32 0] 39 .fix)=zfB:=rfl;have c1:((bs.length:Int)!=6)=true:=by simp;omega
 have c2:((bs.length:Int)!=12)=true:=by simp;omega
 have b2:=aBi H [];rw[List.append_nil] at b2;have x2:Ext H (H++[zfB]++[zfB]):=by rw[aR1];exact Fr.app _ _ _
 have hl2:(H++[zfB]).length=H.length+1:=by simp
 obtain⟨o1,o2,o3,o4⟩:=aBg x2 b2.1 b2.2;simp only[gsR,e0,hl2,hu.gW,c1,c2,o1,o2,o3,hd]
 exact⟨_,rfl,o4⟩
end
section
variable {H : aF} {m : Nat}
theorem aMH {bs:List UInt8}(h:bs.length=6∨bs.length=12):(bs.take 4).drop 2=[bs.getD 2 0,bs.getD 3 0]:=by
 rcases h with h|h
 ·match bs,h with
  |[a,b,c,d,e,f],_=>rfl
 ·match bs,h with
  |[a,b,c,d,e,f,g,h,i,j,k,l],_=>rfl
theorem aMI {bs:List UInt8}(h:bs.length=12):(bs.take 10).drop 6=[bs.getD 6 0,bs.getD 7 0,bs.getD 8 0,bs.getD 9 0]:=by
 match bs,h with
 |[a,b,c,d,e,f,g,h,i,j,k,l],_=>rfl
theorem Ir {bs:List UInt8}{i:Nat}(h:i<bs.length):bs[i]? =some (bs.getD i 0):=by
 rw[aRY,aRW h];rfl
theorem Iu (a:Option Addr)(n c:Nat)(G:aF):chk (some (Value.slice a n c,G)) (.slice a n c)=true:=by simp[chk,veq]
theorem It (x:UInt8)(G:aF):chk (some (kF x,G)) (kF x)=true:=by simp[chk,veq,kF]
theorem aMK (x:UInt8)(n:Nat)(z:Int)(hz:z=n):bin prog .eql 5 (kF x) (.int .u8 z)=some (.bool (decide (x.toNat=n))):=by
 rw[kF,b_eql,hz,zO]
theorem aML (a b:UInt8):fC [a,b]<65536:=by
 have:=a.toNat_lt;have:=b.toNat_lt;rw[Q0];omega
theorem bff:(false !=false)=false:=rfl
theorem btt:(true !=true)=false:=rfl
theorem aBk (hm:0<m){G:aF}{f:Frm}(he:Ext H G)(h0:G[H.length]? =some zfB)(h1:G[H.length+1]? =some (frB f)):
  ldN 6 (.Q (H.length+1) 0) G=some (frV f,G)/\lvl prog pkN m (.func 92) [frV f] G=some (.bool (eZ f),G++[frB f])/\
  ldN 6 (.Q (H.length+1) 0) (G++[frB f])=some (frV f,G++[frB f])/\
  (∀g,stN 6 (.Q H.length 0) (frV g) (G++[frB f])=some (undef,(G++[frB f]).set H.length (frB g))/\ldN 6 (.Q H.length 0) ((G++[frB f]).set H.length (frB g))=some (frV g,(G++[frB f]).set H.length (frB g))/\Ext H ((G++[frB f]).set H.length (frB g))):=by
 have hx:Ext H (G++[frB f]):=he.tr (Fr.app _ _ _);have h0':(G++[frB f])[H.length]? =some (frB Frm.pB):=oX h0 _
 exact⟨(pH h1).2.2.2.2.2.2,aBe hm f,(pH (oX h1 _)).2.2.2.2.2.2,λg=>⟨Iq g h0',(pH (fW h0')).2.2.2.2.2.2,Bm hx (aRZ _) _⟩⟩
theorem aBj (hm:200<m){u:Value}{bs:List UInt8}(hu:Bs H u bs)(hl:bs.length=6∨bs.length=12): ∃H',lvl prog pkN m (.func 87) [u] H=some (oP bs,H')/\Ext H H':=by
  have hne:bs≠[]:=λhh=>by rw[hh] at hl;simp at hl
  obtain⟨sb,so,cap,rfl,hcap,hs⟩:=hu.aMa Io aMD hne;refine nQ (cH rfl) U ?_
  rw[aAT];have e0:(Blk.cells [.int .u8 0,.int .u8 0,.int .u16 0,.int .u8 0,.int .u8 0,.int .u32 0] 39 .fix)=zfB:=rfl;have hl2:(H++[zfB]).length=H.length+1:=by simp
  have x2:Ext H (H++[zfB]++[zfB]):=by rw[aR1];exact Fr.app _ _ _
  have b2:=aBi H [];rw[List.append_nil] at b2;obtain⟨G2,hG2⟩: ∃G2,H++[zfB]++[zfB]=G2:=⟨_,rfl⟩;rw[hG2] at x2 b2;have w1:IntKind.i64.wrap ((bs.length:Int)-2)=((bs.length-2:Nat):Int):=by rw[dL U U];omega
  have f1: ∀G,Ext H G->slc prog 1 (.slice (some ⟨sb,so,none⟩) bs.length cap) none (some (.I ((bs.length-2:Nat):Int))) (some (.I ((bs.length-2:Nat):Int))) G=some (.slice (some ⟨sb,so+0*1,none⟩) (bs.length-2-0) (bs.length-2-0),G)/\Bs G (.slice (some ⟨sb,so+0*1,none⟩) (bs.length-2-0) (bs.length-2-0)) (bs.take (bs.length-2)):=λG he=>by
    have:=hs G (hu.ext he) 0 (bs.length-2) none _ _ (bs.length-2) rfl (lU _ .i64 _) (lU _ .i64 _) U U U U
    rw[List.drop_zero] at this;exact this
  have f2: ∀G,Ext H G->slc prog 1 (.slice (some ⟨sb,so,none⟩) bs.length cap) (some (.I ((bs.length-2:Nat):Int))) none none G=some (.slice (some ⟨sb,so+(bs.length-2)*1,none⟩) (bs.length-(bs.length-2)) (cap-(bs.length-2)),G)/\Bs G (.slice (some ⟨sb,so+(bs.length-2)*1,none⟩) (bs.length-(bs.length-2)) (cap-(bs.length-2))) (bs.drop (bs.length-2)):=λG he=>by
    have:=hs G (hu.ext he) (bs.length-2) bs.length _ none none cap (lU _ .i64 _) rfl rfl U U U U
    rw[List.take_length] at this;exact this
  have f3: ∀G,Ext H G->slc prog 1 (.slice (some ⟨sb,so,none⟩) bs.length cap) (some (.I 2)) (some (.I 4)) none G=some (.slice (some ⟨sb,so+2*1,none⟩) (4-2) (cap-2),G)/\Bs G (.slice (some ⟨sb,so+2*1,none⟩) (4-2) (cap-2)) [bs.getD 2 0,bs.getD 3 0]:=λG he=>by
    have:=hs G (hu.ext he) 2 4 (some (.I 2)) (some (.I 4)) none cap (lU _ .i64 2) (lU _ .i64 4) rfl U U U U
    rw[aMH hl] at this;exact this
  have q1:=(f1 G2 x2).1;have s1:=Q2 (H:=G2) (m:=m-1) (aMC (f1 G2 x2).2) U (by simp;omega) (by simp;omega)
  obtain⟨G3,hG3⟩: ∃G3,G2++[nG (crc (bs.take (bs.length-2)))]=G3:=⟨_,rfl⟩;rw[hG3] at s1;have x3:Ext H G3:=by rw[<-hG3];exact x2.tr (Fr.app _ _ _)
  have b30:G3[H.length]? =some zfB:=by rw[<-hG3];exact oX b2.1 _
  have b31:G3[H.length+1]? =some zfB:=by rw[<-hG3];exact oX b2.2 _
  have q2:=(f2 G3 x3).1;have q2':=(f2 G2 x2).1;have s2:=Q8 (H:=G3) (m:=m-1) (f2 G3 x3).2 (by simp;omega) U
  have cv1:IntKind.u32.wrap (crc (bs.take (bs.length-2)):Int)=(crc (bs.take (bs.length-2)):Int):=aAX _ (by have:=Im (bs.take (bs.length-2));omega)
  obtain⟨o1,o2,o3,o4⟩:=aBg x3 b30 b31;have ck2:chk (some (Value.slice (some ⟨sb,so+(bs.length-2)*1,none⟩) (bs.length-(bs.length-2)) (cap-(bs.length-2)),G2)) (.slice (some ⟨sb,so+(bs.length-2)*1,none⟩) (bs.length-(bs.length-2)) (cap-(bs.length-2)))=true:=Iu _ _ _ _;have c1: ∀z:Bool,((bs.length:Int)!=6)=z->z=decide (bs.length≠6):=λz hz=>by rw[<-hz];exact Dt bs.length 6
  have nn6:((bs.length:Int)!=6)=decide (bs.length≠6):=Dt bs.length 6;have nn12:((bs.length:Int)!=12)=decide (bs.length≠12):=Dt bs.length 12;have ne12:((bs.length:Int)==12)=decide (bs.length=12):=zO bs.length 12;have hlen:aZ (Value.slice (some ⟨sb,so,none⟩) bs.length cap)=some (.I bs.length):=rfl;have ncr:((crc (bs.take (bs.length-2)):Int)!=(fC (bs.drop (bs.length-2)):Int))=decide (crc (bs.take (bs.length-2))≠fC (bs.drop (bs.length-2))):=Dt _ _;obtain⟨a0,i0,l0⟩:=Dv hu (Ir (bs:=bs) (i:=0) U) .i64
  obtain⟨a1,i1,l1⟩:=Dv hu (Ir (bs:=bs) (i:=1) U) .i64
  have i0':aT 1 (.slice (some ⟨sb,so,none⟩) bs.length cap) (.I 0)=some a0:=i0;have i1':aT 1 (.slice (some ⟨sb,so,none⟩) bs.length cap) (.I 1)=some a1:=i1;have k0:=aMK (bs.getD 0 0) 1 1 rfl;have hdn:crc (bs.take (bs.length-2))≠fC (bs.drop (bs.length-2))∨decide ((bs.getD 0 0).toNat=1)≠decide (bs.length=12)->oP bs= .tuple #[frV Frm.pB,.int .u16 30]:=λhh=>by
    have:pC bs=none:=by
      unfold pC xP;rcases hl with h6|h12
      · by_cases hk:(bs.getD 0 0).toNat=1
        · rw[if_neg U,if_neg U]
        · rw[if_pos ⟨h6,hk⟩,if_neg]
          rintro ⟨h1,_⟩
          rcases hh with hh|hh
          · rw[h6] at hh
            exact hh h1
          · rw[aSF hk,aSF (show¬bs.length=12 by omega)] at hh
            exact hh rfl
      · by_cases hk:(bs.getD 0 0).toNat=1
        · rw[if_neg U,if_pos ⟨h12,hk⟩,if_neg]
          rintro ⟨h1,_⟩
          rcases hh with hh|hh
          · rw[h12] at hh
            exact hh h1
          · rw[aSE hk,aSE h12] at hh
            exact hh rfl
        · rw[if_neg U,if_neg U]
    unfold oP;rw[this]
  -- up to the second test
  by_cases hc:crc (bs.take (bs.length-2))=fC (bs.drop (bs.length-2))
  rotate_left
  · have hd:=hdn (.inl hc)
    rcases hl with h6|h12
    · have d6:decide (bs.length≠6)=false:=by simp[h6]
      simp only[gsR,e0,hl2,hG2,hlen,nn6,d6,iC,w1,q1,s1,fU _ _ oG rJ,cv1,q2,q2',ck2,s2,ncr,aSE hc,o1,o2,o3,hd]
      exact⟨_,rfl,o4⟩
    · have d6:decide (bs.length≠6)=true:=by simp[h12]
      have d12:decide (bs.length≠12)=false:=by simp[h12]
      simp only[gsR,e0,hl2,hG2,hlen,nn6,nn12,d6,d12,iC,w1,q1,s1,fU _ _ oG rJ,cv1,q2,q2',ck2,s2,ncr,aSE hc,o1,o2,o3,hd]
      exact⟨_,rfl,o4⟩
  have nz:decide (crc (bs.take (bs.length-2))≠fC (bs.drop (bs.length-2)))=false:=by simp[hc]
  have l0':=l0 G3 x3;have l1':=l1 G3 x3;by_cases hk:decide ((bs.getD 0 0).toNat=1)=decide (bs.length=12)
  rotate_left
  · have hd:=hdn (.inr hk)
    have hkb:(decide ((bs.getD 0 0).toNat=1)!=decide (bs.length=12))=true:=by simpa using hk
    rcases hl with h6|h12
    · have d6:decide (bs.length≠6)=false:=by simp[h6]
      simp only[gsR,e0,hl2,hG2,hlen,nn6,d6,iC,w1,q1,s1,fU _ _ oG rJ,cv1,q2,q2',ck2,s2,ncr,nz,i0',l0',k0,ne12,Bl,hkb,o1,o2,o3,hd]
      exact⟨_,rfl,o4⟩
    · have d6:decide (bs.length≠6)=true:=by simp[h12]
      have d12:decide (bs.length≠12)=false:=by simp[h12]
      simp only[gsR,e0,hl2,hG2,hlen,nn6,nn12,d6,d12,iC,w1,q1,s1,fU _ _ oG rJ,cv1,q2,q2',ck2,s2,ncr,nz,i0',l0',k0,ne12,Bl,hkb,o1,o2,o3,hd]
      exact⟨_,rfl,o4⟩
  have hkb:(decide ((bs.getD 0 0).toNat=1)!=decide (bs.length=12))=false:=by simpa using hk
  have q3:=(f3 G3 x3).1;have s3:=Q8 (H:=G3) (m:=m-1) (f3 G3 x3).2 (by simp) U
  have w3:IntKind.u16.wrap (fC [bs.getD 2 0,bs.getD 3 0]:Int)=(fC [bs.getD 2 0,bs.getD 3 0]:Int):=Mn U (by have:=aML (bs.getD 2 0) (bs.getD 3 0);omega)
  have bF:bld prog 39 [(0,kF (bs.getD 0 0)),(1,kF (bs.getD 1 0)),(2,.int .u16 (fC [bs.getD 2 0,bs.getD 3 0]))]=some (frV (kH bs)):=rfl;have bZ:bld prog 39 []=some (frV Frm.pB):=rfl;have st1:=Iq (kH bs) b31;obtain⟨G4,hG4⟩: ∃G4,G3.set (H.length+1) (frB (kH bs))=G4:=⟨_,rfl⟩;rw[hG4] at st1;have x4:Ext H G4:=by rw[<-hG4];exact Bm x3 U _
  have b40:G4[H.length]? =some zfB:=by rw[<-hG4,aRV U];exact b30
  have b41:G4[H.length+1]? =some (frB (kH bs)):=by rw[<-hG4];exact fW b31
  rcases hl with h6|h12
  · have d6:decide (bs.length≠6)=false:=by simp[h6]
    have d12:decide (bs.length=12)=false:=by simp[h6]
    have hk1: ¬(bs.getD 0 0).toNat=1:=by rw[d12] at hk;simpa using hk
    have hdec:pC bs=if eZ (kH bs)=true then some (kH bs) else none:=by
      unfold pC xP;rw[if_pos ⟨h6,hk1⟩];rw[h6] at hc;by_cases hs:eZ (kH bs)=true
      · rw[if_pos ⟨hc,hs⟩,if_pos hs]
      · rw[if_neg λh=>hs h.2,if_neg hs]
    obtain⟨t1,t2,t3,t4⟩:=aBk (m:=m-1) U x4 b40 b41
    by_cases hs:eZ (kH bs)=true
    · obtain⟨u1,u2,u3⟩:=t4 (kH bs)
      have hd:oP bs= .tuple #[frV (kH bs),.int .u16 0]:=by unfold oP;rw[hdec,if_pos hs]
      rw[hs] at t2;simp only[gsR,e0,hl2,hG2,hlen,nn6,d6,iC,w1,q1,s1,fU _ _ oG rJ,fU _ _ rJ oG,cv1,q2,q2',ck2,s2,ncr,nz,i0',l0',i1',l1',k0,ne12,Bl,aSF hk1,bff,q3,s3,It,w3,bF,st1,d12,t1,t2,t3,u1,u2,hd]
      exact⟨_,rfl,u3⟩
    · obtain⟨u1,u2,u3⟩:=t4 Frm.pB
      have hs':eZ (kH bs)=false:=by simpa using hs
      have hd:oP bs= .tuple #[frV Frm.pB,.int .u16 30]:=by unfold oP;rw[hdec,if_neg hs]
      rw[hs'] at t2;simp only[gsR,e0,hl2,hG2,hlen,nn6,d6,iC,w1,q1,s1,fU _ _ oG rJ,fU _ _ rJ oG,cv1,q2,q2',ck2,s2,ncr,nz,i0',l0',i1',l1',k0,ne12,Bl,aSF hk1,bff,q3,s3,It,w3,bF,st1,d12,t1,t2,bZ,u1,u2,hd]
      exact⟨_,rfl,u3⟩
  · have d6:decide (bs.length≠6)=true:=by simp[h12]
    have d12':decide (bs.length≠12)=false:=by simp[h12]
    have d12:decide (bs.length=12)=true:=by simp[h12]
    have hk1:(bs.getD 0 0).toNat=1:=by rw[d12] at hk;simpa using hk
    have hdec:pC bs=if eZ (oF bs)=true then some (oF bs) else none:=by
      unfold pC xP;rw[if_neg U,if_pos ⟨h12,hk1⟩]
      rw[h12] at hc;by_cases hs:eZ (oF bs)=true
      · rw[if_pos ⟨hc,hs⟩,if_pos hs]
      · rw[if_neg λh=>hs h.2,if_neg hs]
    obtain⟨a4,i4,l4⟩:=Dv hu (Ir (bs:=bs) (i:=4) U) .i64
    obtain⟨a5,i5,l5⟩:=Dv hu (Ir (bs:=bs) (i:=5) U) .i64
    have i4':aT 1 (.slice (some ⟨sb,so,none⟩) bs.length cap) (.I 4)=some a4:=i4;have i5':aT 1 (.slice (some ⟨sb,so,none⟩) bs.length cap) (.I 5)=some a5:=i5;have f4:slc prog 1 (.slice (some ⟨sb,so,none⟩) bs.length cap) (some (.I 6)) (some (.I 10)) none G4=some (.slice (some ⟨sb,so+6*1,none⟩) (10-6) (cap-6),G4)/\Bs G4 (.slice (some ⟨sb,so+6*1,none⟩) (10-6) (cap-6)) [bs.getD 6 0,bs.getD 7 0,bs.getD 8 0,bs.getD 9 0]:=by
      have:=hs G4 (hu.ext x4) 6 10 (some (.I 6)) (some (.I 10)) none cap (lU _ .i64 6) (lU _ .i64 10) rfl U U U U
      rw[aMI h12] at this;exact this
    have q4:=f4.1;have s4:=Q8 (H:=G4) (m:=m-1) f4.2 (by simp) U
    have st3:stN 1 (.Q (H.length+1) 3) (kF (bs.getD 4 0)) G4=some (undef,G4.set (H.length+1) (frB {kH bs with src:=(bs.getD 4 0).toNat})):=lN b41 aC (by simp[frC])
    obtain⟨G5,hG5⟩: ∃G5,G4.set (H.length+1) (frB {kH bs with src:=(bs.getD 4 0).toNat})=G5:=⟨_,rfl⟩;rw[hG5] at st3;have x5:Ext H G5:=by rw[<-hG5];exact Bm x4 U _
    have b50:G5[H.length]? =some zfB:=by rw[<-hG5,aRV U];exact b40
    have b51:G5[H.length+1]? =some (frB {kH bs with src:=(bs.getD 4 0).toNat}):=by rw[<-hG5];exact fW b41
    have st4:stN 1 (.Q (H.length+1) 4) (kF (bs.getD 5 0)) G5=some (undef,G5.set (H.length+1) (frB {kH bs with src:=(bs.getD 4 0).toNat,dst:=(bs.getD 5 0).toNat})):=lN b51 aC (by simp[frC])
    obtain⟨G6,hG6⟩: ∃G6,G5.set (H.length+1) (frB {kH bs with src:=(bs.getD 4 0).toNat,dst:=(bs.getD 5 0).toNat})=G6:=⟨_,rfl⟩;rw[hG6] at st4;have x6:Ext H G6:=by rw[<-hG6];exact Bm x5 U _
    have b60:G6[H.length]? =some zfB:=by rw[<-hG6,aRV U];exact b50
    have b61:G6[H.length+1]? =some (frB {kH bs with src:=(bs.getD 4 0).toNat,dst:=(bs.getD 5 0).toNat}):=by rw[<-hG6];exact fW b51
    have st5:stN 1 (.Q (H.length+1) 5) (.int .u32 (fC [bs.getD 6 0,bs.getD 7 0,bs.getD 8 0,bs.getD 9 0]:Int)) G6=some (undef,G6.set (H.length+1) (frB (oF bs))):=lN b61 aC (by simp[frC])
    obtain⟨G7,hG7⟩: ∃G7,G6.set (H.length+1) (frB (oF bs))=G7:=⟨_,rfl⟩;rw[hG7] at st5;have x7:Ext H G7:=by rw[<-hG7];exact Bm x6 U _
    have b70:G7[H.length]? =some zfB:=by rw[<-hG7,aRV U];exact b60
    have b71:G7[H.length+1]? =some (frB (oF bs)):=by rw[<-hG7];exact fW b61
    have l44:=l4 G4 x4;have l54:=l5 G4 x4;have l55:=l5 G5 x5;obtain⟨t1,t2,t3,t4⟩:=aBk (m:=m-1) U x7 b70 b71
    by_cases hs:eZ (oF bs)=true
    · obtain⟨u1,u2,u3⟩:=t4 (oF bs)
      have hd:oP bs= .tuple #[frV (oF bs),.int .u16 0]:=by unfold oP;rw[hdec,if_pos hs]
      rw[hs] at t2;simp only[gsR,e0,hl2,hG2,hlen,nn6,nn12,d6,d12',iC,w1,q1,s1,fU _ _ oG rJ,fU _ _ rJ oG,cv1,q2,q2',ck2,s2,ncr,nz,i0',l0',i1',l1',k0,ne12,Bl,aSE hk1,btt,q3,s3,It,w3,bF,st1,d12,i4',i5',l44,l54,l55,q4,s4,st3,st4,st5,t1,t2,t3,u1,u2,hd]
      exact⟨_,rfl,u3⟩
    · obtain⟨u1,u2,u3⟩:=t4 Frm.pB
      have hs':eZ (oF bs)=false:=by simpa using hs
      have hd:oP bs= .tuple #[frV Frm.pB,.int .u16 30]:=by unfold oP;rw[hdec,if_neg hs]
      rw[hs'] at t2;simp only[gsR,e0,hl2,hG2,hlen,nn6,nn12,d6,d12',iC,w1,q1,s1,fU _ _ oG rJ,fU _ _ rJ oG,cv1,q2,q2',ck2,s2,ncr,nz,i0',l0',i1',l1',k0,ne12,Bl,aSE hk1,btt,q3,s3,It,w3,bF,st1,d12,i4',i5',l44,l54,l55,q4,s4,st3,st4,st5,t1,t2,bZ,u1,u2,hd]
      exact⟨_,rfl,u3⟩
theorem aMJ (hm:200<m){u:Value}{bs:List UInt8}(hu:Bs H u bs): ∃H',lvl prog pkN m (.func 87) [u] H=some (oP bs,H')/\Ext H H':=by
 by_cases h6:bs.length=6
 ·exact aBj hm hu (.inl h6)
 ·by_cases h12:bs.length=12
  ·exact aBj hm hu (.inr h12)
  ·exact aME U hu h6 h12
end
end Go.Proofs.YtkeilicinggjmaaGreatDoor
namespace Go.Abs
open M
def Rq {α:Type}(el:α->List Value)(e:TypeId)(sz:Nat)(H:aF)(v:Value)(xs:List α):Prop:=
 (v= .slice none 0 0/\xs=[])∨ ∃c pre rest cap,v= .slice (some ⟨c,pre.length,none⟩) xs.length cap/\xs.length<=cap/\rest.length=(cap-xs.length)*sz/\H[c]? =some (.cells (pre++(xs.map el).flatten++rest) e .row)
section
variable {α : Type} {el : α → List Value} {e : TypeId} {sz : Nat} {H H' : aF} {v w : Value} {xs ys : List α}
theorem Rq.aBl:Rq el e sz H (.slice none 0 0) ([]:List α):= .inl ⟨rfl,rfl⟩
theorem Rq.Q9 (h:Rq el e sz H v xs):aZ v=some (.int .i64 xs.length):=by
 rcases h with⟨rfl,rfl⟩|⟨c,pre,rest,cap,rfl,_⟩<;>rfl
theorem Rq.blk (h:Rq el e sz H v xs){b:Nat}(hb:cJ v b): ∃cs,H[b]? =some (.cells cs e .row):=by
 rcases h with⟨rfl,rfl⟩|⟨c,pre,rest,cap,rfl,_,_,h3⟩
 ·obtain⟨_,_,_,hh⟩:=hb
  cases hh
 ·obtain⟨_,_,_,hh⟩:=hb
  cases hh
  exact⟨_,h3⟩
theorem Rq.xT (h:Rq el e sz H v xs){b:Nat}(hb:cJ v b):b<H.length:=by
 obtain⟨cs,hc⟩:=h.blk hb;exact dO hc
theorem Rq.zP (h:Rq el e sz H v xs)(hk: ∀b,cJ v b->H'[b]? =H[b]?):Rq el e sz H' v xs:=by
 rcases h with h|⟨c,pre,rest,cap,rfl,h1,h2,h3⟩
 ·exact .inl h
 ·exact .inr ⟨c,pre,rest,cap,rfl,h1,h2,by rw[hk c ⟨_,_,_,rfl⟩,h3]⟩
theorem Rq.ext (h:Rq el e sz H v xs)(he:Ext H H'):Rq el e sz H' v xs:=h.zP λb hb=>he.2 b (h.xT hb) id
theorem Rq.rs (h:Rq el e sz H v xs):Rs el e H v xs:=by
 rcases h with h|⟨c,pre,rest,cap,rfl,h1,h2,h3⟩
 ·exact .inl h
 ·exact .inr ⟨c,_,cap,rfl,h1,λ_=>⟨e,.row,pre,rest,rfl,λ_=>rfl,h3⟩⟩
theorem Rq.Bn (h:Rq el e sz H v xs):v.cells.toList=[v]/\dV [v]=true:=by
 rcases h with⟨rfl,rfl⟩|⟨c,pre,rest,cap,rfl,_⟩<;>exact⟨rfl,rfl⟩
theorem Rq.aMM {P:Program}{x:α}(hsz: ∀x,(el x).length=sz)(he:P.cellsOf e=sz)(h:Rq el e sz H v (x::xs)): ∃v',(∀H',Rq el e sz H' v (x::xs)->slc P sz v (some (.int .i64 1)) none none H'=some (v',H'))/\Rq el e sz H v' xs/\ ∀b,cJ v' b->cJ v b:=by
 rcases h with⟨_,h⟩|⟨c,pre,rest,cap,rfl,h1,h2,h3⟩
 ·cases h
 ·simp only[aSg] at h1 h2
  refine⟨.slice (some ⟨c,pre.length+1*sz,none⟩) ((x::xs).length-1) (cap-1),λH' h'=> ?_,.inr ⟨c,pre++el x,rest,cap-1,by simp[hsz],by omega,by rw[h2];congr 1;omega,by rw[h3];simp⟩,?_⟩
  ·rcases h' with⟨_,h⟩|⟨c',pre',rest',cap',heq,_,_,h3'⟩
   ·cases h
   ·injection heq with a1 a2 a3
    injection a1 with a1;injection a1 with b1 b2;subst b1 a3;rw[b2];exact rW (P:=P) (H:=H') (sz:=sz) (o:=pre'.length) h3' (λ_=>he) (len:=(x::xs).length) (cap:=cap) (hi:=none) (mx:=none) (lU 0 .i64 1) rfl rfl (by simp) (by simpa using h1) (aRZ _)
  ·rintro b ⟨o,n,k,hh⟩
   cases hh
   exact⟨_,_,_,rfl⟩
theorem Rq.aBm (hsz: ∀x,(el x).length=sz)(hall: ∀x,dV (el x)=true)(h0:0<sz){by':Nat}(h:Rq el e sz H v xs)(x:α)(hr:hP (xs.length+1) by'=true):
  ∃v' H',Go.Abs.app e sz by' v (.slice (some ⟨H.length,0,none⟩) 1 1) (H++[.cells (el x) e .row])=some (v',H')/\Rq el e sz H' v' (xs++[x])/\Fr (cJ v) H H'/\ ∀b,cJ v' b->cJ v b∨(H.length<=b/\b<H'.length):=by
 have hw:Rr el e (H++[.cells (el x) e .row]) (.slice (some ⟨H.length,0,none⟩) 1 1) [x]:=yW (el:=el) x H;have hs:gT sz (.slice (some ⟨H.length,0,none⟩) 1 1) 1 (H++[.cells (el x) e .row])=some (el x):=by
  have:=hw.Xd hsz;simpa using this
 have hl:mS (.slice (some ⟨H.length,0,none⟩) 1 1)=some 1:=rfl;have hne:el x≠[]:=λhh=>by have:=hsz x;rw[hh] at this;simp at this;omega
 have hle:(H++[Blk.cells (el x) e .row]).length=H.length+1:=by simp
 unfold Go.Abs.app;rw[hl];simp only;rw[hs];simp only;rcases h with⟨rfl,rfl⟩|⟨c,pre,rest,cap,rfl,h1,h2,h3⟩
 ·simp only
  rw[if_neg aC,if_pos (show hP 1 by'=true from hr)]
  refine⟨_,_,rfl,.inr ⟨_,[],[],1,rfl,by simp,by simp,by rw[eD];simp⟩,⟨by simp,λb hb _=>by rw[aR1,aRX hb]⟩,?_⟩
  rintro b ⟨o,n,k,hh⟩
  cases hh;exact .inr ⟨by simp,by simp⟩
 ·have hc:=dO h3
  have hg:(H++[Blk.cells (el x) e .row])[c]? =some (.cells (pre++(xs.map el).flatten++rest) e .row):=oX h3 _;have hf:=uP (xs.map el) (vV hsz);rw[aR8] at hf;simp only;rw[hg];simp only;by_cases hroom:xs.length+1<=cap
  ·rw[if_pos hroom,if_neg hne]
   have hrl:sz<=rest.length:=by
    rw[h2]
    calc sz=1*sz:=(Nat.one_mul sz).symm
     _<=(cap-xs.length)*sz:=Nat.mul_le_mul_right sz U
   rw[if_pos ⟨by decide,by simp only[aR6,hf];omega,hall x⟩]
   have hset:eT (pre++(xs.map el).flatten++rest) (pre.length+xs.length*sz) (el x)=pre++((xs++[x]).map el).flatten++rest.drop sz:=by
    have:=uU (el x) (rest.take sz) (pre++(xs.map el).flatten) (rest.drop sz) (by rw[List.length_take,hsz];omega)
    rw[aR1 _ (rest.take sz),List.take_append_drop,aR6,hf] at this;rw[this];simp
   rw[hset];refine⟨_,_,rfl,.inr ⟨c,pre,rest.drop sz,cap,by simp,by simpa using hroom,?_,fW hg⟩,⟨by simp,λb hb hh=> ?_⟩,?_⟩
   ·rw[List.length_drop,h2,aR6,List.length_singleton,show cap-xs.length=(cap-(xs.length+1))+1 by omega,Nat.succ_mul]
    omega
   ·rw[aRV (λhx=>hh (by subst hx;exact⟨_,_,_,rfl⟩)),aRX hb]
   ·rintro b ⟨o,n,k,hh⟩
    cases hh;exact .inl ⟨_,_,_,rfl⟩
  ·rw[if_neg hroom,if_pos ⟨trivial,trivial,by simp only[aR6,hf];omega,hr,hall x⟩]
   have hcut:((pre++(xs.map el).flatten++rest).drop pre.length).take (xs.length*sz)=(xs.map el).flatten:=by
    rw[aR1,List.drop_left,<-hf,List.take_left]
   rw[hcut];have hlen:((H++[Blk.cells (el x) e .row]).set c .dead).length=H.length+1:=by simp
   refine⟨_,_,rfl,.inr ⟨H.length+1,[],[],xs.length+1,by simp,by simp,by simp,by rw[<-hlen,eD];simp⟩,⟨by simp;omega,λb hb hh=> ?_⟩,?_⟩
   ·rw[aRX (by rw[hlen];omega),aRV (λhx=>hh (by subst hx;exact⟨_,_,_,rfl⟩)),aRX hb]
   ·rintro b ⟨o,n,k,hh⟩
    cases hh;exact .inr ⟨by simp,by simp⟩
end
end Go.Abs
namespace Go.Proofs.YtkeilicinggjmaaGreatDoor
open Go.Proofs.Tryz
open Go.Abs Go.Abs.M
theorem Iy (n sz b o:Nat)(k:IntKind)(i:Nat)(h1:i<n):sJ n sz (.Q b o) (.int k (i:Int))=some (.Q b (o+i*sz)):=by
 simp[sJ,adr,h1]
abbrev Pq (H:aF)(v:Value)(xs:List Pkt):Prop:=Rq Pkt.oD 54 4 H v xs
theorem Bp (x:Pkt):x.oD.length=4:=rfl
theorem Ra (x:Pkt):dV x.oD=true:=rfl
def Dw (w0 w1 w2 cv:Value)(lanes queue:Nat):Blk:= .cells [w0,w1,w2,cv,.int .i64 lanes,.int .i64 queue] 167 .fix
def w3 (w0 w1 w2:Value)(k:Nat):Value:=if k=0 then w0 else if k=1 then w1 else w2
structure HostI (D:aF)(a:Nat)(L G:List Pkt)(lanes queue:Nat)(w0 w1 w2 cv:Value):Prop where
 blk:D[a]? =some (Dw w0 w1 w2 cv lanes queue)
 lanes:1<=lanes/\lanes<=3
 queue:1<=queue/\queue<=8
 q: ∀k,k<3->Pq D (w3 w0 w1 w2 k) (gQ L k)
 came:Pq D cv G
 apart: ∀k j,k<3->j<3->k≠j-> ∀b,cJ (w3 w0 w1 w2 k) b-> ¬cJ (w3 w0 w1 w2 j) b
 apartC: ∀k,k<3-> ∀b,cJ (w3 w0 w1 w2 k) b-> ¬cJ cv b
def HostAt (D:aF)(a:Nat)(L G:List Pkt)(lanes queue:Nat):Prop:= ∃w0 w1 w2 cv,HostI D a L G lanes queue w0 w1 w2 cv
section
variable {D : aF} {m a lanes queue : Nat} {L G : List Pkt} {w0 w1 w2 cv : Value}
theorem HostAt.ext {D':aF}(h:HostAt D a L G lanes queue)(he:Ext D D'):HostAt D' a L G lanes queue:=by
 obtain⟨w0,w1,w2,cv,h⟩:=h
 exact⟨w0,w1,w2,cv,by rw[he.2 a (dO h.blk) id,h.blk],h.lanes,h.queue,λk hk=>(h.q k hk).ext he,h.came.ext he,h.apart,h.apartC⟩
theorem Iv (h:HostI D a L G lanes queue w0 w1 w2 cv)(hm:0<m)(k:Int):lvl prog pkN m (.func 118) [.Q a 0,.I k] D=some (.bool (decide (0<=k/\k<lanes)),D):=by
 refine cS (cH rfl) hm ?_;rw[aLh];have l4:ld1 (.Q a 4) D=some (.I lanes,D):=dI h.blk rfl;by_cases h0:0<=k
 ·by_cases h1:k<lanes
  ·simp only[gsR,aSE h0,l4,aSE h1,aSE (show 0<=k/\k<lanes from⟨h0,h1⟩)]
  ·simp only[gsR,aSE h0,l4,aSF h1,aSF (show¬(0<=k/\k<lanes) from λh=>h1 h.2)]
 ·simp only[gsR,aSF h0,aSF (show¬(0<=k/\k<lanes) from λh=>h0 h.1)]
theorem Dx (h:HostI D a L G lanes queue w0 w1 w2 cv){k:Nat}(hk:k<3):ld1 (.Q a k) D=some (w3 w0 w1 w2 k,D):=by
 match k,hk with
 |0,_=>exact dI h.blk rfl
 |1,_=>exact dI h.blk rfl
 |2,_=>exact dI h.blk rfl
theorem aBn (h:HostI D a L G lanes queue w0 w1 w2 cv)(hm:1<m)(k:Nat)(hk:k<lanes):lvl prog pkN m (.func 141) [.Q a 0,.I k] D=some (.I (gQ L k).length,D):=by
 have h3:k<3:=aR9 hk h.lanes.2;refine cS (cH rfl) U ?_
 rw[aLu];have e1:=Iv h (m:=m-1) U (k:Int)
 have c:decide (0<=(k:Int)/\(k:Int)<lanes)=true:=by rw[decide_eq_true_eq];omega
 have e2:=Iy 3 1 a 0 .i64 k h3;rw[Nat.mul_one,aSf] at e2;simp only[gsR,e1,c,e2,Dx h h3,(h.q k h3).Q9]
theorem aMN (hm:0<m)(lanes queue:Nat)(h1:1<=lanes/\lanes<=3)(h2:1<=queue/\queue<=8): ∃a H',lvl prog pkN m (.func 35) [.I lanes,.I queue] D=some (.Q a 0,H')/\HostAt H' a [] [] lanes queue/\Ext D H'/\D.length<=a:=by
 have main:lvl prog pkN m (.func 35) [.I lanes,.I queue] D=some (.Q D.length 0,D++[Dw (.slice none 0 0) (.slice none 0 0) (.slice none 0 0) (.slice none 0 0) lanes queue]):=by
  refine cS (cH rfl) hm ?_;rw[aLG];have c1:decide ((lanes:Int)<1)=false:=by rw[decide_eq_false_iff_not];omega
  have c2:decide (3<(lanes:Int))=false:=by rw[decide_eq_false_iff_not];omega
  have c3:decide ((queue:Int)<1)=false:=by rw[decide_eq_false_iff_not];omega
  have c4:decide (8<(queue:Int))=false:=by rw[decide_eq_false_iff_not];omega
  have e3:bld prog 167 [(2,.I lanes),(3,.I queue)]=some (.agg #[.slice none 0 0,.slice none 0 0,.slice none 0 0,.slice none 0 0,.I lanes,.I queue]):=rfl;simp only[gsR,c1,c2,c3,c4,e3];rfl
 have hn: ∀k b,¬cJ (w3 (.slice none 0 0) (.slice none 0 0) (.slice none 0 0) k) b:=λk b hh=>by
  have:w3 (.slice none 0 0) (.slice none 0 0) (.slice none 0 0) k= .slice none 0 0:=by unfold w3;split<;>(try split)<;>rfl
  rw[this] at hh;obtain⟨_,_,_,hh⟩:=hh;cases hh
 refine⟨_,_,main,⟨_,_,_,_,eD _ _,h1,h2,λk hk=> ?_,Rq.aBl,λk j _ _ _ b hb=>absurd hb (hn k b),λk _ b hb=>absurd hb (hn k b)⟩,Fr.app _ _ _,aRZ _⟩
 have:w3 (.slice none 0 0) (.slice none 0 0) (.slice none 0 0) k= .slice none 0 0:=by unfold w3;split<;>(try split)<;>rfl
 rw[this];exact Rq.aBl
end
def dK (x:Pkt):Blk:= .cells x.oD 54 .fix
theorem aMR (w0 w1 w2:Value){k:Nat}(hk:k<3)(v:Value): ∃u0 u1 u2,(∀a b c:Value,([w0,w1,w2,a,b,c]:List Value).set k v=[u0,u1,u2,a,b,c])/\ ∀j,j<3->w3 u0 u1 u2 j=if j=k then v else w3 w0 w1 w2 j:=by
 match k,hk with
 |0,_=>exact⟨v,w1,w2,λ_ _ _=>rfl,λj hj=>by match j,hj with|0,_=>rfl|1,_=>rfl|2,_=>rfl⟩
 |1,_=>exact⟨w0,v,w2,λ_ _ _=>rfl,λj hj=>by match j,hj with|0,_=>rfl|1,_=>rfl|2,_=>rfl⟩
 |2,_=>exact⟨w0,w1,v,λ_ _ _=>rfl,λj hj=>by match j,hj with|0,_=>rfl|1,_=>rfl|2,_=>rfl⟩
theorem aBp (L:List Pkt)(x:Pkt)(k:Int):gQ (L++[x]) k=if x.lane=k then gQ L k++[x] else gQ L k:=by
 unfold gQ;rw[List.filter_append];by_cases h:x.lane=k<;>simp[h]
section
variable {D : aF} {m a lanes queue : Nat} {L G : List Pkt} {w0 w1 w2 cv : Value}
theorem HostI.aBo {D':aF}(h:HostI D a L G lanes queue w0 w1 w2 cv){k:Nat}(hk:k<3){v:Value}{L':List Pkt}(hf:Fr (cJ (w3 w0 w1 w2 k)) D D')(hv:Pq D' v (gQ L' k))(hn: ∀b,cJ v b->cJ (w3 w0 w1 w2 k) b∨(D.length<=b/\b<D'.length))
  (hL: ∀j:Nat,j<3->j≠k->gQ L' j=gQ L j):HostAt (D'.set a (.cells (([w0,w1,w2,cv,.I lanes,.I queue]:List Value).set k v) 167 .fix)) a L' G lanes queue:=by
 obtain⟨u0,u1,u2,e1,e2⟩:=aMR w0 w1 w2 hk v;have hna: ∀w,(∃xs:List Pkt,Pq D w xs)-> ¬cJ w a:=λw ⟨xs,hw⟩ hh=>by
  obtain⟨cs,hc⟩:=hw.blk hh;rw[h.blk] at hc;cases hc
 have ha:D'[a]? =D[a]? :=hf.2 a (dO h.blk) (hna _ ⟨_,h.q k hk⟩);have hva: ¬cJ v a:=λhh=>by
  obtain⟨cs,hc⟩:=hv.blk hh;rw[ha,h.blk] at hc;cases hc
 have hlt:a<D'.length:=aR9 (dO h.blk) hf.1;rw[e1];have out: ∀w (xs:List Pkt),Pq D w xs->(∀b,cJ w b-> ¬cJ (w3 w0 w1 w2 k) b)->Pq (D'.set a (.cells [u0,u1,u2,cv,.I lanes,.I queue] 167 .fix)) w xs:=λw xs hw hd=>hw.zP λb hb=>by
  rw[aRV (λhx=>by subst hx;exact hna w ⟨xs,hw⟩ hb),hf.2 b (hw.xT hb) (hd b hb)]
 refine⟨u0,u1,u2,cv,aR0 hlt,h.lanes,h.queue,λj hj=> ?_,out cv G h.came λb hb hh=>h.apartC k hk b hh hb,λi j hi hj hij b hb hb'=> ?_,λi hi b hb hb'=> ?_⟩
 ·rw[e2 j hj]
  by_cases hjk:j=k
  ·subst hjk
   rw[if_pos rfl];exact hv.zP λb hb=>aRV (λhx=>hva (by subst hx;exact hb))
  ·rw[if_neg hjk,hL j hj hjk]
   exact out _ _ (h.q j hj) (h.apart j k hj hk hjk)
 ·rw[e2 i hi] at hb
  rw[e2 j hj] at hb';by_cases hik:i=k
  ·rw[if_pos hik] at hb
   rw[if_neg (λhh=>hij (hik.trans hh.symm))] at hb'
   rcases hn b hb with h1|h1
   ·exact h.apart k j hk hj (λhh=>hij (hik.trans hh)) b h1 hb'
   ·have:=(h.q j hj).xT hb'
    omega
  ·rw[if_neg hik] at hb
   by_cases hjk:j=k
   ·rw[if_pos hjk] at hb'
    rcases hn b hb' with h1|h1
    ·exact h.apart i k hi hk hik b hb h1
    ·have:=(h.q i hi).xT hb
     omega
   ·rw[if_neg hjk] at hb'
    exact h.apart i j hi hj hij b hb hb'
 ·rw[e2 i hi] at hb
  by_cases hik:i=k
  ·rw[if_pos hik] at hb
   rcases hn b hb with h1|h1
   ·exact h.apartC k hk b h1 hb'
   ·have:=h.came.xT hb'
    omega
  ·rw[if_neg hik] at hb
   exact h.apartC i hi b hb hb'
theorem rK {H:aF}{b:Nat}{x:Pkt}(hb:H[b]? =some (dK x)):ld1 (.Q b 2) H=some (.I x.lane,H)/\ldN 4 (.Q b 0) H=some (x.dN,H):=⟨dI hb rfl,rG hb (aRZ 4)⟩
theorem aMP (h:HostI D a L G lanes queue w0 w1 w2 cv)(hm:2<m)(x:Pkt)(hx: ¬(0<=x.lane/\x.lane<lanes)):lvl prog pkN m (.func 63) [.Q a 0,x.dN] D=some (.int .u16 1,D++[dK x]):=by
 refine cS (cH rfl) U ?_
 rw[Qs];have e0:(Blk.cells (Value.cells x.dN).toList 54 .fix)=dK x:=rfl;obtain⟨l2,l4⟩:=rK (eD D (dK x));obtain⟨u0,u1,u2,cu,h'⟩:HostAt (D++[dK x]) a L G lanes queue:=HostAt.ext ⟨w0,w1,w2,cv,h⟩ (Fr.app _ _ _);have e1:=Iv h' (m:=m-1) U x.lane
 simp only[gsR,e0,l2,e1,aSF hx]
theorem aMO (h:HostI D a L G lanes queue w0 w1 w2 cv)(hm:2<m)(x:Pkt)(hx:0<=x.lane/\x.lane<lanes)(hq:(gQ L x.lane).length=queue):lvl prog pkN m (.func 63) [.Q a 0,x.dN] D=some (.int .u16 150,D++[dK x]):=by
 refine cS (cH rfl) U ?_
 rw[Qs];have e0:(Blk.cells (Value.cells x.dN).toList 54 .fix)=dK x:=rfl;obtain⟨l2,l4⟩:=rK (eD D (dK x));obtain⟨u0,u1,u2,cu,h'⟩:HostAt (D++[dK x]) a L G lanes queue:=HostAt.ext ⟨w0,w1,w2,cv,h⟩ (Fr.app _ _ _);have e1:=Iv h' (m:=m-1) U x.lane
 obtain⟨k,hk⟩: ∃k:Nat,x.lane=k:=⟨x.lane.toNat,by omega⟩
 have h3:k<3:=by have:=h.lanes.2;omega
 have e2:=Iy 3 1 a 0 .i64 k h3;rw[Nat.mul_one,aSf,<-hk] at e2;have e3:=(h'.q k h3).Q9;rw[<-hk,hq] at e3;have l5:ld1 (.Q a 5) (D++[dK x])=some (.I queue,D++[dK x]):=dI h'.blk rfl;have c:((queue:Int)==(queue:Int))=true:=by simp
 simp only[gsR,e0,l2,e1,aSE hx,e2,Dx h' h3,e3,l5,c]
theorem aMQ (h:HostI D a L G lanes queue w0 w1 w2 cv)(hm:2<m)(x:Pkt)(hx:0<=x.lane/\x.lane<lanes)(hq:(gQ L x.lane).length≠queue)(hr:hP ((gQ L x.lane).length+1) 32=true): ∃H',lvl prog pkN m (.func 63) [.Q a 0,x.dN] D=some (.int .u16 0,H')/\HostAt H' a (L++[x]) G lanes queue:=by
 refine nQ (cH rfl) U ?_
 rw[Qs];have e0:(Blk.cells (Value.cells x.dN).toList 54 .fix)=dK x:=rfl;obtain⟨l2,l4⟩:=rK (eD D (dK x));have hb1:=eD D (dK x);obtain⟨u0,u1,u2,cu,h'⟩:HostAt (D++[dK x]) a L G lanes queue:=HostAt.ext ⟨w0,w1,w2,cv,h⟩ (Fr.app _ _ _);have e1:=Iv h' (m:=m-1) U x.lane
 obtain⟨k,hk⟩: ∃k:Nat,x.lane=k:=⟨x.lane.toNat,by omega⟩
 have h3:k<3:=by have:=h.lanes.2;omega
 have e2:=Iy 3 1 a 0 .i64 k h3;rw[Nat.mul_one,aSf,<-hk] at e2;have e3:=(h'.q k h3).Q9;have l5:ld1 (.Q a 5) (D++[dK x])=some (.I queue,D++[dK x]):=dI h'.blk rfl;have c:(((gQ L (k:Int)).length:Int)==(queue:Int))=false:=by rw[<-hk];simp;omega
 obtain⟨D1,hD1⟩: ∃D1,D++[dK x]=D1:=⟨_,rfl⟩;rw[hD1] at l2 l4 h' e1 l5 hb1;have eb:dT 54 4 1 [.I 0,.I 0,.I 0,.int .u32 0] [(0,x.dN)] D1=some (.slice (some ⟨D1.length,0,none⟩) 1 1,D1++[.cells x.oD 54 .row]):=rfl;obtain⟨v',H',g1,g2,g3,g4⟩:=(h'.q k h3).aBm Bp Ra aC (by':=32) x (by rw[<-hk];exact hr)
 have hnp: ¬cJ (w3 u0 u1 u2 k) D.length:=λhh=>by
  obtain⟨cs,hc⟩:=(h'.q k h3).blk hh;rw[hb1] at hc;cases hc
 have hb2:H'[D.length]? =some (dK x):=by rw[g3.2 _ (dO hb1) hnp,hb1]
 have l2':=(rK hb2).1;have hna: ¬cJ (w3 u0 u1 u2 k) a:=λhh=>by
  obtain⟨cs,hc⟩:=(h'.q k h3).blk hh;rw[h'.blk] at hc;cases hc
 have ha':H'[a]? =some (Dw u0 u1 u2 cu lanes queue):=by rw[g3.2 _ (dO h'.blk) hna,h'.blk]
 have st:stN 1 (.Q a k) v' H'=some (undef,H'.set a (.cells (([u0,u1,u2,cu,.I lanes,.I queue]:List Value).set k v') 167 .fix)):=qN ha' aC (by simp;omega) g2.Bn.1 g2.Bn.2
 have ck:chk (some (Value.I x.lane,H')) (.I x.lane)=true:=by simp[chk,veq]
 simp only[gsR,e0,hD1,l2,e1,aSE hx,e2,Dx h' h3,e3,l5,c,l4,eb,g1,l2',ck,st];refine⟨_,rfl,h'.aBo h3 g3 ?_ g4 λj hj hjk=> ?_⟩
 ·rw[aBp,if_pos hk]
  exact g2
 ·rw[aBp,if_neg U]
end
section
variable {D : aF} {m a lanes queue : Nat} {L G : List Pkt} {w0 w1 w2 cv : Value}
theorem aMS (h:HostI D a L G lanes queue w0 w1 w2 cv)(hm:0<m)(x:Pkt)(hr:hP (G.length+1) 32=true): ∃H',lvl prog pkN m (.func 108) [.Q a 0,x.dN] D=some (aL [],H')/\HostAt H' a L (G++[x]) lanes queue:=by
 refine nQ (cH rfl) U ?_
 rw[aLe];have e0:(Blk.cells (Value.cells x.dN).toList 54 .fix)=dK x:=rfl;obtain⟨l2,l4⟩:=rK (eD D (dK x));obtain⟨u0,u1,u2,cu,h'⟩:HostAt (D++[dK x]) a L G lanes queue:=HostAt.ext ⟨w0,w1,w2,cv,h⟩ (Fr.app _ _ _);obtain⟨D1,hD1⟩: ∃D1,D++[dK x]=D1:=⟨_,rfl⟩;rw[hD1] at l2 l4 h';have l3:ld1 (.pointer (some ⟨a,3,none⟩)) D1=some (cu,D1):=dI h'.blk rfl;have eb:dT 54 4 1 [.int .i64 0,.int .i64 0,.int .i64 0,.int .u32 0] [(0,x.dN)] D1=some (.slice (some ⟨D1.length,0,none⟩) 1 1,D1++[.cells x.oD 54 .row]):=rfl;obtain⟨v',H',g1,g2,g3,g4⟩:=h'.came.aBm Bp Ra aC (by':=32) x hr
 have hna: ¬cJ cu a:=λhh=>by
  obtain⟨cs,hc⟩:=h'.came.blk hh;rw[h'.blk] at hc;cases hc
 have ha':H'[a]? =some (Dw u0 u1 u2 cu lanes queue):=by rw[g3.2 _ (dO h'.blk) hna,h'.blk]
 have st:stN 1 (.Q a 3) v' H'=some (undef,H'.set a (Dw u0 u1 u2 v' lanes queue)):=qN ha' aC (by simp) g2.Bn.1 g2.Bn.2
 have hva: ¬cJ v' a:=λhh=>by
  obtain⟨cs,hc⟩:=g2.blk hh;rw[ha'] at hc;cases hc
 simp only[gsR,e0,hD1,l3,l4,eb,g1,st];refine⟨_,rfl,u0,u1,u2,v',fW ha',h'.lanes,h'.queue,λj hj=>(h'.q j hj).zP λb hb=> ?_,g2.zP λb hb=>aRV (λhx=>hva (by subst hx;exact hb)),h'.apart,λi hi b hb hb'=> ?_⟩
 ·have hab:a≠b:=λhx=>by
   subst hx;obtain⟨cs,hc⟩:=(h'.q j hj).blk hb;rw[h'.blk] at hc;cases hc
  rw[aRV hab,g3.2 b ((h'.q j hj).xT hb) (h'.apartC j hj b hb)]
 ·rcases g4 b hb' with h1|h1
  ·exact h'.apartC i hi b hb h1
  ·have:=(h'.q i hi).xT hb
   omega
end
end Go.Proofs.YtkeilicinggjmaaGreatDoor
namespace Go.Abs
open M
structure PkN (c:Cfg)(x:Pkt):Prop where
 src:0<=x.src/\x.src<c.nodes
 dst:0<=x.dst/\x.dst<c.nodes
 lane:0<=x.lane/\x.lane<c.lanes
 body:0<=x.body/\x.body<4294967296
structure SndI (t:Nat)(x:Snd):Prop where
 le:x.s<=x.l
 wide:x.l<=x.s+8
 big:x.s<=65536+t
structure RcvI (room t:Nat)(x:Rcv):Prop where
 h:x.h<=room
 big:x.n<=65536+9*t
structure WhlI (lanes:Nat)(x:Whl):Prop where
 len:x.l.length=lanes
 wt: ∀y∈x.l,0<=y/\y<=5
 fr:x.fr<lanes
structure NInv (c:Cfg)(t:Nat)(s:NS):Prop where
 snd: ∀i k,SndI t (s.snd i k)
 rcv: ∀i k,RcvI c.room t (s.rcv i k)
 hG:s.hG.length<=t
 ticks:s.ticks<=t
 hL: ∀x∈s.hL,PkN c x
 hQ: ∀k:Int,(gQ s.hL k).length<=c.queue
 rL: ∀e∈s.rL,PkN c e.2
 rN:s.rL.length<=c.aK*c.lanes*c.room
 gl:s.g.length=c.aK
 al:s.a.length=c.aK
 g: ∀x∈s.g,x<c.aK
 a: ∀x∈s.a,x<c.aK
 whl: ∀i,WhlI c.lanes (s.whl i)
theorem SndI.Re {t t':Nat}{x:Snd}(h:SndI t x)(ht:t<=t'):SndI t' x:=⟨h.le,h.wide,aSa h.big U⟩
theorem RcvI.Rc {room t t':Nat}{x:Rcv}(h:RcvI room t x)(ht:t<=t'):RcvI room t' x:=⟨h.h,aSa h.big U⟩
theorem NInv.tA {c:Cfg}{t t':Nat}{s:NS}(h:NInv c t s)(ht:t<=t'):NInv c t' s:=
 {h with snd:=λi k=>(h.snd i k).Re ht,rcv:=λi k=>(h.rcv i k).Rc ht,hG:=aSa h.hG ht,ticks:=aSa h.ticks ht}
theorem SndI.aM0 {t:Nat}{x:Snd}(h:SndI t x)(limit:Nat):SndI t (x.rH limit):=by
 unfold Snd.rH;simp only;split
 ·exact h
 ·have:=h.le
  have:=h.big
  exact⟨by simp only;omega,by simp only;omega,h.big⟩
theorem SndI.aM1 {t:Nat}{x:Snd}(h:SndI t x):SndI (t+1) x.pE.2:=by
 unfold Snd.pE;split
 ·exact h.Re U
 ·have:=h.le
  have:=h.wide;have:=h.big
  exact⟨by simp only;omega,by simp only;omega,by simp only;omega⟩
theorem RcvI.aMZ {room t:Nat}{x:Rcv}(h:RcvI room t x)(hr:room<=8)(s:Nat):RcvI room (t+1) (x.pW room s):=by
 have h1:=h.h;have h2:=h.big;unfold Rcv.pW;simp only;split
 ·exact h.Rc U
 ·rename_i hc
  unfold Rcv.mZ at hc
  exact⟨h.h,by simp only;omega⟩
theorem aM4 (room:Nat)(x:Rcv)(s:Nat):(x.lO room s).2=x∨ ∃w,x.n<=w/\w<x.mZ room/\(x.lO room s).2=⟨w+1,x.h+1⟩:=by
 unfold Rcv.lO
 generalize eF x.n s=w
 by_cases c1:w<x.n
 ·left
  simp only[if_pos c1]
 ·by_cases c2:x.mZ room<=w
  ·left
   simp only[if_neg c1,if_pos c2]
  ·right
   refine⟨w,Nat.le_of_not_lt c1,Nat.lt_of_not_le c2,?_⟩;simp only[if_neg c1,if_neg c2]
theorem aM3 {n h room t w:Nat}(h1:h<=room)(h2:n<=65536+9*t)(hr:room<=8)(h3:n<=w)(h4:w<n+(room-h)):h+1<=room/\w+1<=65536+9*(t+1):=by
 generalize 65536=z at*
 omega
theorem RcvI.aBv {room t:Nat}{x:Rcv}(h:RcvI room t x)(hr:room<=8)(s:Nat):RcvI room (t+1) (x.lO room s).2:=by
 rcases aM4 room x s with h0|⟨w,h3,h4,h0⟩
 ·rw[h0]
  exact h.Rc (Nat.le_succ t)
 ·rw[h0]
  obtain⟨e1,e2⟩:=aM3 h.h h.big hr h3 h4
  exact⟨e1,e2⟩
theorem RcvI.aMY {room t:Nat}{x:Rcv}(h:RcvI room t x):RcvI room t x.wF:=⟨by have:=h.h;unfold Rcv.wF;simp only;omega,h.big⟩
theorem Bq {α:Type}{P:α->Prop}{f:Nat->Nat->α}{i k:Nat}{x:α}(h: ∀i k,P (f i k))(hx:P x)(j l:Nat):P (up2 f i k x j l):=by
 unfold up2;split
 ·exact hx
 ·exact h j l
theorem aM8 {α:Type}{P:α->Prop}{f:Nat->α}{i:Nat}{x:α}(h: ∀i,P (f i))(hx:P x)(j:Nat):P (up1 f i x j):=by
 unfold up1;split
 ·exact hx
 ·exact h j
theorem aNb (L:List Pkt)(x:Pkt)(k:Int):gQ (L++[x]) k=if x.lane=k then gQ L k++[x] else gQ L k:=by
 unfold gQ;rw[List.filter_append];by_cases h:x.lane=k<;>simp[h]
theorem aBw {L:List Pkt}{k:Int}{x:Pkt}(h:x∈sZ L k):x∈L:=List.mem_of_mem_eraseP h
theorem Iz (L:List Pkt)(k j:Int):gQ (sZ L k) j=if j=k then(gQ L k).tail else gQ L j:=by
 induction L with
 |nil=>simp[gQ,sZ]
 |cons x L ih=>
  unfold gQ sZ at*;by_cases hx:x.lane=k
  ·subst hx
   rw[List.eraseP_cons_of_pos (by simp)]
   by_cases hj:j=x.lane
   ·rw[if_pos hj,hj]
    simp
   ·rw[if_neg hj,List.filter_cons_of_neg (by simp;omega)]
  ·rw[List.eraseP_cons_of_neg (by simp[hx])]
   by_cases hj:j=k
   ·subst hj
    rw[if_pos rfl,List.filter_cons_of_neg (by simp[hx]),List.filter_cons_of_neg (by simp[hx]),ih,if_pos rfl]
   ·rw[if_neg hj] at ih⊢
    rw[List.filter_cons,List.filter_cons,ih]
theorem aM6 {L:List (gO×Pkt)}{w:gO}{e:gO×Pkt}(h:e∈pY L w):e∈L:=List.mem_of_mem_eraseP h
theorem aM5 (L:List (gO×Pkt))(w:gO):(pY L w).length<=L.length:=(List.eraseP_sublist).length_le
theorem aBy {c:Cfg}{L:List (gO×Pkt)}{w:gO}{x:Pkt}{e:gO×Pkt}(h:e∈vD c L w x):e∈L∨e.2=x:=by
 unfold vD at h
 split at h
 ·rcases List.mem_append.mp h with h|h
  ·exact .inl h
  ·simp at h
   exact .inr (by rw[h])
 ·exact .inl h
theorem aBx {c:Cfg}{L:List (gO×Pkt)}{w:gO}{x:Pkt}(h:L.length<=c.aK*c.lanes*c.room):(vD c L w x).length<=c.aK*c.lanes*c.room:=by
 unfold vD;split
 ·rename_i hc
  simp;omega
 ·exact h
theorem aM7 {L:List (gO×Pkt)}{w:gO}{x:Pkt}(h:x∈pZ L w): ∃e∈L,e.2=x/\e.1=w:=by
 unfold pZ at h;obtain⟨e,h1,h2⟩:=aSx.mp h;obtain⟨h3,h4⟩:=List.mem_filter.mp h1
 exact⟨e,h3,h2,by simpa using h4⟩
section
variable {c : Cfg} {t : Nat} {s : NS}
theorem NInv.aMW (hc:c.ok):NInv c 0 (NS.mY c) where
 snd:=λi k=>⟨by simp[NS.mY],by have:=hc.room;simp[NS.mY];omega,by have:=hc.start;simp[NS.mY];omega⟩
 rcv:=λi k=>⟨by simp[NS.mY],by have:=hc.start;simp[NS.mY];omega⟩
 hG:=aRZ _
 ticks:=aRZ _
 hL:=λx hx=>by simp[NS.mY] at hx
 hQ:=λk=>by simp[NS.mY,gQ]
 rL:=λx hx=>by simp[NS.mY] at hx
 rN:=by simp[NS.mY]
 gl:=by simp[NS.mY]
 al:=by simp[NS.mY]
 g:=λx hx=>by
  simp[NS.mY] at hx;unfold Cfg.aK;omega
 a:=λx hx=>by
  simp[NS.mY] at hx;unfold Cfg.aK;omega
 whl:=λi=>⟨hc.wlen,λy hy=>by have:=hc.wts y hy;omega,by have:=hc.lanes;simp[NS.mY];omega⟩
theorem NInv.aMX (h:NInv c t s){x:Pkt}(hx:0<=x.lane/\x.lane<c.lanes->PkN c x):NInv c t (s9 c x s).2:=by
 unfold Go.Abs.s9;split
 ·exact h
 ·rename_i hl
  split
  ·exact h
  ·rename_i hq
   have hl':0<=x.lane/\x.lane<c.lanes:=U
   refine {h with hL:=λy hy=> ?_,hQ:=λk=> ?_}
   ·rcases List.mem_append.mp hy with hy|hy
    ·exact h.hL y hy
    ·simp at hy
     rw[hy];exact hx hl'
   ·rw[aNb]
    split
    ·rename_i he
     subst he;have:=h.hQ x.lane;simp;omega
    ·exact h.hQ k
theorem NInv.aMV (hc:c.ok)(h:NInv c t s){x:Pkt}(hb:0<=x.body/\x.body<4294967296):NInv c t (tX c x s).2:=by
 unfold Go.Abs.tX;split
 ·exact h
 ·rename_i hn
  refine h.aMX λhl=>⟨?_,?_,hl,hb⟩
  ·have:=hc.me
   omega
  ·omega
theorem NInv.aMT (hc:c.ok)(h:NInv c t s)(i:Nat)(f:Frm)(hl:f.lane<c.lanes)(hb:f.body<4294967296):NInv c (t+1) (sY c i f s).2:=by
 unfold sY;split
 ·exact h.tA U
 ·rename_i hm
  have hm2:=h.tA (t':=t+1) U
  have hr:=(h.rcv i f.lane).aBv hc.room.2 f.seq;split
  ·rename_i r he
   rw[he] at hr;refine {hm2 with rcv:=Bq hm2.rcv hr,rL:=λe he=> ?_,rN:=aBx h.rN}
   rcases aBy he with he|he
   ·exact h.rL e he
   ·rw[he]
    exact⟨⟨by simp only;omega,by simp only;omega⟩,⟨by simp only;omega,by simp only;omega⟩,⟨by simp only;omega,by simp only;omega⟩,⟨by simp only;omega,by simp only;omega⟩⟩
  ·exact hm2
theorem NInv.aBt (hc:c.ok)(h:NInv c t s)(k:Nat):NInv c t (nS c s k):=by
 unfold Go.Abs.nS;split
 ·exact h
 ·split
  ·exact h
  ·rename_i x xs hx
   have hxm:x∈s.hL:=by
    have:x∈gQ s.hL k:=by rw[hx];exact aR3 ..
    exact(List.mem_filter.mp this).1
   refine {h with hL:=λy hy=>h.hL y (aBw hy),hQ:=λj=> ?_,rL:=λe he=> ?_,rN:=aBx h.rN}
   ·rw[Iz]
    split
    ·have:=h.hQ k
     simp;omega
    ·exact h.hQ j
   ·rcases aBy he with he|he
    ·exact h.rL e he
    ·rw[he]
     exact h.hL x hxm
theorem NInv.aBu (hc:c.ok): ∀(l:List Nat){s:NS},NInv c t s->NInv c t (l.foldl (Go.Abs.nS c) s)
 |[],_,h=>h
 |k::l,_,h=>by
  rw[List.foldl_cons];exact NInv.aBu hc l (h.aBt hc k)
theorem NInv.aMU (hc:c.ok)(h:NInv c t s):NInv c t (lD c s):=NInv.aBu hc _ h
theorem aNa (hc:c.ok){w:Whl}(hw:WhlI c.lanes w)(may:Nat->Bool):WhlI c.lanes (lV c.weights w may).2:=by
 unfold lV;split
 ·rename_i ha
  split
  ·rename_i i hi
   have hfull:(mV c.weights w may).length=c.lanes/\ ∀y∈mV c.weights w may,0<=y/\y<=5:=by
    unfold mV;split
    ·exact⟨hw.len,hw.wt⟩
    ·exact⟨hc.wlen,λy hy=>by have:=hc.wts y hy;omega⟩
   have hp:=w7 hi;unfold nZ at hp;rw[aR2,decide_eq_true_eq] at hp;refine⟨by simp[hfull.1],λy hy=> ?_,?_⟩
   ·rcases List.mem_or_eq_of_mem_set hy with hy|hy
    ·exact hfull.2 y hy
    ·have hi2:i<(mV c.weights w may).length:=by rw[hfull.1,<-hc.wlen];exact hp.1
     have:=hfull.2 _ (List.getElem_mem hi2);have e:(mV c.weights w may).getD i 0=(mV c.weights w may)[i]:=by rw[aRY,aRW hi2,aSn]
     rw[e] at hp hy;omega
   ·simp only
    rw[hc.wlen];exact Nat.mod_lt _ (by have:=hc.lanes;omega)
  ·exact hw
 ·exact hw
theorem aM9 {c:Cfg}{w:Whl}{may:Nat->Bool}{k:Nat}{w':Whl}(h:lV c.weights w may=(some k,w')):k<c.weights.length/\may k=true:=by
 unfold lV at h
 split at h
 ·split at h
  ·rename_i i hi
   cases h;have:=w7 hi;unfold nZ at this;rw[aR2] at this
   exact⟨this.1,this.2.1⟩
  ·cases h
 ·cases h
theorem aM2 {gr:Nat->Option Nat}{n:Nat}{first:Bool}{s:Mat}(i:Nat)(hn:0<n)(hm: ∀x∈s.m,x= -1∨0<=x/\x<(n:Int))(hg: ∀x∈s.g,x<n)(ha: ∀x∈s.a,x<n):
  (∀x∈(acc gr n first s i).m,x= -1∨0<=x/\x<(n:Int))/\(∀x∈(acc gr n first s i).g,x<n)/\(∀x∈(acc gr n first s i).a,x<n):=by
 unfold acc;split
 ·split
  ·exact⟨hm,hg,ha⟩
  ·rename_i k hk
   have:=(w7 hk).1;refine⟨λx hx=> ?_,λx hx=> ?_,λx hx=> ?_⟩
   ·rcases List.mem_or_eq_of_mem_set hx with hx|hx
    ·exact hm x hx
    ·right
     omega
   ·dsimp only at hx
    split at hx
    ·rcases List.mem_or_eq_of_mem_set hx with hx|hx
     ·exact hg x hx
     ·rw[hx]
      exact Nat.mod_lt _ hn
    ·exact hg x hx
   ·dsimp only at hx
    split at hx
    ·rcases List.mem_or_eq_of_mem_set hx with hx|hx
     ·exact ha x hx
     ·rw[hx]
      exact Nat.mod_lt _ hn
    ·exact ha x hx
 ·exact⟨hm,hg,ha⟩
structure MatI (n:Nat)(s:Mat):Prop where
 ml:s.m.length=n
 gl:s.g.length=n
 al:s.a.length=n
 m: ∀x∈s.m,x= -1∨0<=x/\x<(n:Int)
 g: ∀x∈s.g,x<n
 a: ∀x∈s.a,x<n
theorem MatI.acc {gr:Nat->Option Nat}{n:Nat}{first:Bool}{s:Mat}(h:MatI n s)(hn:0<n)(i:Nat):MatI n (acc gr n first s i):=by
 obtain⟨h1,h2,h3⟩:=aHc gr n first s i
 obtain⟨h4,h5,h6⟩:=aM2 (gr:=gr) (first:=first) i hn h.m h.g h.a
 exact⟨h1.trans h.ml,h2.trans h.gl,h3.trans h.al,h4,h5,h6⟩
theorem MatI.Rb {gr:Nat->Option Nat}{n:Nat}{first:Bool}(hn:0<n): ∀(l:List Nat){s:Mat},MatI n s->MatI n (l.foldl (Go.Abs.acc gr n first) s)
 |[],_,h=>h
 |i::l,_,h=>by
  rw[List.foldl_cons];exact MatI.Rb hn l (h.acc hn i)
theorem MatI.rnd {req:Nat->Nat->Bool}{n:Nat}{first:Bool}{s:Mat}(h:MatI n s)(hn:0<n):MatI n (rnd req n first s):=MatI.Rb hn _ h
theorem MatI.aBr {req:Nat->Nat->Bool}{n:Nat}(hn:0<n): ∀(k:Nat){s:Mat},MatI n s->MatI n (vX req n k s)
 |0,_,h=>h
 |k+1,_,h=>MatI.aBr hn k (h.rnd hn)
theorem MatI.aBs {n:Nat}{g a:List Nat}(hg:g.length=n)(ha:a.length=n)(h1: ∀x∈g,x<n)(h2: ∀x∈a,x<n):MatI n ⟨List.replicate n (-1),g,a⟩:=
 ⟨by simp,hg,ha,λx hx=>by simp at hx;exact .inl hx.2,h1,h2⟩
theorem MatI.aBq {req:Nat->Nat->Bool}{n rounds:Nat}{g a:List Nat}(hn:0<n)(hg:g.length=n)(ha:a.length=n)(h1: ∀x∈g,x<n)(h2: ∀x∈a,x<n):MatI n (oV req n rounds g a):=
 MatI.aBr hn _ ((MatI.aBs hg ha h1 h2).rnd hn)
end
end Go.Abs
noncomputable section
namespace Go.Proofs.YtkeilicinggjmaaGreatDoor
open Go.Proofs.Tryz
open Go.Abs Go.Abs.M
variable (O:aH)(L:LV)(k:KV)(N P Q R S T U V W X Y Z a b c d e f g i j l m n o p q r s t u v w x y z A B C D E F G H I J zz zy zx zw zv zu zt zs zr zq zp zo zn zm zl zk zj zi zh zg zf ze zd zc zb za yz yy yx yw yv yu yt ys yr yq yp yo yn ym yl yk yj yi yh yg yf ye yd yc yb ya xz xy xx xw xv xu xt xs xr xq xp xo xn xm xl xk xj xi xh xg xf xe xd xc xb xa wz wy wx ww wv wu wt ws wr wq wp wo wn wm wl wk wj wi wh wg wf we wd wc wb wa vz:Value)(h:aF)
theorem aNe:bT prog O L 41 [N,P,Q] h=ob (O (.func 84) [Q] h) λaa h=>ob (aG (bin prog .eql 177 aa (.pointer none)) h) λab h=>ob (gd ab false (cI N) h) λac h=>ob (gd ab false (aG (bin prog .lss 3 ac (.I 1))) h) λad h=>ob (aG (cQ ab (.bool true) ad) h) λae h=>ob (gd ae false (cI N) h) λaf h=>ob (gd ae false (aG (bin prog .gtr 3 af (.I 16))) h) λag h=>ob (aG (cQ ae (.bool true) ag) h) λah h=>ob (gd ah false (cI P) h) λai h=>ob (gd ah false (aG (bin prog .lss 3 ai (.I 1))) h) λaj h=>ob (aG (cQ ah (.bool true) aj) h) λak h=>ob (gd ak false (cI P) h) λal h=>ob (gd ak false (aG (bin prog .gtr 3 al (.I 3))) h) λam h=>ob (aG (cQ ak (.bool true) am) h) λan h=>aO an (some (aL [(.pointer none)],h)) (ob (qH h) λao h=>ob (aG (bld prog 181 [(0,aa),(1,ao),(2,N),(3,P)]) h) λap h=>ob (cX 181 (Value.cells ap).toList .fix h) λaq h=>some (aL [aq],h)):=by kernel_rfl
theorem aNh:bT prog O L 96 [N,P,Q,R] h=ob (aG (aP N) h) λaa h=>ob (aG (aJ 1 aa) h) λab h=>ob (ld1 ab h) λac h=>ob (aG (bld prog 256 [(0,P),(1,Q),(2,R)]) h) λad h=>ob (nN (.str [true,true,true]) (.slice none 0 0) false ac ad h) λae h=>ob (aG (aZ ae) h) λaf h=>some (aL [af],h):=by kernel_rfl
def Rh:Code:=bR [1,1,1,0,1,0,0] (cG prog 84)
def Ri:KV:=(dY 0 (eK prog O L (bR [1,1,1,1] (cG prog 84)) (eX prog Tryz.f84)))
theorem aNf:Ri O L (.exit 0) [a,b,c,d,e,f,g,i,j,l,m,n,o,p,q,r,s,t,u,v,w,x,y,z,A,B,C,D,E,F,G,H,I,J,zz,zy,zx,zw,zv,zu,zt,zs,zr] h=ob (aG (aP d) h) λaa h=>ob (aG (aJ 0 aa) h) λab h=>ob (ld1 ab h) λac h=>ob (aG (bin prog .sub 3 a (.I 1)) h) λad h=>ob (aG (aT 2 ac ad) h) λae h=>ob (aG (aJ 1 ae) h) λaf h=>ob (stN 1 af (.I (-1)) h) λag h=>some (aL [d],h):=by kernel_rfl
theorem aBD:aN prog O L Rh k [a,b,c,d,e,f,g,i,j,l,m,n,o,p,q,r,s,t,u,v,w,x,y,z,A,B,C,D,E,F,G,H,I,J,zz,zy,zx,zw,zv,zu,zt,zs,zr] h=ob (aG (bin prog .lss 3 x w) h) λaa h=>aO aa (ob (aG (aP d) h) λab h=>ob (aG (aJ 0 ab) h) λac h=>ob (ld1 ac h) λad h=>ob (aG (bin prog .add 3 x (.I 1)) h) λae h=>ob (aG (aT 2 ad x) h) λaf h=>ob (aG (aJ 1 af) h) λag h=>ob (stN 1 ag ae h) λah h=>ob (aG (bin prog .add 3 x (.I 1)) h) λai h=>k .normal [a,b,c,d,x,f,g,i,j,l,m,n,o,p,q,r,s,t,u,v,w,ai,aa,x,d,ab,ac,ad,x,x,ae,af,ag,ai,zz,zy,zx,zw,zv,zu,zt,zs,zr] h) (k (.exit 0) [a,b,c,d,e,f,g,i,j,l,m,n,o,p,q,r,s,t,u,v,w,x,aa,z,A,B,C,D,E,F,G,H,I,J,zz,zy,zx,zw,zv,zu,zt,zs,zr] h):=by kernel_rfl
theorem aNg:bT prog O L 84 [N] h=ob (aG (bin prog .lss 3 N (.I 1)) h) λaa h=>ob (gd aa false (cI N) h) λab h=>ob (gd aa false (aG (bin prog .gtr 3 ab (.I 200))) h) λac h=>ob (aG (cQ aa (.bool true) ac) h) λad h=>aO ad (some (aL [(.pointer none)],h)) (ob (lR 247 2 16 [(.pointer none),(.I 0)] N N h) λae h=>ob (aG (bld prog 244 [(0,ae),(2,N)]) h) λaf h=>ob (cX 244 (Value.cells af).toList .fix h) λag h=>ob (aG (aP ag) h) λah h=>ob (aG (aJ 0 ah) h) λai h=>ob (ld1 ai h) λaj h=>ob (aG (aZ aj) h) λak h=>L (aN prog O L Rh) (Ri O L) [N,undef,(.pointer none),ag,undef,N,aa,aa,ab,ac,ad,N,ae,N,af,ag,ag,ah,ai,aj,ak,(.I 0),undef,undef,undef,undef,undef,undef,undef,undef,undef,undef,undef,undef,undef,undef,undef,undef,undef,undef,undef,undef,undef] h):=by kernel_rfl
theorem Rj:bT prog O L 98 [N,P,Q,R,S] h=ob (cX 54 (Value.cells S).toList .fix h) λaa h=>ob (aG (bld prog 256 [(0,P),(1,Q),(2,R)]) h) λab h=>ob (cX 256 [(.I 0),(.I 0),(.I 0)] .fix h) λac h=>ob (stN 3 ac ab h) λad h=>ob (ldN 3 ac h) λae h=>ob (O (.func 142) [N,ae] h) λaf h=>ob (aG (un prog .not af) h) λag h=>aO ag (some (aL [(.bool false)],h)) (ob (aG (aP N) h) λah h=>ob (aG (aJ 0 ah) h) λai h=>ob (ld1 ai h) λaj h=>ifB (true) (ob (ldN 4 aa h) λak h=>ifB (true) (ob (O (.func 143) [aj,ak] h) λal h=>ifB (true) (ob (aG (ext 0 al) h) λam h=>ob (aG (ext 1 al) h) λan h=>aO an (ob (aG (aP N) h) λao h=>ob (aG (aJ 1 ao) h) λap h=>ob (ld1 ap h) λaq h=>ifB (true) (ob (ldN 3 ac h) λar h=>ifB (true) (ob (dT 3 1 1 [(.I 0)] [(0,am)] h) λau h=>ob (tO (.str [true,true,true]) (.slice none 0 0) aq ar h) λav h=>ifB (true) (ob (aG (ext 0 av) h) λaw h=>ob (app 3 1 8 aw au h) λax h=>ifB (true) (ob (aG (ext 1 av) h) λay h=>ob (tL aq ay ax h) λaz h=>ifB (true) (some (aL [an],h))))))) (some (aL [an],h)))))):=by kernel_rfl
theorem Rf:bT prog O L 106 [N,P,Q,R] h=ob (cX 54 [(.I 0),(.I 0),(.I 0),(.int .u32 0)] .fix h) λaa h=>ob (O (.func 151) [N,P,Q,R] h) λab h=>ob (aG (ext 0 ab) h) λac h=>ob (aG (ext 1 ab) h) λad h=>ob (cX 54 [(.I 0),(.I 0),(.I 0),(.int .u32 0)] .fix h) λae h=>ob (stN 4 ae ac h) λaf h=>aO ad (ob (aG (bld prog 256 [(0,P),(1,Q),(2,R)]) h) λag h=>ob (cX 256 [(.I 0),(.I 0),(.I 0)] .fix h) λah h=>ob (stN 3 ah ag h) λai h=>ob (aG (aP N) h) λaj h=>ob (aG (aJ 0 aj) h) λak h=>ob (ld1 ak h) λal h=>ifB (true) (ob (aG (aP N) h) λam h=>ob (aG (aJ 1 am) h) λan h=>ob (ld1 an h) λao h=>ifB (true) (ob (ldN 3 ah h) λap h=>ifB (true) (ob (nN (.str [true,true,true]) (.slice none 0 0) false ao ap h) λaq h=>ifB (true) (ob (aG (aT 1 aq (.I 0)) h) λar h=>ob (ld1 ar h) λau h=>ifB (true) (ob (O (.func 152) [al,au] h) λav h=>ifB (true) (ob (aG (aP N) h) λaw h=>ob (aG (aJ 1 aw) h) λax h=>ob (ld1 ax h) λay h=>ifB (true) (ob (ldN 3 ah h) λaz h=>ifB (true) (ob (aG (aP N) h) λba h=>ob (aG (aJ 1 ba) h) λbb h=>ob (ld1 bb h) λbc h=>ifB (true) (ob (ldN 3 ah h) λbd h=>ifB (true) (ob (nN (.str [true,true,true]) (.slice none 0 0) false bc bd h) λbe h=>ifB (true) (ob (slc prog 1 be (some (.I 1)) none none h) λbf h=>ifB (true) (ob (qW (.str [true,true,true]) ay az bf h) λbg h=>ifB (true) (ob (aG (aP N) h) λbh h=>ob (aG (aJ 1 bh) h) λbi h=>ob (ld1 bi h) λbj h=>ifB (true) (ob (ldN 3 ah h) λbk h=>ifB (true) (ob (nN (.str [true,true,true]) (.slice none 0 0) false bj bk h) λbl h=>ifB (true) (ob (aG (aZ bl) h) λbm h=>ob (aG (bin prog .eql 3 bm (.I 0)) h) λbn h=>aO bn (ob (aG (aP N) h) λbo h=>ob (aG (aJ 1 bo) h) λbp h=>ob (ld1 bp h) λbq h=>ifB (true) (ob (ldN 3 ah h) λbr h=>ifB (true) (ob (uG (.str [true,true,true]) bq br h) λbs h=>ifB (true) (ob (ldN 4 ae h) λbt h=>ob (stN 4 aa bt h) λbu h=>ob (ldN 4 aa h) λw45 _=>some (aL [w45,ad],h))))) (ob (ldN 4 ae h) λbv h=>ob (stN 4 aa bv h) λbw h=>ob (ldN 4 aa h) λw48 _=>some (aL [w48,ad],h))))))))))))))))))) (ob (ldN 4 ae h) λbx h=>ob (stN 4 aa bx h) λbz h=>ob (ldN 4 aa h) λw51 _=>some (aL [w51,ad],h)):=by kernel_rfl
theorem aBB:bT prog O L 180 [N,P] h=ob (cX 54 [(.I 0),(.I 0),(.I 0),(.int .u32 0)] .fix h) λaa h=>ob (O (.func 181) [N,P] h) λab h=>ob (aG (bin prog .neq 286 ab (.pointer none)) h) λac h=>aO ac (ob (aG (aP ab) h) λad h=>ob (aG (aJ 0 ad) h) λae h=>ob (ld1 ae h) λaf h=>ob (aG (aP af) h) λag h=>ob (ldN 4 ag h) λah h=>ob (stN 4 aa ah h) λai h=>ob (ldN 4 aa h) λw9 _=>some (aL [w9,(.bool true)],h)) (ob (aG (bld prog 54 []) h) λaj h=>ob (stN 4 aa aj h) λak h=>ob (ldN 4 aa h) λw12 _=>some (aL [w12,(.bool false)],h)):=by kernel_rfl
theorem aNc:bT prog O L 142 [N,P] h=ob (cX 256 (Value.cells P).toList .fix h) λaa h=>ob (aG (aJ 0 aa) h) λab h=>ob (ld1 ab h) λac h=>ifB (true) (ob (aG (aJ 1 aa) h) λad h=>ob (ld1 ad h) λae h=>ifB (true) (ob (aG (aJ 2 aa) h) λaf h=>ob (ld1 af h) λag h=>ifB (true) (ob (aG (nC prog false [ac,ae,ag]) h) λah h=>ob (aG (bin prog .geq 3 ah (.I 0)) h) λai h=>ob (gd ai true (aG (aJ 0 aa)) h) λaj h=>ob (gd ai true (ld1 aj) h) λak h=>ifB (true) (ob (gd ai true (aG (aJ 1 aa)) h) λal h=>ob (gd ai true (ld1 al) h) λam h=>ifB (true) (ob (gd ai true (aG (nC prog true [ak,am])) h) λan h=>ob (gd ai true (cI N) h) λao h=>ob (gd ai true (aG (aP ao)) h) λap h=>ob (gd ai true (aG (aJ 2 ap)) h) λaq h=>ob (gd ai true (ld1 aq) h) λar h=>ifB (true) (ob (gd ai true (aG (bin prog .lss 3 an ar)) h) λau h=>ob (aG (cQ ai au (.bool false)) h) λav h=>ob (gd av true (aG (aJ 2 aa)) h) λaw h=>ob (gd av true (ld1 aw) h) λax h=>ifB (true) (ob (gd av true (cI N) h) λay h=>ob (gd av true (aG (aP ay)) h) λaz h=>ob (gd av true (aG (aJ 3 az)) h) λba h=>ob (gd av true (ld1 ba) h) λbb h=>ifB (true) (ob (gd av true (aG (bin prog .lss 3 ax bb)) h) λbc h=>ob (aG (cQ av bc (.bool false)) h) λbd h=>some (aL [bd],h))))))))):=by kernel_rfl
theorem aBz:bT prog O L 143 [N,P] h=ob (cX 54 (Value.cells P).toList .fix h) λaa h=>ob (aG (aP N) h) λab h=>ob (aG (aJ 1 ab) h) λac h=>ob (ld1 ac h) λad h=>ob (aG (bin prog .eql 3 ad (.I (-1))) h) λae h=>aO ae (some (aL [(.I 0),(.bool false)],h)) (ob (aG (aP N) h) λaf h=>ob (aG (aJ 0 af) h) λag h=>ob (ld1 ag h) λah h=>ob (aG (aT 2 ah ad) h) λai h=>ob (aG (aP ai) h) λaj h=>ob (aG (aJ 1 aj) h) λak h=>ob (ld1 ak h) λal h=>ob (aG (aP ai) h) λam h=>ob (aG (aJ 0 am) h) λan h=>ob (stN 1 an aa h) λao h=>ob (aG (aP N) h) λap h=>ob (aG (aJ 1 ap) h) λaq h=>ob (stN 1 aq al h) λar h=>ob (aG (aP N) h) λau h=>ob (aG (aJ 2 au) h) λav h=>ob (ld1 av h) λaw h=>ob (aG (bin prog .sub 3 aw (.I 1)) h) λax h=>ob (aG (aP N) h) λay h=>ob (aG (aJ 2 ay) h) λaz h=>ob (stN 1 az ax h) λba h=>some (aL [ad,(.bool true)],h)):=by kernel_rfl
theorem aBA:bT prog O L 151 [N,P,Q,R] h=ob (cX 54 [(.I 0),(.I 0),(.I 0),(.int .u32 0)] .fix h) λaa h=>ob (aG (aP N) h) λab h=>ob (aG (aJ 1 ab) h) λac h=>ob (ld1 ac h) λad h=>ob (aG (bld prog 256 [(0,P),(1,Q),(2,R)]) h) λae h=>ob (nN (.str [true,true,true]) (.slice none 0 0) false ad ae h) λaf h=>ob (aG (aZ af) h) λag h=>ob (aG (bin prog .eql 3 ag (.I 0)) h) λah h=>aO ah (ob (aG (bld prog 54 []) h) λai h=>ob (stN 4 aa ai h) λaj h=>ob (ldN 4 aa h) λw10 _=>some (aL [w10,(.bool false)],h)) (ob (aG (aP N) h) λak h=>ob (aG (aJ 0 ak) h) λal h=>ob (ld1 al h) λam h=>ifB (true) (ob (aG (aT 1 af (.I 0)) h) λan h=>ob (ld1 an h) λao h=>ifB (true) (ob (O (.func 180) [am,ao] h) λap h=>ifB (true) (ob (aG (ext 0 ap) h) λaq h=>ob (aG (ext 1 ap) h) λar h=>ob (stN 4 aa aq h) λau h=>ifB (true) (ob (ldN 4 aa h) λw20 _=>some (aL [w20,ar],h)))))):=by kernel_rfl
theorem aNd:bT prog O L 152 [N,P] h=ob (O (.func 181) [N,P] h) λaa h=>ob (aG (bin prog .eql 286 aa (.pointer none)) h) λab h=>aO ab (some (aL [(.bool false)],h)) (ob (aG (aP N) h) λac h=>ob (aG (aJ 1 ac) h) λad h=>ob (ld1 ad h) λae h=>ob (aG (aP aa) h) λaf h=>ob (aG (aJ 0 af) h) λag h=>ob (stN 1 ag (.pointer none) h) λah h=>ob (aG (aP aa) h) λai h=>ob (aG (aJ 1 ai) h) λaj h=>ob (stN 1 aj ae h) λak h=>ob (aG (aP N) h) λal h=>ob (aG (aJ 1 al) h) λam h=>ob (stN 1 am P h) λan h=>ob (aG (aP N) h) λao h=>ob (aG (aJ 2 ao) h) λap h=>ob (ld1 ap h) λaq h=>ob (aG (bin prog .add 3 aq (.I 1)) h) λar h=>ob (aG (aP N) h) λau h=>ob (aG (aJ 2 au) h) λav h=>ob (stN 1 av ar h) λaw h=>some (aL [(.bool true)],h)):=by kernel_rfl
theorem aBC:bT prog O L 181 [N,P] h=ob (aG (bin prog .lss 3 P (.I 0)) h) λaa h=>ob (gd aa false (cI P) h) λab h=>ob (gd aa false (cI N) h) λac h=>ob (gd aa false (aG (aP ac)) h) λad h=>ob (gd aa false (aG (aJ 0 ad)) h) λae h=>ob (gd aa false (ld1 ae) h) λaf h=>ob (gd aa false (aG (aZ af)) h) λag h=>ob (gd aa false (aG (bin prog .geq 3 ab ag)) h) λah h=>ob (aG (cQ aa (.bool true) ah) h) λai h=>ob (gd ai false (cI N) h) λaj h=>ob (gd ai false (aG (aP aj)) h) λak h=>ob (gd ai false (aG (aJ 0 ak)) h) λal h=>ob (gd ai false (ld1 al) h) λam h=>ob (gd ai false (cI P) h) λan h=>ob (gd ai false (aG (aT 2 am an)) h) λao h=>ob (gd ai false (aG (aJ 0 ao)) h) λap h=>ob (gd ai false (ld1 ap) h) λaq h=>ob (gd ai false (aG (bin prog .eql 245 aq (.pointer none))) h) λar h=>ob (aG (cQ ai (.bool true) ar) h) λau h=>aO au (some (aL [(.pointer none)],h)) (ob (aG (aP N) h) λav h=>ob (aG (aJ 0 av) h) λaw h=>ob (ld1 aw h) λax h=>ob (aG (aT 2 ax P) h) λay h=>some (aL [ay],h)):=by kernel_rfl
end Go.Proofs.YtkeilicinggjmaaGreatDoor
end
namespace Go.Proofs.YtkeilicinggjmaaGreatDoor.Rg
open Go.Proofs.Tryz
open Go.Abs Go.Abs.M
theorem n73 (a:Addr):bin prog .neq 286 (.pointer (some a)) (.pointer none)=some (.bool true):=aFL 286 247 (by kernel_rfl) a
theorem aNr:bin prog .neq 286 (.pointer none) (.pointer none)=some (.bool false):=aFM 286 247 (by kernel_rfl)
theorem e73 (a:Addr):bin prog .eql 286 (.pointer (some a)) (.pointer none)=some (.bool false):=Fq 286 247 (by kernel_rfl) a
theorem e70 (a:Addr):bin prog .eql 245 (.pointer (some a)) (.pointer none)=some (.bool false):=Fq 245 54 (by kernel_rfl) a
theorem aNk:bin prog .eql 245 (.pointer none) (.pointer none)=some (.bool true):=Vz 245 54 (by kernel_rfl)
theorem e22 (a:Addr):bin prog .eql 177 (.pointer (some a)) (.pointer none)=some (.bool false):=Fq 177 244 (by kernel_rfl) a
def pkB (x:Pkt):Blk:= .cells x.oD 54 .fix
abbrev kS:=Option (Nat×Pkt)×Int
def zR (x:Option (Nat×Pkt)):Value:= .pointer (x.map λb=>⟨b.1,0,none⟩)
def tZ (x:kS):List Value:=[zR x.1,.I x.2]
def oH (l:List kS):Blk:= .cells (l.map tZ).flatten 247 .row
def qB (s n:Nat)(top free:Int):Blk:= .cells [.slice (some ⟨s,0,none⟩) n n,.int .i64 top,.int .i64 free] 244 .fix
structure IsPool (H:aF)(p s:Nat)(l:List kS)(top free:Int):Prop where
 hp:H[p]? =some (qB s l.length top free)
 hs:H[s]? =some (oH l)
 hq: ∀(i q:Nat)(x:Pkt)(d:Int),l[i]? =some (some (q,x),d)->H[q]? =some (pkB x)
theorem I3 (l:List kS): ∀r∈l.map tZ,r.length=2:=by
 intro r hr;simp only[aSx] at hr;obtain⟨x,_,rfl⟩:=hr;rfl
theorem aBK (l:List kS):(l.map tZ).flatten.length=l.length*2:=by
 rw[uP _ (I3 l)];simp
theorem aBL (l:List kS)(i j:Nat)(v:Value)(x y:kS)(hi:l[i]? =some x)(hj:j<2)(hv:(tZ x).set j v=tZ y):(l.map tZ).flatten.set (i*2+j) v=((l.set i y).map tZ).flatten:=by
 have:=Lg (l.map tZ) (I3 l) i j [v] (tZ x) (by simp[hi]) (by simp;omega)
 simp only[eT] at this;rw[this,hv,List.map_set]
variable {pr : iA} {H : aF} {p s : Nat} {l : List kS} {top free : Int}
@[simp] theorem aRT (i:Nat):ldC (some (oH l)) (i*2) H=yS ((l[i]?).map λx=>zR x.1) H:=by
 have:=Ft _ (I3 l) i 0 aC
 simp only[Nat.add_zero] at this;unfold oH;rw[uN,this,aR7];cases l[i]? <;>rfl
@[simp] theorem aNp (i:Nat):ldC (some (oH l)) (i*2+1) H=yS ((l[i]?).map λx=> .I x.2) H:=by
 have:=Ft _ (I3 l) i 1 aC
 unfold oH;rw[uN,this,aR7];cases l[i]? <;>rfl
theorem aBP (b i:Nat)(a:Option Addr)(x:kS)(q:Option (Nat×Pkt))(hi:l[i]? =some x)(hq: .pointer a=zR q):stC (some (oH l)) b (i*2) [.pointer a] H=some (undef,H.set b (oH (l.set i (q,x.2)))):=by
 have hl:i<l.length:=(aRU.mp hi).1;unfold oH;rw[Lj _ _ _ _ _ rfl (by rw[aBK];simp;omega)]
 have:=aBL l i 0 (.pointer a) x (q,x.2) hi aC (by rw[hq];rfl)
 simp only[eT];rw[<-this,Nat.add_zero]
theorem Ro (b i:Nat)(d:Int)(x:kS)(hi:l[i]? =some x):stC (some (oH l)) b (i*2+1) [.I d] H=some (undef,H.set b (oH (l.set i (x.1,d)))):=by
 have hl:i<l.length:=(aRU.mp hi).1;unfold oH;rw[Lj _ _ _ _ _ rfl (by rw[aBK];simp;omega)]
 have:=aBL l i 1 (.I d) x (x.1,d) hi aC (by rfl)
 simp only[eT];rw[<-this]
@[simp] theorem I1 (n:Nat):ldC (some (qB s n top free)) 0 H=some (.slice (some ⟨s,0,none⟩) n n,H):=rfl
@[simp] theorem aBH (n:Nat):ldC (some (qB s n top free)) 1 H=some (.I top,H):=rfl
@[simp] theorem aBI (n:Nat):ldC (some (qB s n top free)) 2 H=some (.I free,H):=rfl
@[simp] theorem aBN (b n:Nat)(d:Int):stC (some (qB s n top free)) b 1 [.I d] H=some (undef,H.set b (qB s n d free)):=rfl
@[simp] theorem aBO (b n:Nat)(d:Int):stC (some (qB s n top free)) b 2 [.I d] H=some (undef,H.set b (qB s n top d)):=rfl
@[simp] theorem aNo (x:Pkt):Fp (some (pkB x)) 4 0 H=some (x.dN,H):=rfl
theorem I4 (b:Nat)(y:Pkt):stN 4 (.Q b 0) y.dN H=stC H[b]? b 0 y.oD H:=mA 4 b 0 _ rfl
@[simp] theorem aBM (b:Nat)(x y:Pkt):stC (some (pkB x)) b 0 y.oD H=some (undef,H.set b (pkB y)):=rfl
theorem zQ:Blk.cells [.int .i64 0,.int .i64 0,.int .i64 0,.int .u32 0] 54 .fix=pkB pk0:=rfl
theorem aBJ:bld prog 54 []=some pk0.dN:=by kernel_rfl
theorem Rn (H:aF)(a b:Blk):(H++[a]).set H.length b=H++[b]:=by simp
theorem aNi (hn:pr (.func 181)=none)(h:IsPool H p s l top free){m:Nat}(hm:0<m)(i:Int)(hi:i<0∨(l.length:Int)<=i∨ ∃d,l[i.toNat]? =some (none,d)):
  lvl prog pr m (.func 181) [.Q p 0,.I i] H=some (.pointer none,H):=by
 have hp:=h.hp;have hs:=h.hs;refine cS hn hm ?_;rw[aBC];by_cases h0:i<0
 ·simp -implicitDefEqProofs [h0]
 ·by_cases h1:(l.length:Int)<=i
  ·simp -implicitDefEqProofs [h0,h1,hp,hs]
  ·obtain⟨d,hd⟩: ∃d,l[i.toNat]? =some (none,d):=by
    rcases hi with hi|hi|hi
    ·exact absurd hi h0
    ·exact absurd hi h1
    ·exact hi
   simp -implicitDefEqProofs (disch:=first|omega|simp) [-getElem?_pos,h0,h1,hp,hs,hd,zR,aNk]
theorem aBF (hn:pr (.func 181)=none)(h:IsPool H p s l top free){m:Nat}(hm:0<m)(i:Nat)(q:Nat×Pkt)(d:Int)(hi:l[i]? =some (some q,d)):
  lvl prog pr m (.func 181) [.Q p 0,.I i] H=some (.Q s (i*2),H):=by
 have hp:=h.hp;have hs:=h.hs;have hl:i<l.length:=(aRU.mp hi).1;refine cS hn hm ?_;rw[aBC];have h0: ¬(i:Int)<0:=U
 have h1: ¬(l.length:Int)<=i:=U
 simp -implicitDefEqProofs (disch:=first|omega|simp) [-getElem?_pos,h0,h1,hp,hs,hi,zR,e70]
theorem IsPool.app (h:IsPool H p s l top free)(G:aF):IsPool (H++G) p s l top free:=by
 have up: ∀(b:Nat)(x:Blk),H[b]? =some x->(H++G)[b]? =some x:=λb x hb=>by
  rw[aRX (aRU.mp hb).1,hb]
 exact⟨up _ _ h.hp,up _ _ h.hs,λi q x d hi=>up _ _ (h.hq i q x d hi)⟩
theorem aRS (hn:pr (.func 181)=none)(hn':pr (.func 180)=none)(h:IsPool H p s l top free){m:Nat}(hm:1<m)(i:Int)(hi:i<0∨(l.length:Int)<=i∨ ∃d,l[i.toNat]? =some (none,d)):
  lvl prog pr m (.func 180) [.Q p 0,.I i] H=some (.tuple #[pk0.dN,.bool false],H++[pkB pk0]):=by
 refine cS hn' U ?_
 rw[aBB];have hc:=aNi hn (h.app [pkB pk0]) (m:=m-1) U i hi
 simp -implicitDefEqProofs [zQ,hc,aNr,aBJ,I4,Rn]
theorem aNn (hn:pr (.func 181)=none)(hn':pr (.func 180)=none)(h:IsPool H p s l top free){m:Nat}(hm:1<m)(i q:Nat)(x:Pkt)(d:Int)(hi:l[i]? =some (some (q,x),d)):
  lvl prog pr m (.func 180) [.Q p 0,.I i] H=some (.tuple #[x.dN,.bool true],H++[pkB x]):=by
 refine cS hn' U ?_
 rw[aBB];have h':=h.app [pkB pk0];have hc:=aBF hn h' (m:=m-1) U i _ d hi
 have hs:=h'.hs;have hq:=h'.hq i q x d hi;simp -implicitDefEqProofs [zQ,hc,n73,hs,hq,hi,zR,I4,Rn]
theorem IsPool.ps (h:IsPool H p s l top free):p≠s:=by
 intro e;have h1:=h.hp;have h2:=h.hs;rw[e,h2] at h1;simp[oH,qB] at h1
theorem IsPool.Rk (h:IsPool H p s l top free):p<H.length:=(aRU.mp h.hp).1
theorem IsPool.sl (h:IsPool H p s l top free):s<H.length:=(aRU.mp h.hs).1
theorem IsPool.qs (h:IsPool H p s l top free){q:Nat}{x:Pkt}(hq:H[q]? =some (pkB x)):q≠p/\q≠s:=by
 constructor
 ·intro e
  have h1:=h.hp;rw[<-e,hq] at h1;simp[pkB,qB] at h1
 ·intro e
  have h1:=h.hs;rw[<-e,hq] at h1;simp[pkB,oH] at h1
theorem IsPool.aBE (h:IsPool H p s l top free)(l':List kS)(hl:l'.length=l.length)(top' free':Int)
  (hq: ∀(i q:Nat)(x:Pkt)(d:Int),l'[i]? =some (some (q,x),d)->H[q]? =some (pkB x)):IsPool ((H.set s (oH l')).set p (qB s l.length top' free')) p s l' top' free':=by
 have h1:=h.ps;have h2:=h.Rk;have h3:=h.sl;refine⟨?_,?_,?_⟩
 ·rw[hl,aR0 (by simpa using h2)]
 ·rw[aRV U,aR0 U]
 ·intro i q x d hi
  have hb:=hq i q x d hi;obtain⟨h4,h5⟩:=h.qs hb;rw[aRV U,aRV U,hb]
theorem aNj (hn:pr (.func 181)=none)(hn':pr (.func 152)=none)(h:IsPool H p s l top free){m:Nat}(hm:1<m)(i:Nat)(q:Nat×Pkt)(d:Int)(hi:l[i]? =some (some q,d))(hf0:0<=free)(hf1:free<1000):
  lvl prog pr m (.func 152) [.Q p 0,.I i] H=some (.bool true,(H.set s (oH (l.set i (none,top)))).set p (qB s l.length i (free+1))):=by
 refine cS hn' U ?_
 rw[aNd];have hc:=aBF hn h (m:=m-1) U i q d hi
 have hp:=h.hp;have hs:=h.hs;have h1:=h.ps;have h2:=h.Rk;have h3:=h.sl;have hl:i<l.length:=(aRU.mp hi).1;have w:IntKind.i64.wrap (free+1)=free+1:=dL U U
 have s0:=λH=>aBP (H:=H) (l:=l) s i none (some q,d) none hi rfl
 have s1:=λH=>Ro (H:=H) (l:=l.set i (none,d)) s i top (none,d) (by simp[hl])
 simp -implicitDefEqProofs (disch:=first|omega|(simp;omega)) only[hc,e73,hp,hs,s0,s1,w,cR,List.set_set,ob_some,iteV_false,iteV_true,r_opt,r_nil,r_fAddr,kM,aBH,aBI,Fv,V5,aSf,Nat.add_zero,aR0,aRV,ne_eq,aBN,aBO,oneOf_one]
theorem aNu (hn:pr (.func 143)=none)(h:IsPool H p s l (-1) free){m:Nat}(hm:0<m)(x:Pkt):
  lvl prog pr m (.func 143) [.Q p 0,x.dN] H=some (.tuple #[.I 0,.bool false],H++[pkB x]):=by
 refine cS hn U ?_
 rw[aBz];have hp:=(h.app [pkB x]).hp;have e:Blk.cells (Value.cells x.dN).toList 54 .fix=pkB x:=rfl;simp -implicitDefEqProofs [e,hp]
theorem aNv (hn:pr (.func 143)=none)(k:Nat)(h:IsPool H p s l k free){m:Nat}(hm:0<m)(x:Pkt)(q:Option (Nat×Pkt))(d:Int)(hk:l[k]? =some (q,d))(hf0: -10<=free)(hf1:free<1000):
  lvl prog pr m (.func 143) [.Q p 0,x.dN] H=
   some (.tuple #[.I k,.bool true],((H++[pkB x]).set s (oH (l.set k (some (H.length,x),d)))).set p (qB s l.length d (free-1))):=by
 refine cS hn U ?_
 rw[aBz];have h':=h.app [pkB x];have hp:=h'.hp;have hs:=h'.hs;have h1:=h'.ps;have h2:=h'.Rk;have h3:=h'.sl;have h4:p<H.length+1:=by simpa using h2
 have h5:s<H.length+1:=by simpa using h3
 have hl:k<l.length:=(aRU.mp hk).1;have w:IntKind.i64.wrap (free-1)=free-1:=dL U U
 have e:Blk.cells (Value.cells x.dN).toList 54 .fix=pkB x:=rfl;have e2:((k:Int)== -1)=false:=by simp
 have e3:((l[k]?).map λx=>Value.I x.2)=some (.I d):=by rw[hk];rfl
 have s0:=λH'=>aBP (H:=H') (l:=l) s k (some ⟨H.length,0,none⟩) (q,d) (some (H.length,x)) hk rfl
 simp -implicitDefEqProofs (disch:=first|omega|(simp;omega)) only[e,e2,e3,hp,hs,s0,w,b_eql,iC,x_newB,List.set_set,ob_some,iteV_false,iteV_true,r_opt,r_nil,r_fAddr,pQ,kM,I1,aBH,aBI,aNp,vU,Fv,V5,aSf,Nat.add_zero,aR0,aRV,ne_eq,aBN,aBO,oneOf_two,aSm]
def kV (n i:Nat):List kS:=(List.range n).map λj=>(none,if j<i then(j:Int)+1 else 0)
def lY (n:Nat):List kS:=(List.range n).map λj=>(none,if j+1<n then(j:Int)+1 else -1)
theorem Bt (n i j:Nat)(h:j<n):(kV n i)[j]? =some (none,if j<i then(j:Int)+1 else 0):=by simp[kV,h]
theorem aNm (n i:Nat):(kV n i).set i (none,(i:Int)+1)=kV n (i+1):=by
 apply aSv;intro j;by_cases hj:j<n
 ·by_cases e:i=j
  ·subst e
   rw[aR0 (by simpa[kV] using hj),Bt _ _ _ hj,if_pos U]
  ·rw[aRV e,Bt _ _ _ hj,Bt _ _ _ hj]
   by_cases h:j<i
   ·rw[if_pos h,if_pos U]
   ·rw[if_neg h,if_neg U]
 ·rw[aR5 (by simp[kV];omega),aR5 (by simp[kV];omega)]
theorem aNl (n:Nat)(h:0<n):(kV n n).set (n-1) (none, -1)=lY n:=by
 apply aSv;intro j;by_cases hj:j<n
 ·have e2:(lY n)[j]? =some (none,if j+1<n then(j:Int)+1 else -1):=by simp[lY,hj]
  by_cases e:n-1=j
  ·subst e
   rw[aR0 (by simpa[kV] using hj),e2,if_neg U]
  ·rw[aRV e,Bt _ _ _ hj,e2,if_pos hj,if_pos U]
 ·rw[aR5 (by simp[kV];omega),aR5 (by simp[lY];omega)]
def nA (H:aF)(l:List kS):aF:=H++[oH l,qB H.length l.length 0 l.length]
theorem I0 (l:List kS):(nA H l)[H.length+1]? =some (qB H.length l.length 0 l.length):=by simp[nA]
theorem Rl (l:List kS):(nA H l)[H.length]? =some (oH l):=by simp[nA]
theorem aBG (l l':List kS)(h:l'.length=l.length):(nA H l).set H.length (oH l')=nA H l':=by simp[nA,h]
theorem aNs (n:Nat)(h200:n<=200)(h1:0<n)(O:aH)(L:aI (Value×aF)): ∀(r i m:Nat),n-i=r->i<=n->r<m-> ∀(x1 x2 x4 x5 x6 x7 x8 x9 bS cE aV aR aS aQ aW aX aU bA bO bK aY bC bE bG bH bI bJ bM bN bU cK cL cD bV bX bY b9 cA cF:Value),
  aM m (aN prog O L Rh) (Ri O L) [.I n,x1,x2,.Q (H.length+1) 0,x4,x5,x6,x7,x8,x9,bS,cE,aV,aR,aS,aQ,aW,aX,aU,bA,.I n,.I i,bO,bK,aY,bC,bE,bG,bH,bI,bJ,bM,bN,bU,cK,cL,cD,bV,bX,bY,b9,cA,cF] (nA H (kV n i))=some (.Q (H.length+1) 0,nA H (lY n)):=by
 intro r;induction r with
 |zero=>
  intro i m hr hi hm x1 x2 x4 x5 x6 x7 x8 x9 bS cE aV aR aS aQ aW aX aU bA bO bK aY bC bE bG bH bI bJ bM bN bU cK cL cD bV bX bY b9 cA cF;obtain⟨m,rfl⟩: ∃k,m=k+1:=⟨m-1,by omega⟩
  obtain rfl:i=n:=U
  rw[dR,aBD];have e:decide ((i:Int)<i)=false:=by simp
  have s1:=λH'=>Ro (H:=H') (l:=kV i i) H.length (i-1) (-1) (none,((i-1:Nat):Int)+1) (by rw[Bt _ _ _ U,if_pos U])
  have w:IntKind.i64.wrap ((i:Int)-1)=((i-1:Nat):Int):=by rw[dL U U];omega
  have hl:(kV i i).length=i:=by simp[kV]
  simp -implicitDefEqProofs only[b_lss,e,r_opt,ob_some,iteV_false,again_exit];rw[aNf];simp -implicitDefEqProofs (disch:=first|omega|(simp[kV];omega)|simp[kV,lY]) only[r_opt,ob_some,r_nil,r_fAddr,kM,I0,I1,iC,w,pQ,aSf,Nat.add_zero,Fv,Rl,s1,aSm,aNl,hl,aBG,oneOf_one]
 |succ r ih=>
  intro i m hr hi hm x1 x2 x4 x5 x6 x7 x8 x9 bS cE aV aR aS aQ aW aX aU bA bO bK aY bC bE bG bH bI bJ bM bN bU cK cL cD bV bX bY b9 cA cF;obtain⟨m,rfl⟩: ∃k,m=k+1:=⟨m-1,by omega⟩
  rw[dR,aBD];have e:decide ((i:Int)<n)=true:=by simp;omega
  have s1:=λH'=>Ro (H:=H') (l:=kV n i) H.length i ((i:Int)+1) (none,0) (by rw[Bt _ _ _ U,if_neg U])
  have w:=aA (i:=i) U
  have w':((i+1:Nat):Int)=(i:Int)+1:=U
  have hl:(kV n i).length=n:=by simp[kV]
  simp -implicitDefEqProofs (disch:=first|omega|(simp[kV];omega)|simp[kV]) only[b_lss,e,r_opt,ob_some,iteV_true,again_normal,r_nil,r_fAddr,kM,I0,I1,cR,w,pQ,aSf,Nat.add_zero,Fv,Rl,w',s1,aSm,aNm,hl,aBG,oneOf_one]
  rw[<-w'];exact ih (i+1) m U U U _ _ _ _ _ _ _ _ _ _ _ _ _ _ _ _ _ _ _ _ _ _ _ _ _ _ _ _ _ _ _ _ _ _ _ _ _ _ _
theorem I2 (n:Nat):(lY n).length=n:=by simp[lY]
theorem Rm (n j:Nat)(h:j<n):(lY n)[j]? =some (none,if j+1<n then(j:Int)+1 else -1):=by simp[lY,h]
theorem aNt (hn:pr (.func 84)=none)(n:Nat)(h1:0<n)(h200:n<=200){m:Nat}(hm:210<m):
  lvl prog pr m (.func 84) [.I n] H=some (.Q (H.length+1) 0,nA H (lY n)):=by
 refine cS hn U ?_
 rw[aNg];have e1:decide ((n:Int)<1)=false:=by simp;omega
 have e2:decide ((200:Int)<n)=false:=by simp;omega
 have e3:bld prog 244 [(0,.slice (some ⟨H.length,0,none⟩) n n),(2,.I n)]=some (.agg #[.slice (some ⟨H.length,0,none⟩) n n,.I 0,.I n]):=by kernel_rfl
 have e4:H++[Blk.cells (List.replicate n [.pointer none,.int .i64 0]).flatten 247 .row]++[Blk.cells [.slice (some ⟨H.length,0,none⟩) n n,.int .i64 0,.int .i64 n] 244 .fix]=nA H (kV n 0):=by
  have:(kV n 0).map tZ=List.replicate n [.pointer none,.I 0]:=by
   apply aSv;intro j;by_cases hj:j<n
   ·simp[kV,hj,tZ,zR]
   ·rw[aR5 (by simp[kV];omega),aR5 (by simp;omega)]
  have hl:(kV n 0).length=n:=by simp[kV]
  simp[nA,oH,this,qB,hl]
 have e5:(Value.agg #[Value.slice (some ⟨H.length,0,none⟩) n n,.int .i64 0,.int .i64 n]).cells.toList=[Value.slice (some ⟨H.length,0,none⟩) n n,.int .i64 0,.int .i64 n]:=rfl;have e6: ∀b c:Blk,(H++[b]++[c])[H.length+1]? =some c:=λb c=>by simp
 have hl:(kV n 0).length=n:=by simp[kV]
 have ms:=wW (H:=H) 247 2 16 [.pointer none,.I 0] .i64 .i64 n U U U rfl
 rw[aSm] at ms;simp -implicitDefEqProofs (disch:=first|omega|rfl) only[b_lss,b_gtr,e1,e2,r_opt,ob_some,r_gdff,r_ret,pick_f,iteV_false,ms,aSm,e3,e5,x_newB,aR6,aSg,List.length_nil,aSf,r_nil,r_fAddr,kM,e4,I0,I1,hl,vT]
 exact aNs n h200 h1 _ _ n 0 (m-1) U U U ..
theorem aNq (n:Nat):IsPool (nA H (lY n)) (H.length+1) H.length (lY n) 0 n:=by
 refine⟨?_,Rl _,λi q x d hi=> ?_⟩
 ·rw[I0,I2]
 ·by_cases hl:i<n
  ·rw[Rm n i hl] at hi
   simp at hi
  ·rw[aR5 (by simp[lY];omega)] at hi
   cases hi
end Go.Proofs.YtkeilicinggjmaaGreatDoor.Rg
