/-
  PARTS OF THIS CLAIM'S PROOF, laid together by a program of mine.
-/
import Derived.Test.YtciiopkbmjppfaaGreatDoorAbsM4
set_option linter.unusedVariables false
set_option linter.unusedSimpArgs false
set_option linter.unusedSectionVars false
set_option maxRecDepth 100000
namespace Go.Proofs.YtciiopkbmjppfaaGreatDoor
open Go.Proofs.Tryz
open Go.Abs Go.Abs.M
def tO:Nat->List (List Int)
 |0=>[[]]
 |k+1=>(tO k).flatMap λt=>(List.range (k+1)).map λx:Nat=>t++[(x:Int)]
theorem aMf {t:List Int}{x:Int}(h:fA (t++[x])=true):fA t=true/\0<=x/\x<=t.length:=by
 have hx:=N6 h (i:=t.length) (x:=x) (by simp)
 refine⟨?_,hx.1,hx.2.1⟩;unfold fA at h⊢;rw[aUl,aUS] at h⊢;refine⟨λj hj=> ?_,?_⟩
 ·have hjl:=aUR.mp hj
  have:=h.1 j (aUR.mpr (by simp;omega))
  rw[aUh,aUg hjl] at this;rw[aUh];exact this
 ·have h2:=of_decide_eq_true h.2
  simp at h2;exact aUX U
theorem aAN: ∀(k:Nat)(t:List Int),t.length=k->fA t=true->t∈tO k
 |0,t,hl,_=>by
  rw[aUv.mp hl];simp[tO]
 |k+1,t,hl,h=>by
  obtain⟨s,x,rfl⟩: ∃s x,t=s++[x]:=by
   refine⟨t.dropLast,t.getLast (λhh=>by rw[hh] at hl;simp at hl),?_⟩
   exact(List.dropLast_concat_getLast _).symm
  obtain⟨h1,h2,h3⟩:=aMf h;have hsl:s.length=k:=by simpa using hl
  unfold tO;rw[List.mem_flatMap];refine⟨s,aAN k s hsl h1,aUQ.mpr ⟨x.toNat,aUR.mpr U,?_⟩⟩
  rw[show((x.toNat:Nat):Int)=x by omega]
def zO (t:List Int):PlanD:=cpP (t.length+1) (vD t) (kY t)
def wY (t:List Int):Bool:=dT (zO t)&&(decide (kE (zO t)=0)&&(List.range (t.length+1)).all λv=>(List.range (t.length+1)).all λw=>decide (u9 (zO t) v w=mU t v w)&&(decide (v=w)||decide (2<=(mU t v w).length)))
theorem aMa:(tO 1).all wY=true:=by decide+kernel
theorem aMb:(tO 2).all wY=true:=by decide+kernel
theorem aMc:(tO 3).all wY=true:=by decide+kernel
theorem aMd:(tO 4).all wY=true:=by decide+kernel
theorem aMe:(tO 5).all wY=true:=by decide+kernel
theorem aMo {t:List Int}(hr:fA t=true)(h1:1<=t.length):wY t=true:=by
 have h5:t.length<=5:=by
  unfold fA at hr;rw[aUl] at hr;have:=of_decide_eq_true hr.2;omega
 have hm:=aAN t.length t rfl hr;have hc:t.length=1∨t.length=2∨t.length=3∨t.length=4∨t.length=5:=U
 rcases hc with h|h|h|h|h<;>rw[h] at hm
 ·exact aUS.mp aMa t hm
 ·exact aUS.mp aMb t hm
 ·exact aUS.mp aMc t hm
 ·exact aUS.mp aMd t hm
 ·exact aUS.mp aMe t hm
def Gu (t:List Int)(v:Nat):List Int:=(List.range (t.length+1)).map λw:Nat=>if v=w then(v:Int) else(mU t v w).getD 1 0
structure TG (t:List Int):Prop where
 ok:dT (zO t)=true
 er:kE (zO t)=0
 pa: ∀v w:Nat,v<=t.length->w<=t.length->u9 (zO t) v w=mU t v w
 l2: ∀v w:Nat,v<=t.length->w<=t.length->v≠w->2<=(mU t v w).length
theorem aAO {t:List Int}(hr:fA t=true)(h1:1<=t.length):TG t:=by
 have h:=aMo hr h1;unfold wY at h;simp only[aUl,decide_eq_true_eq,aUS,aUR,Bool.or_eq_true] at h;obtain⟨h1,h2,h3⟩:=h
 exact⟨h1,h2,λv w hv hw=>(h3 v U w U).1,λv w hv hw hne=>((h3 v U w U).2).resolve_left hne⟩
theorem aMn {p:PlanD}{t:List Int}(hp:dT p=true)(hg:TG t):dT (pW p t)=true:=by
 have h:=hg.ok;unfold dT oW wS uZ at*;simp only[aUl] at*
 exact⟨⟨h.1.1,hp.1.2⟩,h.2.1,hp.2.2.1,hp.2.2.2.1,h.2.2.2.2⟩
theorem aMj {p:PlanD}{t:List Int}(hp:dT p=true)(hg:TG t):kE (pW p t)=0/\ ∀v w:Nat,v<=t.length->w<=t.length->u9 (pW p t) v w=mU t v w:=by
 obtain⟨_,c2,_,c4⟩:=aL2 (aMn hp hg) hg.ok rfl rfl rfl
 exact⟨by rw[c4];exact hg.er,λv w hv hw=>by rw[c2];exact hg.pa v w hv hw⟩
section
variable {H : aF} {m : Nat} {p : PlanD} {ev wv nv : Value}
theorem aMh {α:Type}{el:α->List Value}{e e':TypeId}{sz by':Nat}(hsz: ∀x,(el x).length=sz)(hall: ∀x,cA (el x)=true)(h0:0<sz){H0:aF}{v w:Value}{xs ys:List α}{b j:Nat}{cs:List Value}
  (hb:H[b]? =some (.cells cs 40 .fix))(hj:j<cs.length)(hv:Rw el e sz H v xs)(hw:Rs el e' H w ys)(hn:New H0 v)(hbn:H0.length<=b)(he:Ext H0 H)(hr:eH (xs.length+ys.length) by'=true):
  ∃v' H1 H',app e sz by' v w H=some (v',H1)/\stN 1 (.Q b j) v' H1=some (undef,H')/\
   Rw el e sz H' v' (xs++ys)/\New H0 v'/\Ext H0 H'/\H'[b]? =some (.cells (cs.set j v') 40 .fix)/\Fy b e H H':=by
 obtain⟨v',H1,g1,g2,g3,g4,g5⟩:=hv.wL hsz hall h0 (by':=by') hw hr;have hbl:=(aUd.mp hb).1;have hl:=he.1;have hnh: ¬aT v b:=λhh=>by
  obtain⟨c',hc'⟩:=hv.blk hh;rw[hb] at hc';simp at hc'
 have hb1:H1[b]? =some (.cells cs 40 .fix):=by rw[g4 b hbl hnh,hb]
 obtain⟨s1,s2⟩:=g2.sI;have hb1l:=(aUd.mp hb1).1;refine⟨v',H1,H1.set b (.cells (cs.set j v') 40 .fix),g1,?_,g2.cZ λc hc=> ?_,λc hc=> ?_,⟨by rw[List.length_set];omega,λc hc _=> ?_⟩,aUj hb1l,λc y hcb hA hy=> ?_⟩
 ·rw[fV 1 _ _ _ (by rw[s1];rfl),hb1,s1,iW _ _ _ _ _ _ aC (by simp;omega) s2]
  rfl
 ·refine aUe λhh=> ?_
  subst hh;obtain⟨c',hc'⟩:=g2.blk hc;rw[hb1] at hc';simp at hc'
 ·rcases g5 c hc with h|⟨h,_⟩
  ·exact hn c h
  ·omega
 ·rw[aUe U,g4 c U (λh=>by have:=hn c h;omega),he.2 c hc id]
 ·have hch: ¬aT v c:=λhh=>by
   obtain⟨c',hc'⟩:=hv.blk hh;rw[hy] at hc';cases hc';exact hA _ rfl
  rw[aUe (Ne.symm hcb),g4 c (aUd.mp hy).1 hch,hy]
structure LA (H0 H1:aF)(pb rb:Nat)(q:PlanD)(ev wv nv:Value):Prop where
 ext:Ext H0 H1
 blk:H1[pb]? =some (plB q ev wv nv)
 res:H1[rb]? =some plZ
 ne:rb≠pb
 lp:H0.length<=pb
 lr:H0.length<=rb
theorem LA.aMg {H0 H1 H2:aF}{pb rb:Nat}{q:PlanD}(h:LA H0 H1 pb rb q ev wv nv)(he:Ext H1 H2):LA H0 H2 pb rb q ev wv nv:=⟨h.ext.tr he,cP h.blk he,cP h.res he,h.ne,h.lp,h.lr⟩
theorem N8 {H0 H1:aF}{b rb:Nat}{e:TypeId}(hk:Fy b e H0 H1)(hr:H0[rb]? =some plZ)(hne:rb≠b):H1[rb]? =some plZ:=hk rb _ hne (λcs hh=>by simp[plZ] at hh) hr
def Gt (H0:aF)(q:PlanD)(H':aF)(r:Value):Prop:= ∃ev wv nv,r= .tuple #[plV q ev wv nv,.I 0]/\Ext H0 H'/\PV H' q ev wv nv
variable {t : List Int} {tv : Value} {H0 : aF} {pb rb : Nat}
theorem aMm {Hb:aF}{v:Nat}(hr:fA t=true)(hg:TG t)(ht:Is Hb tv t)(hv:v<t.length+1)(hm:400<m)(hm2:m<=72057594037927936){K:Ex->K (Value×aF)}{Q:aF->Value->Prop}
  (hK: ∀(H':aF)(u:Value),Ext Hb H'->Iw H' u ((List.range (t.length+1)).map λw=>if v=w then(v:Int) else(mU t v w).getD 1 0)->New Hb u-> ∀(x5 x7 lH:Value),∃H2 r,M5 (lvl prog aY m) (aL m) K tv (.Q pb 0) (.Q rb 0) x5 (.I (t.length+1:Nat)) x7 (.I (v:Nat)) u lH H'=some (r,H2)/\Q H2 r):
  ∀(k0 w k:Nat)(H1:aF)(acc:Value),t.length+1-w=k0->w<=t.length+1->k0<k->Ext Hb H1->Iw H1 acc ((List.range w).map λw=>if v=w then(v:Int) else(mU t v w).getD 1 0)->New Hb acc-> ∀(x5 x7:Value),
  ∃H' r,aL k (aO prog (lvl prog aY m) (aL m) M4) (M8 (lvl prog aY m) (aL m) K) (aG 1 (tv::some (.Q pb 0)::aG 1 (some (.Q rb 0)::x5::some (.I (t.length+1:Nat))::x7::aG 1 (some (.I (v:Nat))::acc::some (.I (w:Nat))::aG 71 [])))) H1=some (r,H')/\Q H' r:=by
 intro k0;have h5:t.length<=5:=by
  unfold fA at hr;rw[aUl] at hr;have:=of_decide_eq_true hr.2;omega
 induction k0 with
 |zero=>
  intro w k H1 acc hq hi hk he ha hnew;intros;obtain⟨k,rfl⟩:=aB k U
  obtain rfl:w=t.length+1:=U
  have e:decide (((t.length+1:Nat):Int)<((t.length+1:Nat):Int))=false:=by simp
  rw[bS,aAd];simp only[gsR,e];rw[aKZ];exact hK H1 acc he ha hnew ..
 |succ k0 ih=>
  intro w k H1 acc hq hi hk he ha hnew;intros;obtain⟨k,rfl⟩:=aB k U
  have e:decide ((w:Int)<((t.length+1:Nat):Int))=true:=aUX U
  have e3:=aA (i:=w) U
  have hrow: ∀x:Int,(if v=w then(v:Int) else(mU t v w).getD 1 0)=x->((List.range (w+1)).map λw=>if v=w then(v:Int) else(mU t v w).getD 1 0)=((List.range w).map λw=>if v=w then(v:Int) else(mU t v w).getD 1 0)++[x]:=λx hx=>by
   rw[aUM,List.map_append];simp only[aUI,List.map_nil];rw[hx]
  rw[bS,aAd];by_cases hvw:v=w
  ·have d:((v:Int)!=(w:Int))=false:=by simp[hvw]
   obtain⟨acc2,H2,t1,t2,t3,t4⟩:=ha.pS (by':=8) eP mQ aC (v:Int) hnew he (eD (n:=1000) aC (by simp;omega))
   simp only[gsR,e,d,mR,t1,aV,e3];exact ih (w+1) k H2 acc2 U U U t4 (by rw[hrow v (if_pos hvw)];exact t2) t3 ..
  ·have d:((v:Int)!=(w:Int))=true:=by simp;omega
   obtain⟨H2,u,g1,x2,q2,_⟩:=aL6 (ht.ext he) hr (v:=v) (w:=w) U U (m:=m) U U
   obtain⟨x,hx⟩: ∃x,(mU t v w)[1]? =some x:=by
    have:=hg.l2 v w U U hvw
    exact⟨_,aUf U⟩
   obtain⟨c,o,k1,_,k3⟩:=q2.rs.dM eP hx .i64;have k1:cN 1 u (.int .i64 1)=some (.pointer (some ⟨c,o,none⟩)):=k1;have k4:ld1 (.pointer (some ⟨c,o,none⟩)) H2=some (.int .i64 x,H2):=(k3 H2 rfl).2.1 0 _ rfl;have ha2:=ha.cZ (H':=H2) λb hb=>x2.2 b (ha.dO hb) id
   obtain⟨acc2,H3,t1,t2,t3,t4⟩:=ha2.pS (by':=8) eP mQ aC x hnew (he.tr x2) (eD (n:=1000) aC (by simp;omega))
   simp only[gsR,e,d,g1,k1,k4,mR,t1,aV,e3];exact ih (w+1) k H3 acc2 U U U t4 (by rw[hrow x (by rw[if_neg hvw,vB hx])];exact t2) t3 ..
theorem aMl {q:PlanD}{ev1 wv1:Value}(hr:fA t=true)(hg:TG t)(ht:Is H0 tv t)(hm:500<m)(hm2:m<=72057594037927936)(hqe:q.edges=vD t)(hqw:q.weights.length<=1000):
  ∀(k0 v k:Nat)(H1:aF)(nv1:Value)(us:List SV),t.length+1-v=k0->v<=t.length+1->k0<k->LA H0 H1 pb rb q ev1 wv1 nv1->Ew H1 ev1 q.edges->Iw H1 wv1 q.weights->Rw sC 37 1 H1 nv1 us->New H0 nv1->WR H1 us ((List.range v).map (Gu t))-> ∀(x5 x7 iS lH:Value),
  ∃H' r,aL k (aO prog (lvl prog aY m) (aL m) M3) (M7 (lvl prog aY m) (aL m)) (aG 1 (tv::some (.Q pb 0)::aG 1 (some (.Q rb 0)::x5::some (.I (t.length+1:Nat))::x7::aG 1 (some (.I (v:Nat))::iS::lH::aG 71 [])))) H1=some (r,H')/\Gt H0 {q with next:=kY t} H' r:=by
 intro k0;have h5:t.length<=5:=by
  unfold fA at hr;rw[aUl] at hr;have:=of_decide_eq_true hr.2;omega
 induction k0 with
 |zero=>
  intro v k H1 nv1 us hq hi hk hL he1 hw1 hn1 hnew hwr;intros;obtain⟨k,rfl⟩:=aB k U
  obtain rfl:v=t.length+1:=U
  have e:decide (((t.length+1:Nat):Int)<((t.length+1:Nat):Int))=false:=by simp
  have hrows:Rows H1 nv1 (kY t):=hwr.Ns hn1.rs;have hb':H1[pb]? =some (plB {q with next:=kY t} ev1 wv1 nv1):=hL.blk
  have l11:=fE hb';have hqel:q.edges.length<=5:=by rw[hqe];simp[vD];exact h5
  have hpv:PV H1 {q with next:=kY t} ev1 wv1 nv1:=⟨he1.rs,hw1.rs,hrows,by show q.edges.length<=_;omega,by show q.weights.length<=_;omega,by show(kY t).length<=_;unfold kY;rw[aL1];omega⟩
  have hrl:=(aUd.mp hL.res).1;have hall:=hpv.B7;have st:stN 11 (.Q rb 0) (plV {q with next:=kY t} ev1 wv1 nv1) H1=some (undef,H1.set rb (plB {q with next:=kY t} ev1 wv1 nv1)):=by
   have e1:(plV {q with next:=kY t} ev1 wv1 nv1).cells.toList=plC {q with next:=kY t} ev1 wv1 nv1:=rfl
   rw[fV 11 _ _ _ rfl,hL.res,e1];unfold plZ;exact iW _ _ _ _ _ _ aC (by simp[plC]) hall
  have l2:=fE (aUj (a:=plB {q with next:=kY t} ev1 wv1 nv1) hrl)
  have kp: ∀(b:Nat)(cs:List Value)(e:TypeId),H1[b]? =some (.cells cs e .row)->(H1.set rb (plB {q with next:=kY t} ev1 wv1 nv1))[b]? =H1[b]? :=λb cs e hb=>by
   refine aUe λhh=> ?_
   subst hh;rw[hL.res] at hb;simp[plZ] at hb
  have x2:Ext H0 (H1.set rb (plB {q with next:=kY t} ev1 wv1 nv1)):=gM hL.ext hL.lr
  have hpv2:PV (H1.set rb (plB {q with next:=kY t} ev1 wv1 nv1)) {q with next:=kY t} ev1 wv1 nv1:=by
   refine⟨(he1.cZ λb hb=> ?_).rs,(hw1.cZ λb hb=> ?_).rs,(hwr.Ca λb cs hb=>kp b cs _ hb).Ns (hn1.cZ λb hb=> ?_).rs,hpv.be,hpv.bw,hpv.bn⟩
   ·obtain⟨cs,hc⟩:=he1.blk hb
    exact kp b cs _ hc
   ·obtain⟨cs,hc⟩:=hw1.blk hb
    exact kp b cs _ hc
   ·obtain⟨cs,hc⟩:=hn1.blk hb
    exact kp b cs _ hc
  rw[bS,aAc];simp only[gsR,e];rw[aKY];simp only[gsR,l11,st,l2]
  exact⟨_,_,rfl,ev1,wv1,nv1,rfl,x2,hpv2⟩
 |succ k0 ih=>
  intro v k H1 nv1 us hq hi hk hL he1 hw1 hn1 hnew hwr;intros;obtain⟨k,rfl⟩:=aB k U
  have e:decide ((v:Int)<((t.length+1:Nat):Int))=true:=aUX U
  have e3:=aA (i:=v) U
  rw[bS,aAc];simp only[gsR,e];refine aMm (pb:=pb) (rb:=rb) (Q:=Gt H0 {q with next:=kY t}) hr hg (ht.ext hL.ext) (v:=v) U U hm2 (λH2 u x2 hu hun=> ?_) (t.length+1) 0 m H1 _ U U U (Fr.dS _ _) (Rw.fD (el:=inC)) (New.iE _) ..
  intros;have hL2:=hL.aMg x2;have l10:=cQ hL2.blk 10 _ rfl;have hn2:Rw sC 37 1 H2 nv1 us:=hn1.cZ λb hb=>x2.2 b (hn1.dO hb) id
  have hwr2:=hwr.Ca (H':=H2) λb cs hb=>x2.2 b (aUd.mp hb).1 id
  have he2:=he1.cZ (H':=H2) λb hb=>x2.2 b (he1.dO hb) id
  have hw2:=hw1.cZ (H':=H2) λb hb=>x2.2 b (hw1.dO hb) id
  have hul:us.length<=10:=by have:=hwr.len;simp at this;omega
  obtain⟨nv2,H3,H4,r1,r2,r3,r4,r5,r6,r7⟩:=B4 (by':=24) (H0:=H0) (b:=pb) (j:=10) B5 F9 aC (oZ hu) hL2.blk (by show 10<11;omega) hn2 hnew hL.lp hL2.ext (eD (n:=1000) aC U)
  have bl:b9 37 1 1 [.N] [(0,u)] H2=some (.slice (some ⟨H2.length,0,none⟩) 1 1,H2++[.cells (sC (oZ hu)) 37 .row]):=by
   have h0:u.cells= #[u]:=(oZ hu).2.2;unfold b9;have:Instr.fill (λi=>some (i*1,1)) (List.replicate 1 [Value.N]).flatten.toArray [(0,u)]=some #[u]:=by
    simp[Instr.fill,h0]
   rw[this];rfl
  have hL4:LA H0 H4 pb rb q ev1 wv1 nv2:=⟨r5,r6,N8 r7 hL2.res hL.ne,hL.ne,hL.lp,hL.lr⟩;have w4:=(hwr2.aAr (s:=oZ hu) hu).Ca (H':=H4) λb cs hb=>by
   have hbp:b≠pb:=λhh=>by
    subst hh;rw[hL2.blk] at hb;simp[plB] at hb
   rw[hb];exact r7 b _ hbp (λcs' hh=>by cases hh) hb
  unfold M5;simp only[gsR,l10,bl,r1,r2,aV,e3];refine ih (v+1) k H4 nv2 _ U U U hL4 (Rw.zM he2 r7 hL2.blk aC) (Rw.zM hw2 r7 hL2.blk aC) r3 r4 ?_ ..
  have hrs:(List.range (v+1)).map (Gu t)=(List.range v).map (Gu t)++[Gu t v]:=by rw[aUM,List.map_append];rfl
  exact hrs▸w4
theorem aMk {q:PlanD}{ws:List Int}{nv0:Value}(hr:fA t=true)(hg:TG t)(ht:Is H0 tv t)(hw0:Is H0 wv ws)(hwl:ws.length<=1000)(hm:500<m)(hm2:m<=72057594037927936)(hqe:q.edges=vD t)(hqw:q.weights=ws):
  ∀(k0 v k:Nat)(H1:aF)(ev1:Value),t.length-v=k0->v<=t.length->k0<k->LA H0 H1 pb rb q ev1 wv nv0->Ew H1 ev1 ((List.range v).map λi=>(t.getD i 0,((i+1:Nat):Int)))->New H0 ev1-> ∀(x5 x9 iS lH:Value),
  ∃H' r,aL k (aO prog (lvl prog aY m) (aL m) M2) (M6 (lvl prog aY m) (aL m)) (aG 1 (tv::some (.Q pb 0)::aG 1 (some (.Q rb 0)::x5::some (.I (t.length+1:Nat))::some (.I (v+1:Nat))::aG 1 (x9::iS::lH::aG 71 [])))) H1=some (r,H')/\Gt H0 {q with next:=kY t} H' r:=by
 intro k0;have h5:t.length<=5:=by
  unfold fA at hr;rw[aUl] at hr;have:=of_decide_eq_true hr.2;omega
 induction k0 with
 |zero=>
  intro v k H1 ev1 hq hi hk hL he1 hen;intros;obtain⟨k,rfl⟩:=aB k U
  obtain rfl:v=t.length:=U
  have e:decide (((t.length+1:Nat):Int)<((t.length+1:Nat):Int))=false:=by simp
  have l8:=cQ hL.blk 8 _ rfl;obtain⟨wv1,H2,H3,r1,r2,r3,r4,r5,r6,r7⟩:=aMh (by':=8) (H0:=H0) eP mQ aC hL.blk (show 8<11 by omega) (Rw.fD (el:=inC) (e:=3) (sz:=1)) (hw0.ext hL.ext) (New.iE _) hL.lp hL.ext (eD (n:=100000) aC (by simp;omega))
  rw[List.nil_append] at r3;have hL3:LA H0 H3 pb rb q ev1 wv1 nv0:=⟨r5,r6,N8 r7 hL.res hL.ne,hL.ne,hL.lp,hL.lr⟩;have he3:=Rw.zM he1 r7 hL.blk aC
  have st:=Mz (q':=q) (ev':=ev1) (wv':=wv1) (nv':= .N) (j:=10) (v:= .N) hL3.blk rfl rfl U rfl
  obtain⟨H4,hH4⟩:=aD (H3.set pb (plB q ev1 wv1 (.N)));rw[<-hH4] at st;have other: ∀b,b≠pb->H4[b]? =H3[b]? :=λb hb=>by rw[hH4];exact aUe (Ne.symm hb)
  have nrow: ∀(b:Nat)(cs:List Value)(e:TypeId),H3[b]? =some (.cells cs e .row)->b≠pb:=λb cs e hb hh=>by
   subst hh;rw[hL3.blk] at hb;simp[plB] at hb
  have hL4:LA H0 H4 pb rb q ev1 wv1 (.N):=⟨by rw[hH4];exact gM r5 hL.lp,by rw[hH4];exact aUj (aUd.mp hL3.blk).1,by rw[other rb hL.ne];exact hL3.res,hL.ne,hL.lp,hL.lr⟩
  have he4:Ew H4 ev1 (vD t):=he3.cZ λb hb=>by
   obtain⟨cs,hc⟩:=he3.blk hb;exact other b (nrow b cs _ hc)
  have hw4:Iw H4 wv1 ws:=r3.cZ λb hb=>by
   obtain⟨cs,hc⟩:=r3.blk hb;exact other b (nrow b cs _ hc)
  rw[bS,aAb];simp only[gsR,e];rw[aKX];simp only[gsR,l8,r1,r2,st];exact aMl hr hg ht hm hm2 hqe (by rw[hqw];omega) (t.length+1) 0 m H4 (.N) [] U U U hL4 (by rw[hqe];exact he4) (by rw[hqw];exact hw4) Rw.fD (New.iE _) ⟨rfl,λj s xs h=>by simp at h⟩ ..
 |succ k0 ih=>
  intro v k H1 ev1 hq hi hk hL he1 hen;intros;obtain⟨k,rfl⟩:=aB k U
  have e:decide (((v+1:Nat):Int)<((t.length+1:Nat):Int))=true:=aUX U
  have e3:IntKind.i64.wrap (((v+1:Nat):Int)+1)=((v+1+1:Nat):Int):=by rw[bJ U U];omega
  have e4:IntKind.i64.wrap (((v+1:Nat):Int)-1)=((v:Nat):Int):=by rw[bJ U U];omega
  have l1:=cQ hL.blk 1 _ rfl;obtain⟨x,hx⟩: ∃x,t[v]? =some x:=⟨_,aUf U⟩
  obtain⟨b,o,g1,_,g3⟩:=(ht.ext hL.ext).dM eP hx .i64;have g4:ld1 (.Q b o) H1=some (.I x,H1):=(g3 H1 rfl).2.1 0 _ rfl;have be:=bEd x ((v+1:Nat):Int);obtain⟨ev2,H2,H3,r1,r2,r3,r4,r5,r6,r7⟩:=B4 (by':=16) (H0:=H0) (b:=pb) (j:=1) nF wR aC (x,((v+1:Nat):Int)) hL.blk (by show 1<11;omega) he1 hen hL.lp hL.ext (eD (n:=1000) aC (by simp;omega))
  have hL3:LA H0 H3 pb rb q ev2 wv nv0:=⟨r5,r6,N8 r7 hL.res hL.ne,hL.ne,hL.lp,hL.lr⟩;rw[bS,aAb];simp only[gsR,e,l1,eM,e4,g1,g4,be,aKR,r1,r2,aV,e3];refine ih (v+1) k H3 ev2 U U U hL3 ?_ r4 ..
  rw[aUM,List.map_append];simp only[aUI,List.map_nil];rw[vB hx];exact r3
theorem aMi (hp:PV H p ev wv nv)(hwl:p.weights.length<=1000)(ht:Is H tv t)(hr:fA t=true)(h1:1<=t.length)(hm:600<m)(hm2:m<=72057594037927936):
  ∃H' r,lvl prog aY m (.func 41) [plV p ev wv nv,tv] H=some (r,H')/\Gt H (pW p t) H' r:=by
 have hg:=aAO hr h1;have h5:t.length<=5:=by
  unfold fA at hr;rw[aUl] at hr;have:=of_decide_eq_true hr.2;omega
 obtain⟨Ha,hHa⟩:=aD (H++[plB p ev wv nv]);have xa:Ext H Ha:=by rw[hHa];exact Fr.app _ _ _
 have ba:Ha[H.length]? =some (plB p ev wv nv):=by rw[hHa];exact cV _ _
 obtain⟨Hb,hHb⟩:=aD (Ha++[plZ]);have xb:Ext Ha Hb:=by rw[hHb];exact Fr.app _ _ _
 have bb:Hb[Ha.length]? =some plZ:=by rw[hHb];exact cV _ _
 have xab:=xa.tr xb;have hra:=aAL (ht.ext xab) (m:=m-1) U U
 rw[hr] at hra;have hlen:=(ht.ext xab).eC;have d0:((t.length:Int)==0)=false:=by simp;exact λh=>by rw[h] at h1;simp at h1
 have e1:IntKind.i64.wrap ((t.length:Int)+1)=((t.length+1:Nat):Int):=by rw[bJ U U];omega
 have bpl:=cP ba xb;have s1:=Mz (q':={p with nodes:=((t.length+1:Nat):Int)}) (ev':=ev) (wv':=wv) (nv':=nv) (j:=0) (v:= .I (t.length+1:Nat)) bpl rfl rfl U rfl
 obtain⟨Hc,hHc⟩: ∃Hc,Hc=Hb.set H.length (plB {p with nodes:=((t.length+1:Nat):Int)} ev wv nv):=⟨_,rfl⟩;rw[<-hHc] at s1;have bc:Hc[H.length]? =some (plB {p with nodes:=((t.length+1:Nat):Int)} ev wv nv):=by rw[hHc];exact aUj (aUd.mp bpl).1
 have s2:=Mz (q':=pW p t) (ev':= .N) (wv':=wv) (nv':=nv) (j:=1) (v:= .N) bc rfl rfl U rfl
 obtain⟨Hd,hHd⟩:=aD (Hc.set H.length (plB (pW p t) (.N) wv nv));rw[<-hHd] at s2;have bd:Hd[H.length]? =some (plB (pW p t) (.N) wv nv):=by rw[hHd];exact aUj (aUd.mp bc).1
 have hne:Ha.length≠H.length:=by rw[hHa];simp
 have hL:LA H Hd H.length Ha.length (pW p t) (.N) wv nv:=by
  refine⟨?_,bd,?_,hne,aUi _,xa.1⟩
  ·rw[hHd,hHc];exact gM (gM xab (aUi _)) (aUi _)
  ·rw[hHd,aUe (Ne.symm hne),hHc,aUe (Ne.symm hne)]
   exact bb
 refine dL (dZ rfl rfl) U ?_
 rw[aK0];simp only[gsR,gL,<-hHa,wW,<-hHb,hra,hlen,d0,aV,e1,s1,s2];have:=aMk (q:=pW p t) (nv0:=nv) hr hg ht hp.w hwl (m:=m-1) U U rfl rfl t.length 0 (m-1) Hd (.N) U U U hL Rw.fD (New.iE _)
 exact this ..
end
end Go.Proofs.YtciiopkbmjppfaaGreatDoor
noncomputable section
namespace Go.Proofs.YtciiopkbmjppfaaGreatDoor
open Go.Proofs.Tryz
open Go.Abs Go.Abs.M
variable (O:aH)(L:LV)(k:KV)(N P Q R S T U V W X Y Z a b c d e f g i j l m n o p q r s t u v w x y z A B C D E F G H I J zz zy zx zw zv zu zt zs zr zq zp zo zn zm zl zk zj zi zh zg zf ze zd zc zb za yz:Value)(rr:List Value)(h:aF)
def Ou:CC:=cc prog 1730367419328758068 47 [1,1,1,1,0,1,0,0,1,1,0,0,1,1,0,1,0,0]
def Oy:KV:=(bV 2 (cJ prog O L (cc prog 1730367419328758068 47 [1,1,1,1,0,1,0,0,1,1,0,0,1,1,1]) (bV 1 (cJ prog O L (cc prog 1730367419328758068 47 [1,1,1,1,0,1,0,0,1,1,1]) (iO 1730367419328758068 k)))))
def Ow (O:aH)(L:LV) (k:KV) (c e f j zm zl zk za yz:Value):MV:=aW 13 f λaa=>bM (ldN 3 j) λab=>bM (b9 145 3 1 [(.I 0),(.N),(.pointer none)] [(0,ab)]) λac=>bM (app 145 3 40 aa ac) λad=>bQF 13 f λae=>bT ae ad λaf=>bB prog .add 3 zk (.I 1) λag=>k .normal (aG 2 (c::aG 1 (e::f::aG 2 (j::aG 38 (zm::zl::ag::aG 9 (za::yz::aG 63 []))))))
theorem aNa:Oy O L k (.exit 2) (aG 2 (c::aG 1 (e::f::aG 2 (j::aG 38 (zm::zl::zk::aG 9 (za::yz::aG 63 []))))))=Ow O L k c e f j zm zl zk za yz:=by kernel_rfl
theorem aAY:aO prog O L Ou k (aG 2 (c::aG 1 (e::f::aG 2 (j::aG 38 (zm::zl::zk::aG 9 (za::yz::aG 63 []))))))=bB prog .lss 3 yz za λaa=>aN aa (bF 1 j λab=>bL ab λac=>bFL 9 c λad=>bM (cK prog 23 112 ad) λae=>bFL 3 c λaf=>gH λh81=>bC O 83 [ae,af] λag=>gH λh82=>ifK (chk ((ld1 ab) h82) ac&&(true)) (bF 9 c λah=>bL ah λai=>ifK (chk ((ld1 ah) h81) ai&&(true)) (bM (cK prog 23 112 ai) λaj=>bF 3 c λak=>bL ak λal=>ifK (chk ((ld1 ak) h81) al&&(true)) (bC O 84 [aj,al] λam=>gH λh88=>ifK (chk ((ld1 ab) h88) ac&&(true)) (bO (bld prog 149 [(0,ag),(1,am)]) λan=>bM (b9 149 2 1 [(.pointer none),(.pointer none)] [(0,an)]) λao=>bM (app 149 2 16 ac ao) λap=>bF 1 j λaq=>bT aq ap λar=>bB prog .add 3 yz (.I 1) λau=>k .normal (aG 2 (c::aG 1 (e::f::aG 2 (j::aG 38 (zm::zl::zk::aG 9 (za::au::aG 63 []))))))))))) (k (.exit 2) (aG 2 (c::aG 1 (e::f::aG 2 (j::aG 38 (zm::zl::zk::aG 9 (za::yz::aG 63 []))))))):=by kernel_rfl
def Ot:CC:=cc prog 1730367419328758068 47 [1,1,1,1,0,1,0,0]
def Ox:KV:=(bV 0 (cJ prog O L (cc prog 1730367419328758068 47 [1,1,1,1,1]) (cS prog Tryz.f47)))
def Ov (O:aH)(L:LV) (c e f j zm zl zk za yz:Value):MV:=aW 13 f λaa=>bN aa λab=>bC O 85 [ab] λac=>bQF 0 f λad=>bT ad ac λae=>aW 13 f λaf=>bN af λag=>bFL 2 c λah=>aW 13 f λai=>bN ai λaj=>bFL 2 c λak=>bB prog .mul 3 aj ak λal=>bFL 3 c λam=>bB prog .mul 3 al am λan=>bC O 86 [ag,ah,an] λao=>bQF 15 f λap=>bT ap ao λaq=>aM (aK [f])
theorem aM9:Ox O L (.exit 0) (aG 2 (c::aG 1 (e::f::aG 2 (j::aG 38 (zm::zl::zk::aG 9 (za::yz::aG 63 []))))))=Ov O L c e f j zm zl zk za yz:=by kernel_rfl
theorem aAX:aO prog O L Ot k (aG 2 (c::aG 1 (e::f::aG 2 (j::aG 38 (zm::zl::zk::aG 9 (za::yz::aG 63 []))))))=bB prog .lss 3 zk zl λaa=>aN aa (bIL 1 zm zk λab=>bFL 8 c λac=>bC O 82 [ac] λad=>bO (bld prog 145 [(0,ab),(2,ad)]) λae=>bM (aZ 145 [(.I 0),(.N),(.pointer none)] .fix) λaf=>bM (stN 3 af ae) λag=>bFL 2 c λah=>L (aO prog O L Ou) (Oy O L k) (aG 2 (c::aG 1 (e::f::aG 2 (af::aG 38 (zm::zl::zk::aG 9 (ah::some (.I 0)::aG 63 []))))))) (k (.exit 0) (aG 2 (c::aG 1 (e::f::aG 2 (j::aG 38 (zm::zl::zk::aG 9 (za::yz::aG 63 []))))))):=by kernel_rfl
theorem aNb:aR prog O L 47 [N,P]=bM (aZ 40 (Value.cells N).toList .fix) λaa=>bM (ldN 11 aa) λab=>bC O 44 [ab] λac=>bB prog .neq 59 ac (.int .u16 0) λad=>bG ad false (aX P) λae=>bG ad false (aP (bin prog .lss 3 ae (.I 0))) λaf=>bP ad (.bool true) af λag=>bG ag false (aX P) λah=>gFL ag false 0 aa λai=>bG ag false (aP (bin prog .geq 3 ah ai)) λaj=>bP ag (.bool true) aj λak=>aN ak (aM (aK [(.pointer none)])) (bM (ldN 11 aa) λal=>bFL 2 aa λam=>bFL 4 aa λan=>bC O 81 [am,an] λao=>gH λh17=>ifK (chk ((ldN 11 aa) h17) al&&(true)) (bO (bld prog 120 [(1,al),(2,P),(4,ao)]) λap=>bM (aZ 120 (Value.cells ap).toList .fix) λaq=>bQF 13 aq λar=>bL ar λau=>bFL 8 aa λav=>bC O 82 [av] λaw=>gH λh25=>ifK (chk ((ld1 ar) h25) au&&(true)) (bO (bld prog 145 [(0,P),(2,aw)]) λax=>bM (b9 145 3 1 [(.I 0),(.N),(.pointer none)] [(0,ax)]) λay=>bM (app 145 3 40 au ay) λaz=>bQF 13 aq λba=>bT ba az λbb=>bM (ldN 11 aa) λbc=>bC O 67 [bc,P] λbd=>bN bd λbe=>L (aO prog O L Ot) (Ox O L) (aG 2 (aa::aG 1 (some (.pointer none)::aq::aG 2 (some aE::aG 38 (bd::be::some (.I 0)::aG 9 (some aE::some aE::aG 63 []))))))))):=by kernel_rfl
theorem aAZ:aR prog O L 49 [N,P]=bM (aZ 31 (Value.cells P).toList .fix) λaa=>bFL 0 aa λab=>aW 12 N λac=>bB prog .neq 3 ab ac λad=>gFL ad false 1 aa λae=>bG ad false (aP (bin prog .lss 3 ae (.I 0))) λaf=>bP ad (.bool true) af λag=>gFL ag false 1 aa λah=>bG ag false (aX N) λai=>bG ag false (aP (nC ai)) λaj=>bG ag false (aP (mJ 1 aj)) λak=>gFL ag false 0 ak λal=>bG ag false (aP (bin prog .geq 3 ah al)) λam=>bP ag (.bool true) am λan=>gFL an false 1 aa λao=>bG an false (aX N) λap=>nX an false 12 ap λaq=>bG an false (aP (bin prog .eql 3 ao aq)) λar=>bP an (.bool true) ar λau=>aN au (aM (aK [(.int .u16 1)])) (aW 14 N λav=>bM (ldN 4 aa) λaw=>bC O 87 [av,aw] λax=>aM (aK [ax])):=by kernel_rfl
theorem aM8:aR prog O L 32 [N]=aW 14 N λaa=>aM (aK [aa]):=by kernel_rfl
theorem aNn:aR prog O L 68 [N,P]=bC O 108 [N,P] λaa=>bO (un prog .not aa) λab=>aN ab (aM (aK [(.I 0)])) (bQF 0 N λac=>bO (pD 3 1 ac P) λad=>bL ad λae=>bN ae λaf=>aM (aK [af])):=by kernel_rfl
def O0:CC:=cc prog 14680094 51 [1,1,1,1,0,1,0,0]
def O8:KV:=(bV 0 (cJ prog O L (cc prog 14680094 51 [1,1,1,1,1]) (cS prog Tryz.f51)))
def Gw (O:aH)(L:LV) (b c d e x y z:Value):MV:=bL b λaa=>aW 16 aa λab=>bB prog .add 3 ab (.I 1) λac=>bQF 16 aa λad=>bT ad ac λae=>bL b λaf=>aW 16 af λag=>bL b λah=>bQF 1 ah λai=>bFL 6 ai λaj=>bB prog .rem 3 ag aj λak=>bB prog .eql 3 ak (.I 0) λal=>aN al (bL b λam=>bC O 95 [am,e] λan=>bL d λao=>aM (aK [ao])) (bL d λap=>aM (aK [ap]))
theorem aNd:O8 O L (.exit 0) (aG 1 (b::c::d::e::aG 16 (x::y::z::aG 34 [])))=Gw O L b c d e x y z:=by kernel_rfl
theorem aA0:aO prog O L O0 k (aG 1 (b::c::d::e::aG 16 (x::y::z::aG 34 [])))=bB prog .lss 3 z y λaa=>aN aa (bIL 1 x z λab=>bB prog .geq 3 ab (.I 0) λac=>aN ac (bL b λad=>bC O 94 [ad,z,ab,e] λae=>bB prog .add 3 z (.I 1) λaf=>k .normal (aG 1 (b::c::d::e::aG 16 (x::y::af::aG 34 [])))) (bB prog .add 3 z (.I 1) λag=>k .normal (aG 1 (b::c::d::e::aG 16 (x::y::ag::aG 34 []))))) (k (.exit 0) (aG 1 (b::c::d::e::aG 16 (x::y::z::aG 34 [])))):=by kernel_rfl
theorem aNe:aR prog O L 51 [N]=bM (aZ 72 (Value.cells N).toList .fix) λaa=>bM (aZ 102 [(.N)] .fix) λab=>bL aa λac=>bC O 91 [ac] λad=>bL aa λae=>bQF 0 ae λaf=>bL af λag=>bL aa λah=>gH λh8=>bC O 93 [ah] λai=>gH λh9=>ifK (chk ((ld1 af) h9) ag&&(chk ((ld1 aa) h9) ae&&(true))) (bL aa λaj=>ifK (chk ((ld1 aa) h8) aj&&(true)) (bQF 1 aj λak=>bF 5 ak λal=>bL al λam=>ifK (chk ((ld1 al) h8) am&&(true)) (bC O 92 [ag,ai,am] λan=>bN an λao=>L (aO prog O L O0) (O8 O L) (aG 1 (aa::some (.N)::ab::some (.func (.func 89) #[] #[ab,aa])::aG 16 (an::ao::some (.I 0)::aG 34 [])))))):=by kernel_rfl
theorem aNf:aR prog O L 55 [N,P,Q]=bC O 96 [N,P,Q] λaa=>bX 0 aa λab=>bX 1 aa λac=>bM (aZ 149 [(.pointer none),(.pointer none)] .fix) λad=>bM (stN 2 ad ab) λae=>bFL 0 ad λaf=>aM (aK [af]):=by kernel_rfl
theorem aNm:aR prog O L 64 [N]=bQF 0 N λaa=>bFL 0 aa λab=>aM (aK [ab]):=by kernel_rfl
theorem zP:aR prog O L 66 [N,P,Q]=bM (aZ 3 (Value.cells P).toList .fix) λaa=>aW 13 N λab=>bM (slc prog 3 ab (some (.I 1)) none none) λac=>bC O 101 [ac,(.func (.func 102) #[] #[aa])] λad=>bB prog .add 3 ad (.I 1) λae=>bB prog .eql 3 ae (.I 0) λaf=>aN af (aM (aK [(.int .u16 1)])) (bC O 99 [Q] λag=>bX 0 ag λah=>bX 1 ag λai=>bM (aZ 157 [(.int .u8 0),(.int .u8 0),(.int .u16 0),(.int .u8 0),(.int .u8 0),(.int .u32 0)] .fix) λaj=>bM (stN 6 aj ah) λak=>bB prog .neq 59 ai (.int .u16 0) λal=>aN al (aM (aK [ai])) (bFL 1 aj λam=>bM (cK prog 5 3 am) λan=>bC O 96 [N,ae,an] λao=>bX 0 ao λap=>bX 1 ao λaq=>bM (aZ 149 [(.pointer none),(.pointer none)] .fix) λar=>bM (stN 2 ar ap) λau=>bO (un prog .not aq) λav=>aN av (aM (aK [(.int .u16 30)])) (bFL 0 aj λaw=>bB prog .eql 5 aw (.int .u8 2) λax=>aN ax (bFL 0 ar λay=>bFL 2 aj λaz=>bC O 103 [ay,az] λba=>aM (aK [(.int .u16 0)])) (bFL 0 aj λbb=>bB prog .eql 5 bb (.int .u8 3) λbc=>aN bc (bFL 1 ar λbd=>bFL 2 aj λbe=>bC O 104 [bd,be] λbf=>aM (aK [(.int .u16 0)])) (bM (ldN 2 ar) λbg=>bM (ldN 6 aj) λbh=>bC O 105 [N,ae,bg,bh] λbi=>aM (aK [bi])))))):=by kernel_rfl
theorem aNh:aR prog O L 58 [N]=bQF 0 N λaa=>bM (ldN 2 aa) λab=>bC O 98 [ab] λac=>aM (aK [ac]):=by kernel_rfl
theorem aNc:aR prog O L 50 [N]=aW 3 N λaa=>bC O 88 [aa] λab=>aM (aK [ab]):=by kernel_rfl
theorem aNg:aR prog O L 57 [N,P,Q]=bC O 96 [N,P,Q] λaa=>bX 0 aa λab=>bX 1 aa λac=>bM (aZ 149 [(.pointer none),(.pointer none)] .fix) λad=>bM (stN 2 ad ab) λae=>bFL 1 ad λaf=>aM (aK [af]):=by kernel_rfl
theorem aNk:aR prog O L 61 [N]=aW 1 N λaa=>aM (aK [aa]):=by kernel_rfl
theorem aNp:aR prog O L 81 [N,P]=bB prog .lss 3 N (.I 1) λaa=>bG aa false (aX N) λab=>bG aa false (aP (bin prog .gtr 3 ab (.I 3))) λac=>bP aa (.bool true) ac λad=>bG ad false (aX P) λae=>bG ad false (aP (bin prog .lss 3 ae (.I 1))) λaf=>bP ad (.bool true) af λag=>bG ag false (aX P) λah=>bG ag false (aP (bin prog .gtr 3 ah (.I 8))) λai=>bP ag (.bool true) ai λaj=>aN aj (aM (aK [(.pointer none)])) (bO (bld prog 155 [(2,N),(3,P)]) λak=>bM (aZ 155 (Value.cells ak).toList .fix) λal=>aM (aK [al])):=by kernel_rfl
theorem aNq:aR prog O L 83 [N,P]=bB prog .geq 112 N (.int .u64 4611686018427387904) λaa=>bG aa false (aX P) λab=>bG aa false (aP (bin prog .lss 3 ab (.I 1))) λac=>bP aa (.bool true) ac λad=>bG ad false (aX P) λae=>bG ad false (aP (bin prog .gtr 3 ae (.I 8))) λaf=>bP ad (.bool true) af λag=>aN ag (aM (aK [(.pointer none)])) (bM (cK prog 3 112 P) λah=>bB prog .add 112 N ah λai=>bO (bld prog 170 [(0,N),(1,ai)]) λaj=>bO (bld prog 172 [(0,aj)]) λak=>bM (aZ 172 (Value.cells ak).toList .fix) λal=>aM (aK [al])):=by kernel_rfl
theorem aNr:aR prog O L 84 [N,P]=bB prog .geq 112 N (.int .u64 4611686018427387904) λaa=>bG aa false (aX P) λab=>bG aa false (aP (bin prog .lss 3 ab (.I 1))) λac=>bP aa (.bool true) ac λad=>bG ad false (aX P) λae=>bG ad false (aP (bin prog .gtr 3 ae (.I 8))) λaf=>bP ad (.bool true) af λag=>aN ag (aM (aK [(.pointer none)])) (bO (bld prog 174 [(0,N),(2,P)]) λah=>bM (aZ 174 (Value.cells ah).toList .fix) λai=>aM (aK [ai])):=by kernel_rfl
theorem aNs:aR prog O L 85 [N]=bB prog .lss 3 N (.I 1) λaa=>bG aa false (aX N) λab=>bG aa false (aP (bin prog .gtr 3 ab (.I 16))) λac=>bP aa (.bool true) ac λad=>aN ad (aM (aK [(.pointer none)])) (bM (gU 3 1 8 [(.I 0)] N N) λae=>bM (gU 3 1 8 [(.I 0)] N N) λaf=>bO (bld prog 199 [(0,ae),(1,af)]) λag=>bM (aZ 199 (Value.cells ag).toList .fix) λah=>aM (aK [ah])):=by kernel_rfl
theorem aNo:aR prog O L 69 [N]=aW 15 N λaa=>aM (aK [aa]):=by kernel_rfl
theorem O9:aR prog O L 87 [N,P]=bM (aZ 31 (Value.cells P).toList .fix) λaa=>bFL 2 aa λab=>bC O 108 [N,ab] λac=>bO (un prog .not ac) λad=>aN ad (aM (aK [(.int .u16 1)])) (bFL 2 aa λae=>bQF 0 N λaf=>bO (pD 3 1 af ae) λag=>bL ag λah=>bN ah λai=>aW 5 N λaj=>bB prog .eql 3 ai aj λak=>aN ak (aM (aK [(.int .u16 150)])) (bF 2 aa λal=>bL al λam=>bFL 2 aa λan=>bQF 0 N λao=>bO (pD 3 1 ao an) λap=>bL ap λaq=>bM (ldN 4 aa) λar=>bM (b9 31 4 1 [(.I 0),(.I 0),(.I 0),(.int .u32 0)] [(0,ar)]) λau=>bM (app 31 4 32 aq au) λav=>gH λh26=>ifK (chk ((ld1 al) h26) am&&(true)) (bQF 0 N λaw=>bO (pD 3 1 aw am) λax=>bT ax av λay=>aM (aK [(.int .u16 0)])))):=by kernel_rfl
theorem aMw:aR prog O L 108 [N,P]=bB prog .geq 3 P (.I 0) λaa=>bG aa true (aX P) λab=>bG aa true (aX N) λac=>nX aa true 4 ac λad=>bG aa true (aP (bin prog .lss 3 ab ad)) λae=>bP aa ae (.bool false) λaf=>aM (aK [af]):=by kernel_rfl
theorem aNt:aR prog O L 89 [N,P,Q,R]=bM (aZ 157 (Value.cells P).toList .fix) λaa=>bM (ldN 6 aa) λab=>bC O 90 [ab] λac=>bX 0 ac λad=>bX 1 ac λae=>bL Q λaf=>bL R λag=>aW 13 ag λah=>bI 3 ah N λai=>bFL 0 ai λaj=>bO (bld prog 104 [(0,aj),(1,ad)]) λak=>bM (b9 104 2 1 [(.I 0),(.N)] [(0,ak)]) λal=>bM (app 104 2 32 af al) λam=>bT Q am λan=>aM (aK []):=by kernel_rfl
theorem aNu:aR prog O L 90 [N]=bM (aZ 157 (Value.cells N).toList .fix) λaa=>bM (ldN 6 aa) λab=>bC O 119 [ab] λac=>bO (un prog .not ac) λad=>aN ad (aM (aK [(.N),(.int .u16 1)])) (bFL 0 aa λae=>bFL 1 aa λaf=>bM (b9 5 1 2 [(.int .u8 0)] [(0,ae),(1,af)]) λag=>bFL 2 aa λah=>bC O 120 [ag,ah] λai=>bFL 0 aa λaj=>bB prog .eql 5 aj (.int .u8 1) λak=>aN ak (bFL 3 aa λal=>bFL 4 aa λam=>bM (b9 5 1 2 [(.int .u8 0)] [(0,al),(1,am)]) λan=>gH λh19=>bM (app 5 1 1 ai an) λao=>bF 5 aa λap=>bL ap λaq=>ifK (chk ((ld1 ap) h19) aq&&(true)) (bC O 121 [ao,aq] λar=>bC O 122 [ar] λau=>bC O 120 [ar,au] λav=>aM (aK [av,(.int .u16 0)]))) (bC O 122 [ai] λaw=>bC O 120 [ai,aw] λax=>aM (aK [ax,(.int .u16 0)]))):=by kernel_rfl
def Pb:CC:=cc prog 1579021 91 [1,0,0,1,1,0,0,1,1,0,1,0,0]
def Pd:KV:=(bV 2 (cJ prog O L (cc prog 1579021 91 [1,0,0,1,1,0,0,1,1,1]) (bV 1 (cJ prog O L (cc prog 1579021 91 [1,0,0,1,1,1]) (iO 1579021 k)))))
def Gx (O:aH)(L:LV) (k:KV) (a c d n o v w:Value):MV:=bQF 1 a λaa=>bFL 3 aa λab=>bB prog .geq 3 d ab λac=>aN ac (bB prog .add 3 o (.I 1) λad=>k .normal (a::aG 1 (c::d::aG 7 (n::ad::aG 6 (v::w::aG 41 []))))) (aW 14 a λae=>bC O 123 [ae,c] λaf=>bX 0 af λag=>bX 1 af λah=>bM (aZ 31 [(.I 0),(.I 0),(.I 0),(.int .u32 0)] .fix) λai=>bM (stN 4 ai ag) λaj=>aN ah (bQF 15 a λak=>bL ak λal=>bFL 1 ai λam=>gH λh34=>bC O 125 [a,am] λan=>gH λh35=>ifK (chk ((ld1 ak) h35) al&&(true)) (bM (ldN 4 ai) λao=>ifK (chk ((ldN 4 ai) h34) ao&&(true)) (bC O 124 [al,(.I 0),an,c,ao] λap=>bB prog .add 3 o (.I 1) λaq=>k .normal (a::aG 1 (c::d::aG 7 (n::aq::aG 6 (v::w::aG 41 []))))))) (bB prog .add 3 o (.I 1) λar=>k .normal (a::aG 1 (c::d::aG 7 (n::ar::aG 6 (v::w::aG 41 []))))))
theorem aNw:Pd O L k (.exit 2) (a::aG 1 (c::d::aG 7 (n::o::aG 6 (v::w::aG 41 []))))=Gx O L k a c d n o v w:=by kernel_rfl
theorem aA3:aO prog O L Pb k (a::aG 1 (c::d::aG 7 (n::o::aG 6 (v::w::aG 41 []))))=bB prog .lss 3 w v λaa=>aN aa (aW 15 a λab=>bC O 70 [ab,(.I 0),w,c] λac=>bB prog .add 3 d ac λad=>bB prog .add 3 w (.I 1) λae=>k .normal (a::aG 1 (c::ad::aG 7 (n::o::aG 6 (v::ae::aG 41 []))))) (k (.exit 2) (a::aG 1 (c::d::aG 7 (n::o::aG 6 (v::w::aG 41 []))))):=by kernel_rfl
def Pa:CC:=cc prog 1579021 91 [1,0,0]
def Pc (O:aH)(L:LV):KV:=(bV 0 (cS prog Tryz.f91))
theorem aNv:Pc O L (.exit 0) (a::aG 1 (c::d::aG 7 (n::o::aG 6 (v::w::aG 41 []))))=aM (aK []):=by kernel_rfl
theorem aA2:aO prog O L Pa k (a::aG 1 (c::d::aG 7 (n::o::aG 6 (v::w::aG 41 []))))=bB prog .lss 3 o n λaa=>aN aa (aW 13 a λab=>bN ab λac=>L (aO prog O L Pb) (Pd O L k) (a::aG 1 (o::some (.I 0)::aG 7 (n::o::aG 6 (ac::some (.I 0)::aG 41 []))))) (k (.exit 0) (a::aG 1 (c::d::aG 7 (n::o::aG 6 (v::w::aG 41 []))))):=by kernel_rfl
theorem aNx:aR prog O L 91 [N]=bQF 1 N λaa=>bFL 2 aa λab=>L (aO prog O L Pa) (Pc O L) (N::aG 1 (some aE::some aE::aG 7 (ab::some (.I 0)::aG 6 (some aE::some aE::aG 41 [])))):=by kernel_rfl
def Pf:CC:=cc prog 1009017422763531969 92 [1,0,1,1,1,1,1,1,0,1,0,0,1,1,0,0,1,1,0,1,0,0]
def Pj:KV:=(bV 2 (cJ prog O L (cc prog 1009017422763531969 92 [1,0,1,1,1,1,1,1,0,1,0,0,1,1,0,0,1,1,1]) (bV 1 (cJ prog O L (cc prog 1009017422763531969 92 [1,0,1,1,1,1,1,1,0,1,0,0,1,1,1]) (iO 1009017422763531969 k)))))
def Ph (O:aH)(L:LV) (k:KV) (a g i l m n o zn zm zc zb za:Value):MV:=aW 1 l λaa=>bB prog .eql 23 aa o λab=>aN ab (k (.exit 0) (a::aG 5 (g::i::aG 1 (l::m::n::o::aG 33 (zn::zm::aG 9 (zc::zb::za::aG 75 [])))))) (bB prog .add 3 zm (.I 1) λac=>k .normal (a::aG 5 (g::i::aG 1 (l::m::n::o::aG 33 (zn::ac::aG 9 (zc::zb::za::aG 75 []))))))
theorem aNy:Pj O L k (.exit 2) (a::aG 5 (g::i::aG 1 (l::m::n::o::aG 33 (zn::zm::aG 9 (zc::zb::za::aG 75 [])))))=Ph O L k a g i l m n o zn zm zc zb za:=by kernel_rfl
theorem aA5:aO prog O L Pf k (a::aG 5 (g::i::aG 1 (l::m::n::o::aG 33 (zn::zm::aG 9 (zc::zb::za::aG 75 [])))))=bB prog .lss 3 za zb λaa=>aN aa (bIL 1 zc za λab=>aW 1 a λac=>bIL 1 ac za λad=>bC O 129 [ab,ad,i] λae=>bB prog .eql 3 ae (.I (-1)) λaf=>aN af (bB prog .add 3 za (.I 1) λag=>k .normal (a::aG 5 (g::i::aG 1 (l::m::n::o::aG 33 (zn::zm::aG 9 (zc::zb::ag::aG 75 [])))))) (aW 0 l λah=>bI 1 ah za λai=>bT ai ae λaj=>aW 1 l λak=>bB prog .shl 23 (.int .u16 1) za λal=>bB prog .andNot 23 ak al λam=>bQF 1 l λan=>bT an am λao=>aW 2 l λap=>bB prog .shl 23 (.int .u16 1) ae λaq=>bB prog .andNot 23 ap aq λar=>bQF 2 l λau=>bT au ar λav=>bB prog .eql 3 n (.I 0) λaw=>aN aw (aW 0 a λax=>aW 1 a λay=>bB prog .add 3 za (.I 1) λaz=>bB prog .rem 3 az i λba=>bB prog .add 3 ae (.I 1) λbb=>bB prog .rem 3 bb i λbc=>bI 1 ax ae λbd=>bT bd ba λbe=>bI 1 ay za λbf=>bT bf bc λbg=>bB prog .add 3 za (.I 1) λbh=>k .normal (a::aG 5 (g::i::aG 1 (l::m::n::o::aG 33 (zn::zm::aG 9 (zc::zb::bh::aG 75 [])))))) (bB prog .add 3 za (.I 1) λbi=>k .normal (a::aG 5 (g::i::aG 1 (l::m::n::o::aG 33 (zn::zm::aG 9 (zc::zb::bi::aG 75 [])))))))) (k (.exit 2) (a::aG 5 (g::i::aG 1 (l::m::n::o::aG 33 (zn::zm::aG 9 (zc::zb::za::aG 75 [])))))):=by kernel_rfl
def Pe:CC:=cc prog 1009017422763531969 92 [1,0,1,1,1,1,1,1,0,1,0,0]
def Pi:KV:=(bV 0 (cJ prog O L (cc prog 1009017422763531969 92 [1,0,1,1,1,1,1,1,1]) (cS prog Tryz.f92)))
def Pg (O:aH)(L:LV) (a g i l m n o zn zm zc zb za:Value):MV:=aW 0 l λaa=>aM (aK [aa])
theorem aA6:Pi O L (.exit 0) (a::aG 5 (g::i::aG 1 (l::m::n::o::aG 33 (zn::zm::aG 9 (zc::zb::za::aG 75 [])))))=Pg O L a g i l m n o zn zm zc zb za:=by kernel_rfl
theorem aA4:aO prog O L Pe k (a::aG 5 (g::i::aG 1 (l::m::n::o::aG 33 (zn::zm::aG 9 (zc::zb::za::aG 75 [])))))=bB prog .lss 3 zm zn λaa=>aN aa (aW 1 l λab=>bC O 128 [a,l,m] λac=>bN ac λad=>L (aO prog O L Pf) (Pj O L k) (a::aG 5 (g::i::aG 1 (l::m::zm::ab::aG 33 (zn::zm::aG 9 (ac::ad::some (.I 0)::aG 75 [])))))) (k (.exit 0) (a::aG 5 (g::i::aG 1 (l::m::n::o::aG 33 (zn::zm::aG 9 (zc::zb::za::aG 75 [])))))):=by kernel_rfl
theorem aNz:aR prog O L 92 [N,P,Q]=aW 0 N λaa=>bN aa λab=>bN P λac=>bB prog .neq 3 ac ab λad=>bG ad false (aX Q) λae=>bG ad false (aP (bin prog .lss 3 ae (.I 1))) λaf=>bP ad (.bool true) af λag=>bG ag false (aX Q) λah=>bG ag false (aP (bin prog .gtr 3 ah (.I 16))) λai=>bP ag (.bool true) ai λaj=>aN aj (aM (aK [(.N)])) (bB prog .shl 23 (.int .u16 1) ab λak=>bB prog .sub 23 ak (.int .u16 1) λal=>bM (b9 3 1 1 [(.I 0)] [(0,(.I (-1)))]) λam=>bC O 126 [am,ab] λan=>bO (bld prog 210 [(0,an),(1,al),(2,al)]) λao=>bM (aZ 210 (Value.cells ao).toList .fix) λap=>bC O 127 [P,ab] λaq=>L (aO prog O L Pe) (Pi O L) (N::aG 5 (some (.N)::ab::aG 1 (ap::aq::some aE::some aE::aG 33 (Q::some (.I 0)::aG 9 (some aE::some aE::some aE::aG 75 [])))))):=by kernel_rfl
def Pm:CC:=cc prog 50528285 93 [1,1,0,1,0,0,1,1,0,0,1,1,0,0]
def Pp:KV:=(bV 2 (bV 1 (cJ prog O L (cc prog 50528285 93 [1,1,0,1,0,0,1,1,1]) (iO 50528285 k))))
def Pn (O:aH)(L:LV) (k:KV) (a c d e s t A B:Value):MV:=bB prog .add 3 t (.I 1) λaa=>k .normal (a::aG 1 (c::d::e::aG 11 (s::aa::aG 6 (A::B::aG 18 []))))
theorem aNB:Pp O L k (.exit 2) (a::aG 1 (c::d::e::aG 11 (s::t::aG 6 (A::B::aG 18 []))))=Pn O L k a c d e s t A B:=by kernel_rfl
theorem aA8:aO prog O L Pm k (a::aG 1 (c::d::e::aG 11 (s::t::aG 6 (A::B::aG 18 []))))=bB prog .lss 3 B A λaa=>aN aa (bC O 130 [a,e,B] λab=>bB prog .neq 23 ab (.int .u16 0) λac=>aN ac (bIL 1 d e λad=>bB prog .shl 23 (.int .u16 1) B λae=>bB prog .or 23 ad ae λaf=>bI 1 d e λag=>bT ag af λah=>bB prog .add 3 B (.I 1) λai=>k .normal (a::aG 1 (c::d::e::aG 11 (s::t::aG 6 (A::ai::aG 18 []))))) (bB prog .add 3 B (.I 1) λaj=>k .normal (a::aG 1 (c::d::e::aG 11 (s::t::aG 6 (A::aj::aG 18 [])))))) (k (.exit 2) (a::aG 1 (c::d::e::aG 11 (s::t::aG 6 (A::B::aG 18 []))))):=by kernel_rfl
def Pk:CC:=cc prog 50528285 93 [1,1,0,1,0,0]
def Po:KV:=(bV 0 (cJ prog O L (cc prog 50528285 93 [1,1,1]) (cS prog Tryz.f93)))
theorem aNA:Po O L (.exit 0) (a::aG 1 (c::d::e::aG 11 (s::t::aG 6 (A::B::aG 18 []))))=aM (aK [d]):=by kernel_rfl
theorem aA7:aO prog O L Pk k (a::aG 1 (c::d::e::aG 11 (s::t::aG 6 (A::B::aG 18 []))))=bB prog .lss 3 t s λaa=>aN aa (aW 13 a λab=>bN ab λac=>L (aO prog O L Pm) (Pp O L k) (a::aG 1 (c::d::t::aG 11 (s::t::aG 6 (ac::some (.I 0)::aG 18 []))))) (k (.exit 0) (a::aG 1 (c::d::e::aG 11 (s::t::aG 6 (A::B::aG 18 []))))):=by kernel_rfl
theorem aNC:aR prog O L 93 [N]=aW 13 N λaa=>bN aa λab=>bM (gU 23 1 2 [(.int .u16 0)] ab ab) λac=>aW 13 N λad=>bN ad λae=>L (aO prog O L Pk) (Po O L) (N::aG 1 (some (.N)::ac::some aE::aG 11 (ae::some (.I 0)::aG 6 (some aE::some aE::aG 18 [])))):=by kernel_rfl
theorem Pr:aR prog O L 94 [N,P,Q,R]=bQF 13 N λaa=>bL aa λab=>bI 3 ab Q λac=>bF 2 ac λad=>bL ad λae=>bC O 130 [N,P,Q] λaf=>gH λh6=>ifK (chk ((ld1 ad) h6) ae&&(chk ((ld1 aa) h6) ab&&(true))) (bC O 131 [ae,af] λag=>bB prog .lss 3 ag (.I 0) λah=>aN ah (aM (aK [])) (aW 15 N λai=>bC O 132 [ai,P,Q,ag] λaj=>bX 0 aj λak=>bX 1 aj λal=>bM (aZ 31 [(.I 0),(.I 0),(.I 0),(.int .u32 0)] .fix) λam=>bM (stN 4 am ak) λan=>bB prog .gtr 3 P (.I 0) λao=>aN ao (aW 13 N λap=>bI 3 ap P λaq=>bFL 1 aq λar=>bI 2 ar ag λau=>bFL 1 au λav=>bC O 133 [av] λaw=>bB prog .eql 3 Q (.I 0) λax=>aN ax (aW 14 N λay=>bM (ldN 4 am) λaz=>bC O 134 [ay,az] λba=>aM (aK [])) (aW 13 N λbb=>bI 3 bb Q λbc=>bFL 1 bc λbd=>bI 2 bd ag λbe=>bFL 0 be λbf=>bC O 135 [bf] λbg=>bX 0 bg λbh=>bX 1 bg λbi=>bM (cK prog 3 5 ag) λbj=>bM (cK prog 112 23 bh) λbk=>bFL 0 am λbl=>bM (cK prog 3 5 bl) λbm=>bFL 1 am λbn=>bM (cK prog 3 5 bn) λbo=>bFL 3 am λbp=>bO (bld prog 157 [(0,(.int .u8 1)),(1,bj),(2,bk),(3,bm),(4,bo),(5,bp)]) λbq=>bM (kQ O R [Q,bq]) λbr=>aM (aK []))) (bB prog .eql 3 Q (.I 0) λbs=>aN bs (aW 14 N λbt=>bM (ldN 4 am) λbu=>bC O 134 [bt,bu] λbv=>aM (aK [])) (aW 13 N λbw=>bI 3 bw Q λbx=>bFL 1 bx λbz=>bI 2 bz ag λca=>bFL 0 ca λcb=>bC O 135 [cb] λcd=>bX 0 cd λce=>bX 1 cd λcf=>bM (cK prog 3 5 ag) λcg=>bM (cK prog 112 23 ce) λch=>bFL 0 am λci=>bM (cK prog 3 5 ci) λcj=>bFL 1 am λck=>bM (cK prog 3 5 ck) λcl=>bFL 3 am λcm=>bO (bld prog 157 [(0,(.int .u8 1)),(1,cg),(2,ch),(3,cj),(4,cl),(5,cm)]) λcn=>bM (kQ O R [Q,cn]) λco=>aM (aK []))))):=by kernel_rfl
def Pu:CC:=cc prog 3684370 95 [1,0,0,1,1,0,0,1,1,0,0]
def Pw:KV:=(bV 2 (bV 1 (cJ prog O L (cc prog 3684370 95 [1,0,0,1,1,1]) (iO 3684370 k))))
def Gy (O:aH)(L:LV) (k:KV) (b e n o p v w x:Value):MV:=bB prog .add 3 p (.I 1) λaa=>k .normal (aG 1 (b::aG 2 (e::aG 6 (n::o::aa::aG 5 (v::w::x::aG 26 [])))))
theorem aBa:Pw O L k (.exit 2) (aG 1 (b::aG 2 (e::aG 6 (n::o::p::aG 5 (v::w::x::aG 26 [])))))=Gy O L k b e n o p v w x:=by kernel_rfl
theorem Ps:aO prog O L Pu k (aG 1 (b::aG 2 (e::aG 6 (n::o::p::aG 5 (v::w::x::aG 26 [])))))=bB prog .lss 3 x w λaa=>aN aa (bI 2 v x λab=>bM (ldN 2 ab) λac=>bM (aZ 149 [(.pointer none),(.pointer none)] .fix) λad=>bM (stN 2 ad ac) λae=>bM (cK prog 3 5 x) λaf=>bFL 0 ad λag=>bC O 64 [ag] λah=>bM (cK prog 112 23 ah) λai=>bO (bld prog 157 [(0,(.int .u8 3)),(1,af),(2,ai)]) λaj=>bM (kQ O b [e,aj]) λak=>bM (cK prog 3 5 x) λal=>bFL 1 ad λam=>bC O 59 [am] λan=>bM (cK prog 112 23 an) λao=>bO (bld prog 157 [(0,(.int .u8 2)),(1,al),(2,ao)]) λap=>bM (kQ O b [e,ap]) λaq=>bB prog .add 3 x (.I 1) λar=>k .normal (aG 1 (b::aG 2 (e::aG 6 (n::o::p::aG 5 (v::w::ar::aG 26 [])))))) (k (.exit 2) (aG 1 (b::aG 2 (e::aG 6 (n::o::p::aG 5 (v::w::x::aG 26 [])))))):=by kernel_rfl
def Pt:CC:=cc prog 3684370 95 [1,0,0]
def Pv (O:aH)(L:LV):KV:=(bV 0 (cS prog Tryz.f95))
theorem aND:Pv O L (.exit 0) (aG 1 (b::aG 2 (e::aG 6 (n::o::p::aG 5 (v::w::x::aG 26 [])))))=aM (aK []):=by kernel_rfl
theorem aA9:aO prog O L Pt k (aG 1 (b::aG 2 (e::aG 6 (n::o::p::aG 5 (v::w::x::aG 26 [])))))=bB prog .lss 3 p o λaa=>aN aa (bI 3 n p λab=>bM (ldN 3 ab) λac=>bM (aZ 145 [(.I 0),(.N),(.pointer none)] .fix) λad=>bM (stN 3 ad ac) λae=>bFL 1 ad λaf=>bN af λag=>L (aO prog O L Pu) (Pw O L k) (aG 1 (b::aG 2 (p::aG 6 (n::o::p::aG 5 (af::ag::some (.I 0)::aG 26 [])))))) (k (.exit 0) (aG 1 (b::aG 2 (e::aG 6 (n::o::p::aG 5 (v::w::x::aG 26 [])))))):=by kernel_rfl
theorem aNE:aR prog O L 95 [N,P]=aW 13 N λaa=>bN aa λab=>L (aO prog O L Pt) (Pv O L) (aG 1 (P::aG 2 (some aE::aG 6 (aa::ab::some (.I 0)::aG 5 (some aE::some aE::some aE::aG 26 []))))):=by kernel_rfl
theorem aBb:aR prog O L 96 [N,P,Q]=bM (aZ 149 [(.pointer none),(.pointer none)] .fix) λaa=>bB prog .lss 3 P (.I 1) λab=>bG ab false (aX P) λac=>bG ab false (aX N) λad=>nX ab false 13 ad λae=>bG ab false (aP (cX ae)) λaf=>bG ab false (aP (bin prog .geq 3 ac af)) λag=>bP ab (.bool true) ag λah=>bG ah false (aX Q) λai=>bG ah false (aP (bin prog .lss 3 ai (.I 0))) λaj=>bP ah (.bool true) aj λak=>bG ak false (aX Q) λal=>bG ak false (aX N) λam=>bG ak false (aP (nC am)) λan=>bG ak false (aP (mJ 1 an)) λao=>gFL ak false 2 ao λap=>bG ak false (aP (bin prog .geq 3 al ap)) λaq=>bP ak (.bool true) aq λar=>aN ar (bO (bld prog 149 []) λau=>bM (stN 2 aa au) λav=>bR (ldN 2 aa) λw23=>aM (aK [w23,(.bool false)])) (aW 13 N λaw=>bI 3 aw P λax=>bFL 1 ax λay=>bI 2 ay Q λaz=>bM (ldN 2 az) λba=>bM (stN 2 aa ba) λbb=>bR (ldN 2 aa) λw33=>aM (aK [w33,(.bool true)])):=by kernel_rfl
def N9:CC:=cc prog 403 101 [1,0,1,0,0]
def Gv:KV:=(bV 0 (cJ prog O L (cc prog 403 101 [1,1]) (cS prog Tryz.f101)))
theorem aMq:Gv O L (.exit 0) (a::b::aG 2 (e::aG 2 (i::j::aG 10 [])))=aM (aK [(.I (-1))]):=by kernel_rfl
theorem aMs:Gv O L .ret (a::b::aG 2 (e::aG 2 (i::j::aG 10 [])))=aM (aK [e]):=by kernel_rfl
theorem aAP:aO prog O L N9 k (a::b::aG 2 (e::aG 2 (i::j::aG 10 [])))=bB prog .lss 3 j i λaa=>aN aa (bI 3 a j λab=>bM (ldN 3 ab) λac=>bM (kQ O b [ac]) λad=>aN ad (k .ret (a::b::aG 2 (j::aG 2 (i::j::aG 10 [])))) (bB prog .add 3 j (.I 1) λae=>k .normal (a::b::aG 2 (e::aG 2 (i::ae::aG 10 []))))) (k (.exit 0) (a::b::aG 2 (e::aG 2 (i::j::aG 10 [])))):=by kernel_rfl
theorem aMr:aR prog O L 101 [N,P]=bN N λaa=>L (aO prog O L N9) (Gv O L) (N::P::aG 2 (some (.I 0)::aG 2 (aa::some (.I 0)::aG 10 []))):=by kernel_rfl
theorem aMt:aR prog O L 102 [N,P]=bM (aZ 145 (Value.cells N).toList .fix) λaa=>bFL 0 aa λab=>bL P λac=>bB prog .eql 3 ab ac λad=>aM (aK [ad]):=by kernel_rfl
theorem aBc:aR prog O L 99 [N]=bM (aZ 157 [(.int .u8 0),(.int .u8 0),(.int .u16 0),(.int .u8 0),(.int .u8 0),(.int .u32 0)] .fix) λaa=>bM (aZ 157 [(.int .u8 0),(.int .u8 0),(.int .u16 0),(.int .u8 0),(.int .u8 0),(.int .u32 0)] .fix) λab=>bN N λac=>bB prog .neq 3 ac (.I 6) λad=>bG ad true (aX N) λae=>bG ad true (aP (cX ae)) λaf=>bG ad true (aP (bin prog .neq 3 af (.I 12))) λag=>bP ad ag (.bool false) λah=>aN ah (bM (ldN 6 ab) λai=>bM (stN 6 aa ai) λaj=>bR (ldN 6 aa) λw10=>aM (aK [w10,(.int .u16 30)])) (bN N λak=>bB prog .sub 3 ak (.I 2) λal=>bN N λam=>bB prog .sub 3 am (.I 2) λan=>bM (slc prog 1 N none (some al) (some an)) λao=>gH λh15=>bC O 122 [ao] λap=>bM (cK prog 23 29 ap) λaq=>bN N λar=>bB prog .sub 3 ar (.I 2) λau=>bM (slc prog 1 N (some au) none none) λav=>ifK (chk ((slc prog 1 N (some au) none none) h15) av&&(true)) (bC O 136 [av] λaw=>bB prog .neq 29 aq aw λax=>aN ax (bM (ldN 6 ab) λay=>bM (stN 6 aa ay) λaz=>bR (ldN 6 aa) λw25=>aM (aK [w25,(.int .u16 30)])) (bIL 1 N (.I 0) λba=>bB prog .eql 5 ba (.int .u8 1) λbb=>bN N λbc=>bB prog .eql 3 bc (.I 12) λbd=>bB prog .neq 4 bb bd λbe=>aN be (bM (ldN 6 ab) λbf=>bM (stN 6 aa bf) λbg=>bR (ldN 6 aa) λw34=>aM (aK [w34,(.int .u16 30)])) (bI 1 N (.I 0) λbh=>bL bh λbi=>bI 1 N (.I 1) λbj=>bL bj λbk=>bM (slc prog 1 N (some (.I 2)) (some (.I 4)) none) λbl=>bC O 136 [bl] λbm=>gH λh40=>ifK (chk ((ld1 bj) h40) bk&&(chk ((ld1 bh) h40) bi&&(true))) (bM (cK prog 29 23 bm) λbn=>bO (bld prog 157 [(0,bi),(1,bk),(2,bn)]) λbo=>bM (stN 6 ab bo) λbp=>bN N λbq=>bB prog .eql 3 bq (.I 12) λbr=>aN br (bI 1 N (.I 4) λbs=>bL bs λbt=>bI 1 N (.I 5) λbu=>bL bu λbv=>bM (slc prog 1 N (some (.I 6)) (some (.I 10)) none) λbw=>bC O 136 [bw] λbx=>gH λh51=>ifK (chk ((ld1 bu) h51) bv&&(chk ((ld1 bs) h51) bt&&(true))) (bF 3 ab λbz=>bT bz bt λca=>gH λh53=>ifK (chk ((ld1 bu) h53) bv&&(true)) (bF 4 ab λcb=>bT cb bv λcd=>bF 5 ab λce=>bT ce bx λcf=>bM (ldN 6 ab) λcg=>bC O 119 [cg] λch=>bO (un prog .not ch) λci=>aN ci (bO (bld prog 157 []) λcj=>bM (stN 6 aa cj) λck=>bR (ldN 6 aa) λw63=>aM (aK [w63,(.int .u16 30)])) (bM (ldN 6 ab) λcl=>bM (stN 6 aa cl) λcm=>bR (ldN 6 aa) λw66=>aM (aK [w66,(.int .u16 0)]))))) (bM (ldN 6 ab) λcn=>bC O 119 [cn] λco=>bO (un prog .not co) λcp=>aN cp (bO (bld prog 157 []) λcq=>bM (stN 6 aa cq) λcr=>bR (ldN 6 aa) λw72=>aM (aK [w72,(.int .u16 30)])) (bM (ldN 6 ab) λcs=>bM (stN 6 aa cs) λct=>bR (ldN 6 aa) λw75=>aM (aK [w75,(.int .u16 0)])))))))):=by kernel_rfl
theorem aMu:aR prog O L 103 [N,P]=bQF 0 N λaa=>bFL 1 aa λab=>bC O 100 [ab,P] λac=>bQF 0 N λad=>bFL 1 ad λae=>bB prog .leq 112 ac ae λaf=>bG af false (aX ac) λag=>bG af false (aX N) λah=>bG af false (aP (nC ah)) λai=>bG af false (aP (mJ 0 ai)) λaj=>gFL af false 0 aj λak=>bG af false (aP (bin prog .add 112 ak (.int .u64 8))) λal=>bG af false (aP (bin prog .gtr 112 ag al)) λam=>bP af (.bool true) am λan=>aN an (aM (aK [(.bool false)])) (bQF 0 N λao=>bF 1 ao λap=>bT ap ac λaq=>aM (aK [(.bool true)])):=by kernel_rfl
theorem aMv:aR prog O L 104 [N,P]=bC O 138 [N,P] λaa=>bX 0 aa λab=>bX 1 aa λac=>bX 2 aa λad=>bO (un prog .not ad) λae=>bG ae false (aX ac) λaf=>bG ae false (aP (bin prog .eql 112 af (.int .u64 0))) λag=>bP ae (.bool true) ag λah=>bG ah false (aX ac) λai=>bG ah false (aX N) λaj=>nX ah false 2 aj λak=>bG ah false (aX N) λal=>nX ah false 1 al λam=>bG ah false (aP (bin prog .sub 3 ak am)) λan=>bG ah false (cK prog 3 112 an) λao=>bG ah false (aP (bin prog .gtr 112 ai ao)) λap=>bP ah (.bool true) ap λaq=>aN aq (aM (aK [(.bool false)])) (bQF 0 N λar=>bT ar ab λau=>aM (aK [(.bool true)])):=by kernel_rfl
theorem Oa:aR prog O L 105 [N,P,Q,R]=bM (aZ 149 (Value.cells Q).toList .fix) λaa=>bM (aZ 157 (Value.cells R).toList .fix) λab=>bFL 3 ab λac=>bFL 4 ab λad=>bO (gJ prog true [ac,ad]) λae=>bM (cK prog 5 3 ae) λaf=>bQF 1 N λag=>bFL 0 ag λah=>bB prog .geq 3 af ah λai=>aN ai (aM (aK [(.int .u16 30)])) (bFL 1 aa λaj=>bFL 2 ab λak=>bC O 139 [aj,ak] λal=>bB prog .neq 59 al (.int .u16 0) λam=>aN am (aM (aK [al])) (bFL 3 ab λan=>bM (cK prog 5 3 an) λao=>bFL 4 ab λap=>bM (cK prog 5 3 ap) λaq=>bFL 1 ab λar=>bM (cK prog 5 3 ar) λau=>bFL 5 ab λav=>bO (bld prog 31 [(0,ao),(1,aq),(2,au),(3,av)]) λaw=>bM (aZ 31 [(.I 0),(.I 0),(.I 0),(.int .u32 0)] .fix) λax=>bM (stN 4 ax aw) λay=>bQF 15 N λaz=>bL az λba=>bFL 1 ax λbb=>gH λh37=>bC O 125 [N,bb] λbc=>gH λh38=>ifK (chk ((ld1 az) h38) ba&&(true)) (bF 2 ax λbd=>bL bd λbe=>ifK (chk ((ld1 bd) h37) be&&(true)) (bM (ldN 4 ax) λbf=>ifK (chk ((ldN 4 ax) h37) bf&&(true)) (bC O 124 [ba,P,bc,be,bf] λbg=>aM (aK [(.int .u16 0)])))))):=by kernel_rfl
theorem aNF:aR prog O L 98 [N]=bM (aZ 170 (Value.cells N).toList .fix) λaa=>bFL 1 aa λab=>bFL 0 aa λac=>bB prog .sub 112 ab ac λad=>bM (cK prog 112 3 ad) λae=>aM (aK [ae]):=by kernel_rfl
theorem aA1:aR prog O L 88 [N]=bB prog .eql 42 N (.N) λaa=>aN aa (aM (aK [(.N)])) (bM (b9 31 4 0 [(.I 0),(.I 0),(.I 0),(.int .u32 0)] []) λab=>bM (app 31 4 32 ab N) λac=>aM (aK [ac])):=by kernel_rfl
theorem aNj:aR prog O L 60 [N]=bQF 0 N λaa=>bFL 1 aa λab=>aM (aK [ab]):=by kernel_rfl
theorem aNl:aR prog O L 63 [N]=aW 0 N λaa=>aM (aK [aa]):=by kernel_rfl
theorem aNi:aR prog O L 59 [N]=aW 0 N λaa=>aW 2 N λab=>aW 1 N λac=>bB prog .sub 3 ab ac λad=>bM (cK prog 3 112 ad) λae=>bB prog .add 112 aa ae λaf=>aM (aK [af]):=by kernel_rfl
theorem aMx:aR prog O L 119 [N]=bM (aZ 157 (Value.cells N).toList .fix) λaa=>bFL 0 aa λab=>bB prog .eql 5 ab (.int .u8 1) λac=>aN ac (bFL 1 aa λad=>bB prog .lss 5 ad (.int .u8 3) λae=>gFL ae true 3 aa λaf=>gFL ae true 4 aa λag=>bG ae true (aP (gJ prog true [af,ag])) λah=>bG ae true (aP (bin prog .lss 5 ah (.int .u8 6))) λai=>bP ae ai (.bool false) λaj=>gFL aj true 3 aa λak=>gFL aj true 4 aa λal=>bG aj true (aP (bin prog .neq 5 ak al)) λam=>bP aj am (.bool false) λan=>aM (aK [an])) (bB prog .eql 5 ab (.int .u8 2) λao=>aN ao (aN ao (bFL 1 aa λap=>bB prog .lss 5 ap (.int .u8 3) λaq=>bG aq true (ldN 6 aa) λar=>gFL aq true 0 aa λau=>gFL aq true 1 aa λav=>gFL aq true 2 aa λaw=>bG aq true (aP (bld prog 157 [(0,au),(1,av),(2,aw)])) λax=>bG aq true (aP (bin prog .eql 157 ar ax)) λay=>bP aq ay (.bool false) λaz=>aM (aK [az])) (aM (aK [(.bool false)]))) (bB prog .eql 5 ab (.int .u8 3) λba=>aN ba (bFL 1 aa λbb=>bB prog .lss 5 bb (.int .u8 3) λbc=>bG bc true (ldN 6 aa) λbd=>gFL bc true 0 aa λbe=>gFL bc true 1 aa λbf=>gFL bc true 2 aa λbg=>bG bc true (aP (bld prog 157 [(0,be),(1,bf),(2,bg)])) λbh=>bG bc true (aP (bin prog .eql 157 bd bh)) λbi=>bP bc bi (.bool false) λbj=>aM (aK [bj])) (aM (aK [(.bool false)])))):=by kernel_rfl
theorem aMy:aR prog O L 120 [N,P]=bB prog .shr 23 P (.int .u64 8) λaa=>bM (cK prog 23 5 aa) λab=>bM (cK prog 23 5 P) λac=>bM (b9 5 1 2 [(.int .u8 0)] [(0,ab),(1,ac)]) λad=>bM (app 5 1 1 N ad) λae=>aM (aK [ae]):=by kernel_rfl
theorem aMz:aR prog O L 121 [N,P]=bB prog .shr 29 P (.int .u64 16) λaa=>bM (cK prog 29 23 aa) λab=>bC O 120 [N,ab] λac=>bM (cK prog 29 23 P) λad=>bC O 120 [ac,ad] λae=>aM (aK [ae]):=by kernel_rfl
def Ob:CC:=cc prog 460 122 [1,1,0,1,0,0]
def Oc:KV:=(bV 0 (cJ prog O L (cc prog 460 122 [1,1,1]) (cS prog Tryz.f122)))
theorem aMA:Oc O L (.exit 0) (aG 2 (c::d::aG 2 (g::i::j::aG 7 [])))=bL d λaa=>aM (aK [aa]):=by kernel_rfl
theorem aAQ:aO prog O L Ob k (aG 2 (c::d::aG 2 (g::i::j::aG 7 [])))=bB prog .lss 3 j i λaa=>aN aa (bIL 1 g j λab=>bC O 146 [d,ab] λac=>bB prog .add 3 j (.I 1) λad=>k .normal (aG 2 (c::d::aG 2 (g::i::ad::aG 7 [])))) (k (.exit 0) (aG 2 (c::d::aG 2 (g::i::j::aG 7 [])))):=by kernel_rfl
theorem aMB:aR prog O L 122 [N]=bM (aZ 238 [(.int .u16 0)] .fix) λaa=>bT aa (.int .u16 65535) λab=>bN N λac=>L (aO prog O L Ob) (Oc O L) (aG 2 (some (.int .u16 0)::aa::aG 2 (N::ac::some (.I 0)::aG 7 []))):=by kernel_rfl
theorem aAR:aR prog O L 123 [N,P]=bM (aZ 31 [(.I 0),(.I 0),(.I 0),(.int .u32 0)] .fix) λaa=>bC O 68 [N,P] λab=>bB prog .eql 3 ab (.I 0) λac=>aN ac (bO (bld prog 31 []) λad=>bM (stN 4 aa ad) λae=>bR (ldN 4 aa) λw5=>aM (aK [w5,(.bool false)])) (bQF 0 N λaf=>bO (pD 3 1 af P) λag=>bL ag λah=>bI 4 ah (.I 0) λai=>bM (ldN 4 ai) λaj=>bM (aZ 31 [(.I 0),(.I 0),(.I 0),(.int .u32 0)] .fix) λak=>bM (stN 4 ak aj) λal=>bQF 0 N λam=>bO (pD 3 1 am P) λan=>bL an λao=>bM (slc prog 4 ao (some (.I 1)) none none) λap=>bQF 0 N λaq=>bO (pD 3 1 aq P) λar=>bT ar ap λau=>bM (ldN 4 ak) λav=>bM (stN 4 aa av) λaw=>bR (ldN 4 aa) λw25=>aM (aK [w25,(.bool true)])):=by kernel_rfl
theorem aMC:aR prog O L 125 [N,P]=aW 12 N λaa=>bB prog .eql 3 P aa λab=>aN ab (aM (aK [(.I 0)])) (bQF 1 N λac=>bFL 10 ac λad=>aW 12 N λae=>bIL 1 ad ae λaf=>bIL 1 af P λag=>bM (aZ 3 [(.I 0)] .fix) λah=>bT ah ag λai=>aW 13 N λaj=>bM (slc prog 3 aj (some (.I 1)) none none) λak=>bC O 101 [ak,(.func (.func 149) #[] #[ah])] λal=>bB prog .add 3 al (.I 1) λam=>aM (aK [am])):=by kernel_rfl
def Od:CC:=cc prog 400 126 [1,1,1,1,1,1,0,0,0]
def Oe:KV:=(bV 0 (cJ prog O L (cc prog 400 126 [1,1,1,1,1,1,1]) (cS prog Tryz.f126)))
theorem aMH:Oe O L (.exit 0) (aG 4 (e::aG 2 (i::j::aG 39 [])))=aM (aK [i]):=by kernel_rfl
theorem aMD:aO prog O L Od k (aG 4 (e::aG 2 (i::j::aG 39 [])))=bN i λaa=>bB prog .lss 3 j aa λab=>aN ab (bM (slc prog 1 i (some j) none none) λac=>bM (slc prog 1 i none (some j) none) λad=>bM (cpy 1 ac ad) λae=>bB prog .add 3 j ae λaf=>k .normal (aG 4 (e::aG 2 (i::af::aG 39 [])))) (k (.exit 0) (aG 4 (e::aG 2 (i::j::aG 39 [])))):=by kernel_rfl
def aMG:CC:=cc prog 400 126 [1,1,1,1,1,1,0,0,0]
def aML:KV:=(bV 0 (cJ prog O L (cc prog 400 126 [1,1,1,1,1,1,1]) (cS prog Tryz.f126)))
def aMF:CC:=cc prog 400 126 [1,1,1,1,1,1,0,0,0]
def aMK:KV:=(bV 0 (cJ prog O L (cc prog 400 126 [1,1,1,1,1,1,1]) (cS prog Tryz.f126)))
def aME:CC:=cc prog 400 126 [1,1,1,1,1,1,0,0,0]
def aMJ:KV:=(bV 0 (cJ prog O L (cc prog 400 126 [1,1,1,1,1,1,1]) (cS prog Tryz.f126)))
theorem aMI:aR prog O L 126 [N,P]=bB prog .lss 3 P (.I 0) λaa=>aN aa (bM (cH /- operation -/) λab=>bM (cH /- operation -/) λac=>bN N λad=>bM (cK prog 3 227 ad) λae=>bM (cK prog 3 227 P) λaf=>bC O 150 [ae,af] λag=>bX 0 ag λah=>bX 1 ag λai=>bB prog .gtr 227 ah (.int .u64 0) λaj=>bG aj false (aX ai) λak=>bG aj false (aP (bin prog .gtr 227 ak (.int .u64 9223372036854775807))) λal=>bP aj (.bool true) al λam=>aN am (bM (cH /- operation -/) λan=>bM (cH /- operation -/) λao=>bM (cK prog 227 3 ai) λap=>bM (gU 3 1 8 [(.I 0)] ap ap) λaq=>bM (cpy 1 aq N) λar=>L (aO prog O L aME) (aMJ O L) (aG 4 (some (.N)::aG 2 (aq::ar::aG 39 [])))) (bM (cK prog 227 3 ai) λau=>bM (gU 3 1 8 [(.I 0)] au au) λav=>bM (cpy 1 av N) λaw=>L (aO prog O L aMF) (aMK O L) (aG 4 (some (.N)::aG 2 (av::aw::aG 39 []))))) (bN N λax=>bM (cK prog 3 227 ax) λay=>bM (cK prog 3 227 P) λaz=>bC O 150 [ay,az] λba=>bX 0 ba λbb=>bX 1 ba λbc=>bB prog .gtr 227 bb (.int .u64 0) λbd=>bG bd false (aX bc) λbe=>bG bd false (aP (bin prog .gtr 227 be (.int .u64 9223372036854775807))) λbf=>bP bd (.bool true) bf λbg=>aN bg (bM (cH /- operation -/) λbh=>bM (cH /- operation -/) λbi=>bM (cK prog 227 3 bc) λbj=>bM (gU 3 1 8 [(.I 0)] bj bj) λbk=>bM (cpy 1 bk N) λbl=>L (aO prog O L aMG) (aML O L) (aG 4 (some (.N)::aG 2 (bk::bl::aG 39 [])))) (bM (cK prog 227 3 bc) λbm=>bM (gU 3 1 8 [(.I 0)] bm bm) λbn=>bM (cpy 1 bn N) λbo=>L (aO prog O L Od) (Oe O L) (aG 4 (some (.N)::aG 2 (bn::bo::aG 39 []))))):=by kernel_rfl
def Of:CC:=cc prog 114887 128 [1,1,0,1,0,0]
def Og:KV:=(bV 0 (cJ prog O L (cc prog 114887 128 [1,1,1]) (cS prog Tryz.f128)))
theorem aMM:Og O L (.exit 0) (a::b::c::aG 3 (g::i::aG 6 (q::r::s::aG 40 [])))=aM (aK [i]):=by kernel_rfl
theorem aAS:aO prog O L Of k (a::b::c::aG 3 (g::i::aG 6 (q::r::s::aG 40 [])))=bB prog .lss 3 s r λaa=>aN aa (bIL 1 q s λab=>aW 1 b λac=>bB prog .and 23 ab ac λad=>aW 0 a λae=>bIL 1 ae s λaf=>bN c λag=>bC O 129 [ad,af,ag] λah=>bB prog .neq 3 ah (.I (-1)) λai=>bG ai true (aX b) λaj=>nX ai true 2 aj λak=>bG ai true (aX s) λal=>gO ai true O 153 [ak,al] λam=>bP ai am (.bool false) λan=>aN an (bIL 1 i ah λao=>bB prog .shl 23 (.int .u16 1) s λap=>bB prog .or 23 ao ap λaq=>bI 1 i ah λar=>bT ar aq λau=>bB prog .add 3 s (.I 1) λav=>k .normal (a::b::c::aG 3 (g::i::aG 6 (q::r::av::aG 40 [])))) (bB prog .add 3 s (.I 1) λaw=>k .normal (a::b::c::aG 3 (g::i::aG 6 (q::r::aw::aG 40 []))))) (k (.exit 0) (a::b::c::aG 3 (g::i::aG 6 (q::r::s::aG 40 [])))):=by kernel_rfl
theorem aMN:aR prog O L 128 [N,P,Q]=bN Q λaa=>bM (gU 23 1 2 [(.int .u16 0)] aa aa) λab=>bN Q λac=>L (aO prog O L Of) (Og O L) (N::P::Q::aG 3 (some (.N)::ab::aG 6 (Q::ac::some (.I 0)::aG 40 []))):=by kernel_rfl
def Oh:CC:=cc prog 24775 130 [1,1,0,1,0,0]
def Oi:KV:=(bV 0 (cJ prog O L (cc prog 24775 130 [1,1,1]) (cS prog Tryz.f130)))
theorem aMO:Oi O L (.exit 0) (a::b::c::aG 3 (g::i::aG 5 (p::q::aG 35 [])))=aM (aK [i]):=by kernel_rfl
theorem aAT:aO prog O L Oh k (a::b::c::aG 3 (g::i::aG 5 (p::q::aG 35 [])))=bB prog .lss 3 q p λaa=>aN aa (aW 15 a λab=>bC O 70 [ab,b,c,q] λac=>bB prog .eql 3 ac (.I 0) λad=>aN ad (bB prog .add 3 q (.I 1) λae=>k .normal (a::b::c::aG 3 (g::i::aG 5 (p::ae::aG 35 [])))) (bB prog .eql 3 c (.I 0) λaf=>bG af false (aX a) λag=>nX af false 13 ag λah=>bG af false (aX c) λai=>bG af false (aP (cN 3 ah ai)) λaj=>gFL af false 1 aj λak=>bG af false (aX q) λal=>bG af false (aP (cN 2 ak al)) λam=>gFL af false 0 am λan=>gO af false O 58 [an] λao=>bG af false (aP (bin prog .gtr 3 ao (.I 0))) λap=>bP af (.bool true) ap λaq=>aN aq (bB prog .shl 23 (.int .u16 1) q λar=>bB prog .or 23 i ar λau=>bB prog .add 3 q (.I 1) λav=>k .normal (a::b::c::aG 3 (g::au::aG 5 (p::av::aG 35 [])))) (bB prog .add 3 q (.I 1) λaw=>k .normal (a::b::c::aG 3 (g::i::aG 5 (p::aw::aG 35 [])))))) (k (.exit 0) (a::b::c::aG 3 (g::i::aG 5 (p::q::aG 35 [])))):=by kernel_rfl
theorem aMP:aR prog O L 130 [N,P,Q]=bQF 1 N λaa=>bFL 2 aa λab=>L (aO prog O L Oh) (Oi O L) (N::P::Q::aG 3 (some (.int .u16 0)::some (.int .u16 0)::aG 5 (ab::some (.I 0)::aG 35 []))):=by kernel_rfl
theorem aMQ:aR prog O L 131 [N,P]=aW 0 N λaa=>bN aa λab=>bB prog .shl 23 (.int .u16 1) ab λac=>bB prog .sub 23 ac (.int .u16 1) λad=>bB prog .and 23 P ad λae=>bB prog .eql 23 ae (.int .u16 0) λaf=>aN af (aM (aK [(.I (-1))])) (bC O 154 [N] λag=>bB prog .and 23 ae ag λah=>bB prog .eql 23 ah (.int .u16 0) λai=>gH λh10=>aN ai (aW 1 N λaj=>aW 0 N λak=>bM (cpy 1 aj ak) λal=>gH λh17=>bC O 154 [N] λam=>bB prog .and 23 ae am λan=>bQF 2 N λao=>bL ao λap=>ifK (chk ((ld1 ao) h17) ap&&(true)) (bC O 129 [an,ap,ab] λaq=>aW 1 N λar=>bIL 1 ar aq λau=>bB prog .sub 3 au (.I 1) λav=>bI 1 ar aq λaw=>bT aw av λax=>bB prog .add 3 aq (.I 1) λay=>bB prog .rem 3 ay ab λaz=>bQF 2 N λba=>bT ba az λbb=>aM (aK [aq]))) (bC O 154 [N] λbc=>bB prog .and 23 ae bc λbd=>bQF 2 N λbe=>bL be λbf=>ifK (chk ((ld1 be) h10) bf&&(true)) (bC O 129 [bd,bf,ab] λbg=>aW 1 N λbh=>bIL 1 bh bg λbi=>bB prog .sub 3 bi (.I 1) λbj=>bI 1 bh bg λbk=>bT bk bj λbl=>bB prog .add 3 bg (.I 1) λbm=>bB prog .rem 3 bm ab λbn=>bQF 2 N λbo=>bT bo bn λbp=>aM (aK [bg])))):=by kernel_rfl
theorem aMR:aR prog O L 133 [N]=aW 1 N λaa=>bB prog .eql 3 aa (.I 0) λab=>aN ab (aM (aK [(.bool false)])) (aW 1 N λac=>bB prog .sub 3 ac (.I 1) λad=>bQF 1 N λae=>bT ae ad λaf=>aM (aK [(.bool true)])):=by kernel_rfl
theorem aMS:aR prog O L 134 [N,P]=bM (aZ 31 (Value.cells P).toList .fix) λaa=>aW 3 N λab=>bM (ldN 4 aa) λac=>bM (b9 31 4 1 [(.I 0),(.I 0),(.I 0),(.int .u32 0)] [(0,ac)]) λad=>bM (app 31 4 32 ab ad) λae=>bQF 3 N λaf=>bT af ae λag=>aM (aK []):=by kernel_rfl
theorem aMT:aR prog O L 135 [N]=bQF 0 N λaa=>bM (ldN 2 aa) λab=>bC O 98 [ab] λac=>bB prog .eql 3 ac (.I 0) λad=>aN ad (aM (aK [(.int .u64 0),(.bool false)])) (bQF 0 N λae=>bFL 0 ae λaf=>bQF 0 N λag=>bFL 0 ag λah=>bB prog .add 112 ah (.int .u64 1) λai=>bQF 0 N λaj=>bF 0 aj λak=>bT ak ai λal=>aM (aK [af,(.bool true)])):=by kernel_rfl
def Oj:CC:=cc prog 460 136 [1,1,0,1,0,0]
def Ol:KV:=(bV 0 (cJ prog O L (cc prog 460 136 [1,1,1]) (cS prog Tryz.f136)))
theorem aMU:Ol O L (.exit 0) (aG 2 (c::d::aG 2 (g::i::j::aG 10 [])))=aM (aK [d]):=by kernel_rfl
theorem aAU:aO prog O L Oj k (aG 2 (c::d::aG 2 (g::i::j::aG 10 [])))=bB prog .lss 3 j i λaa=>aN aa (bIL 1 g j λab=>bB prog .shl 29 d (.int .u64 8) λac=>bM (cK prog 5 29 ab) λad=>bB prog .or 29 ac ad λae=>bB prog .add 3 j (.I 1) λaf=>k .normal (aG 2 (c::ae::aG 2 (g::i::af::aG 10 [])))) (k (.exit 0) (aG 2 (c::d::aG 2 (g::i::j::aG 10 [])))):=by kernel_rfl
theorem aMV:aR prog O L 136 [N]=bN N λaa=>L (aO prog O L Oj) (Ol O L) (aG 2 (some (.int .u32 0)::some (.int .u32 0)::aG 2 (N::aa::some (.I 0)::aG 10 []))):=by kernel_rfl
theorem aMp:aR prog O L 100 [N,P]=bB prog .sub 112 N (.int .u64 32768) λaa=>bC O 137 [aa] λab=>bB prog .sub 23 P ab λac=>bM (cK prog 23 112 ac) λad=>bB prog .add 112 aa ad λae=>aM (aK [ae]):=by kernel_rfl
theorem aMX:aR prog O L 138 [N,P]=aW 0 N λaa=>bC O 100 [aa,P] λab=>aW 0 N λac=>bB prog .sub 112 ab ac λad=>aW 0 N λae=>bB prog .geq 112 ab ae λaf=>aM (aK [ab,ad,af]):=by kernel_rfl
theorem aMY:aR prog O L 139 [N,P]=bC O 138 [N,P] λaa=>bX 0 aa λab=>bX 1 aa λac=>bX 2 aa λad=>bO (un prog .not ad) λae=>aN ae (aM (aK [(.int .u16 60)])) (aW 2 N λaf=>aW 1 N λag=>bB prog .sub 3 af ag λah=>bM (cK prog 3 112 ah) λai=>bB prog .geq 112 ac ai λaj=>aN aj (aM (aK [(.int .u16 61)])) (bB prog .add 112 ab (.int .u64 1) λak=>bQF 0 N λal=>bT al ak λam=>aW 1 N λan=>bB prog .add 3 an (.I 1) λao=>bQF 1 N λap=>bT ap ao λaq=>aM (aK [(.int .u16 0)]))):=by kernel_rfl
def Om:CC:=cc prog 4097 146 [1,1,0,0]
def On (O:aH)(L:LV):KV:=(bV 0 (cS prog Tryz.f146))
theorem aMZ:On O L (.exit 0) (a::aG 11 (o::aG 4 []))=aM (aK []):=by kernel_rfl
theorem aAV:aO prog O L Om k (a::aG 11 (o::aG 4 []))=bB prog .lss 3 o (.I 8) λaa=>aN aa (bC O 169 [a] λab=>bB prog .add 3 o (.I 1) λac=>k .normal (a::aG 11 (ac::aG 4 []))) (k (.exit 0) (a::aG 11 (o::aG 4 []))):=by kernel_rfl
theorem aM0:aR prog O L 146 [N,P]=bQ N λaa=>bL aa λab=>bM (cK prog 5 238 P) λac=>bB prog .shl 238 ac (.int .u64 8) λad=>bB prog .xor 238 ab ad λae=>bQ N λaf=>bT af ae λag=>L (aO prog O L Om) (On O L) (N::aG 11 (some (.I 0)::aG 4 [])):=by kernel_rfl
theorem aM1:aR prog O L 149 [N,P]=bM (aZ 145 (Value.cells N).toList .fix) λaa=>bFL 0 aa λab=>bL P λac=>bB prog .eql 3 ab ac λad=>aM (aK [ad]):=by kernel_rfl
theorem aM3:aR prog O L 153 [N,P]=bB prog .geq 3 P (.I 0) λaa=>bG aa true (aX P) λab=>bG aa true (aP (bin prog .lss 3 ab (.I 16))) λac=>bP aa ac (.bool false) λad=>bG ad true (aX N) λae=>bG ad true (aX P) λaf=>bG ad true (aP (bin prog .shr 23 ae af)) λag=>bG ad true (aP (bin prog .and 23 ag (.int .u16 1))) λah=>bG ad true (aP (bin prog .eql 23 ah (.int .u16 1))) λai=>bP ad ai (.bool false) λaj=>aM (aK [aj]):=by kernel_rfl
def Oo:CC:=cc prog 3596 154 [1,1,0,1,0,0]
def Oq:KV:=(bV 0 (cJ prog O L (cc prog 3596 154 [1,1,1]) (cS prog Tryz.f154)))
theorem aM4:Oq O L (.exit 0) (aG 2 (c::d::aG 5 (l::m::n::aG 12 [])))=aM (aK [d]):=by kernel_rfl
theorem aAW:aO prog O L Oo k (aG 2 (c::d::aG 5 (l::m::n::aG 12 [])))=bB prog .lss 3 n m λaa=>aN aa (bIL 1 l n λab=>bB prog .gtr 3 ab (.I 0) λac=>aN ac (bB prog .shl 23 (.int .u16 1) n λad=>bB prog .or 23 d ad λae=>bB prog .add 3 n (.I 1) λaf=>k .normal (aG 2 (c::ae::aG 5 (l::m::af::aG 12 [])))) (bB prog .add 3 n (.I 1) λag=>k .normal (aG 2 (c::d::aG 5 (l::m::ag::aG 12 []))))) (k (.exit 0) (aG 2 (c::d::aG 5 (l::m::n::aG 12 [])))):=by kernel_rfl
theorem aM5:aR prog O L 154 [N]=aW 1 N λaa=>bN aa λab=>L (aO prog O L Oo) (Oq O L) (aG 2 (some (.int .u16 0)::some (.int .u16 0)::aG 5 (aa::ab::some (.I 0)::aG 12 []))):=by kernel_rfl
theorem aMW:aR prog O L 137 [N]=bM (cK prog 112 23 N) λaa=>aM (aK [aa]):=by kernel_rfl
theorem aM6:aR prog O L 169 [N]=bQ N λaa=>bL aa λab=>bB prog .and 238 ab (.int .u16 32768) λac=>bQ N λad=>bL ad λae=>bB prog .shl 238 ae (.int .u64 1) λaf=>bQ N λag=>bT ag af λah=>bB prog .neq 238 ac (.int .u16 0) λai=>aN ai (bQ N λaj=>bL aj λak=>bB prog .xor 238 ak (.int .u16 4129) λal=>bQ N λam=>bT am al λan=>aM (aK [])) (aM (aK [])):=by kernel_rfl
theorem aM2:aR prog O L 150 [N,P]=aN (.bool false) (bM (cK prog 227 29 N) λaa=>bM (cK prog 227 29 P) λab=>bC O 170 [aa,ab] λac=>bX 0 ac λad=>bX 1 ac λae=>bM (cK prog 29 227 ad) λaf=>bM (cK prog 29 227 ae) λag=>aM (aK [af,ag])) (bC O 171 [N,P] λah=>bX 0 ah λai=>bX 1 ah λaj=>aM (aK [ai,aj])):=by kernel_rfl
theorem aM7:aR prog O L 171 [N,P]=bB prog .and 112 N (.int .u64 4294967295) λaa=>bB prog .shr 112 N (.int .u64 32) λab=>bB prog .and 112 P (.int .u64 4294967295) λac=>bB prog .shr 112 P (.int .u64 32) λad=>bB prog .mul 112 aa ac λae=>bB prog .mul 112 ab ac λaf=>bB prog .shr 112 ae (.int .u64 32) λag=>bB prog .add 112 af ag λah=>bB prog .and 112 ah (.int .u64 4294967295) λai=>bB prog .shr 112 ah (.int .u64 32) λaj=>bB prog .mul 112 aa ad λak=>bB prog .add 112 ai ak λal=>bB prog .mul 112 ab ad λam=>bB prog .add 112 am aj λan=>bB prog .shr 112 al (.int .u64 32) λao=>bB prog .add 112 an ao λap=>bB prog .mul 112 N P λaq=>aM (aK [ap,aq]):=by kernel_rfl
end Go.Proofs.YtciiopkbmjppfaaGreatDoor
end
namespace Go.Abs
open M
theorem aBe: ∀(cs:List Value)(o:Nat)(v:Value),cU cs o [v]=cs.set o v
 |[],_,_=>by simp[cU]
 |c::cs,0,v=>by simp[cU]
 |c::cs,o+1,v=>by
  rw[List.set_cons_succ,<-aBe cs o v];simp[cU]
theorem bA {H:aF}{b o:Nat}{cs:List Value}{e:TypeId}{k:Kind}{v:Value}(h:H[b]? =some (.cells cs e k))(hv:cs[o]? =some v):ld1 (.pointer (some ⟨b,o,none⟩)) H=some (v,H):=by
 rw[fI,h,rV,hv,rU]
theorem mV {H:aF}{b o n:Nat}{cs:List Value}{e:TypeId}{k:Kind}(h:H[b]? =some (.cells cs e k))(hn:o+n<=cs.length):ldN n (.pointer (some ⟨b,o,none⟩)) H=some (.agg ((cs.drop o).take n).toArray,H):=by
 rw[qS,h,rW _ _ _ _ _ hn]
theorem nI {H:aF}{b o:Nat}{cs:List Value}{e:TypeId}{k:Kind}{v:Value}(h:H[b]? =some (.cells cs e k))(hk:k≠ .ro)(ho:o<cs.length)(hv:v.cells.toList=[v])(ha:cA [v]=true):
  stN 1 (.pointer (some ⟨b,o,none⟩)) v H=some (undef,H.set b (.cells (cs.set o v) e k)):=by
 rw[fV 1 b o v (by rw[hv];rfl),h,hv,iW b cs e k o [v] hk (by simp only[aUz,List.length_nil];omega) ha,aBe]
theorem qV {H:aF}{b o n:Nat}{cs vs:List Value}{e:TypeId}{k:Kind}{v:Value}(h:H[b]? =some (.cells cs e k))(hk:k≠ .ro)(hv:v.cells.toList=vs)(hn:vs.length=n)(ho:o+n<=cs.length)(ha:cA vs=true):
  stN n (.pointer (some ⟨b,o,none⟩)) v H=some (undef,H.set b (.cells (cU cs o vs) e k)):=by
 subst hv;rw[fV n b o v hn,h,iW b cs e k o _ hk (by rw[hn];exact ho) ha]
theorem hP {H:aF}{b o:Nat}{cs:List Value}{e:TypeId}{k:Kind}{q:IntKind}{n:Int}(h:H[b]? =some (.cells cs e k))(hk:k≠ .ro)(ho:o<cs.length):
  stN 1 (.pointer (some ⟨b,o,none⟩)) (.int q n) H=some (undef,H.set b (.cells (cs.set o (.int q n)) e k)):=nI h hk ho rfl rfl
theorem dN {H:aF}{b:Nat}{x y:Blk}(h:H[b]? =some x):(H.set b y)[b]? =some y:=aUj (aUd.mp h).1
theorem Px (H:aF)(b:Nat)(x y:Blk):(H.set b x).set b y=H.set b y:=by simp
theorem cG (H:aF)(x:Blk):(H++[x])[H.length]? =some x:=by simp
theorem gZ (H:aF)(x y:Blk):(H++[x]).set H.length y=H++[y]:=by simp
theorem lN {H:aF}{b:Nat}{x:Blk}(h:H[b]? =some x)(y:Blk):(H++[y])[b]? =some x:=by rw[aUg (aUd.mp h).1,h]
theorem bU {H:aF}{b:Nat}{x:Blk}(h:H[b]? =some x):b<H.length:=(aUd.mp h).1
theorem aNK (a b:Nat)(ha:a<18446744073709551616)(hb:b<18446744073709551616):IntKind.u64.wrap ((a:Int)-b)=(((a+(18446744073709551616-b))%18446744073709551616:Nat):Int):=by rw[sL];omega
theorem aNH (a b:Nat):IntKind.u64.wrap ((a:Int)+b)=(((a+b)%18446744073709551616:Nat):Int):=by rw[sL];omega
theorem aNJ (a b:Nat)(ha:a<65536)(hb:b<65536):IntKind.u16.wrap ((a:Int)-b)=(((a+65536-b)%65536:Nat):Int):=by rw[Bq];omega
theorem zQ (a:Nat)(ha:a<18446744073709551616):IntKind.u64.wrap (a:Int)=a:=aIy U U
theorem aBd (a:Nat)(ha:a<4294967296):IntKind.u32.wrap (a:Int)=a:=aGV U U
theorem Cj (a:Nat):IntKind.u16.wrap (a:Int)=((a%65536:Nat):Int):=by rw[Bq];omega
theorem aNI (a:Nat):IntKind.u8.wrap (a:Int)=((a%256:Nat):Int):=by rw[Bt];omega
theorem zR (a:Nat)(ha:a<9223372036854775808):IntKind.i64.wrap (a:Int)=a:=bJ U U
theorem Br.ext {H H':aF}{u:Value}{bs:List UInt8}(h:Br H u bs)(he:Ext H H'):Br H' u bs:=by
 rcases h with h|⟨b,o,c,cs,e,k,h1,h2,h3,h4⟩
 ·exact .inl h
 ·exact .inr ⟨b,o,c,cs,e,k,h1,h2,by rw[he.2 b (bU h3) id,h3],h4⟩
theorem Rs.aNG {α:Type}{el:α->List Value}{e:TypeId}{sz:Nat}{H:aF}{v:Value}{xs:List α}{P:Program}(hsz: ∀x,(el x).length=sz)(he:P.cellsOf e=sz)(h:Rs el e H v xs)(hne:xs≠[]):
  ∃b o cap,v= .slice (some ⟨b,o,none⟩) xs.length cap/\xs.length<=cap/\ ∀(H':aF),Rs el e H' v xs-> ∀(l r:Nat)(lo hi mx:Option Value)(c:Nat),bnd 0 lo=some l->bnd xs.length hi=some r->bnd cap mx=some c->l<=r->r<=xs.length->r<=c->c<=cap->
   slc P sz v lo hi mx H'=some (.slice (some ⟨b,o+l*sz,none⟩) (r-l) (c-l),H')/\Rs el e H' (.slice (some ⟨b,o+l*sz,none⟩) (r-l) (c-l)) ((xs.take r).drop l):=by
 rcases h with⟨_,h⟩|⟨b,o,cap,rfl,h3,h4⟩
 ·exact absurd h hne
 ·refine⟨b,o,cap,rfl,h3,λH' h' l r lo hi mx c h1 h2 h5 hlr hr hrc hcc=> ?_⟩
  rcases h' with⟨_,h⟩|⟨b',o',cap',heq,h3',h4'⟩
  ·exact absurd h hne
  ·cases heq
   have hl:=rX (xs.map el) (tJ hsz);have hlen:((xs.take r).drop l).length=r-l:=by simp;omega
   obtain⟨e',k,pre,post,rfl,hk,hb⟩:=h4' hne;refine⟨oU (sz:=sz) hb (λh=>by rw[hk h];exact he) h1 h2 h5 hlr hrc hcc,.inr ⟨b,_,c-l,by rw[hlen],by rw[hlen];omega,λ_=>⟨e',k,pre++((xs.take l).map el).flatten,((xs.drop r).map el).flatten++post,?_,hk,?_⟩⟩⟩
   ·have hf:=rX ((xs.take l).map el) (tJ hsz)
    rw[aUr,List.length_take,Nat.min_eq_left U] at hf
    rw[aUp,hf]
   ·rw[hb]
    have:xs=xs.take l++((xs.take r).drop l++xs.drop r):=by
     conv=>lhs;rw[<-List.take_append_drop l xs]
     congr 1
     have:=List.take_append_drop (r-l) (xs.drop l);rw[aUW,List.take_drop] at this;rw[show l+(r-l)=r by omega] at this
     exact this.symm
    congr 2
    conv=>lhs;rw[this]
    simp only[List.map_append,List.flatten_append,aUk]
structure Pkt where
 src:Int
 dst:Int
 lane:Int
 body:Int
deriving DecidableEq
def Pkt.kF (x:Pkt):List Value:=[.int .i64 x.src,.int .i64 x.dst,.int .i64 x.lane,.int .u32 x.body]
def Pkt.cE (x:Pkt):Value:= .agg ⟨x.kF⟩
def pk0:Pkt:=⟨0,0,0,0⟩
structure Pkt.ok (x:Pkt):Prop where
 src: -9223372036854775808<=x.src/\x.src<9223372036854775808
 dst: -9223372036854775808<=x.dst/\x.dst<9223372036854775808
 lane: -9223372036854775808<=x.lane/\x.lane<9223372036854775808
 body:0<=x.body/\x.body<4294967296
abbrev dR:=Int×Int×Int
def pX (r:Nat):Nat:=if r<32768 then r*2 else(r*2-65536)^^^4129
theorem aBg {r:Nat}(h:r<65536):pX r<65536:=by
 unfold pX;split
 ·omega
 ·exact Nat.xor_lt_two_pow (n:=16) U U
def tP:Nat->Nat->Nat
 |0,r=>r
 |k+1,r=>tP k (pX r)
theorem Gz: ∀(k:Nat){r:Nat},r<65536->tP k r<65536
 |0,_,h=>h
 |k+1,_,h=>Gz k (aBg h)
theorem Py: ∀(k r:Nat),tP (k+1) r=pX (tP k r)
 |0,_=>rfl
 |k+1,r=>Py k (pX r)
def nJ (r:Nat)(c:UInt8):Nat:=tP 8 (r^^^c.toNat*256)
theorem zS {r:Nat}(h:r<65536)(c:UInt8):r^^^c.toNat*256<65536:=Nat.xor_lt_two_pow (n:=16) h (by have:=c.toNat_lt;omega)
theorem Ck {r:Nat}(h:r<65536)(c:UInt8):nJ r c<65536:=Gz 8 (zS h c)
attribute [irreducible] nJ
def crc (bs:List UInt8):Nat:=bs.foldl nJ 65535
theorem aBi (bs:List UInt8): ∀{r:Nat},r<65536->bs.foldl nJ r<65536:=by
 induction bs with
 |nil=>exact λh=>h
 |cons c bs ih=>
  intro r h;rw[List.foldl_cons];exact ih (Ck h c)
theorem He (bs:List UInt8):crc bs<65536:=aBi bs aC
theorem aBh {r:Nat}(h:r<65536):(r&&&32768=0)↔r<32768:=by
 have e:r&&&32768=if r<32768 then 0 else 32768:=by
  apply Nat.eq_of_testBit_eq;intro i;rw[Nat.testBit_and];have hb:Nat.testBit 32768 i=decide (15=i):=Nat.testBit_two_pow (n:=15) (m:=i);by_cases hi:15=i
  ·subst hi
   rw[hb];split
   ·rename_i hl
    rw[Nat.testBit_lt_two_pow (i:=15) U]
    rfl
   ·rename_i hl
    have:r.testBit 15=true:=by
     rw[Nat.testBit_eq_decide_div_mod_eq];have:r/2 ^ 15=1:=U
     rw[this];rfl
    rw[this];rfl
  ·rw[hb,aUY hi,Bool.and_false]
   split
   ·simp
   ·rw[hb,aUY hi]
 rw[e]
 split<;>omega
def cC (near s:Nat):Nat:=((near+18446744073709518848)%18446744073709551616+(s+65536-(near+18446744073709518848)%18446744073709551616%65536)%65536)%18446744073709551616
structure Frm where
 kind:Nat
 lane:Nat
 seq:Nat
 src:Nat
 dst:Nat
 body:Nat
deriving DecidableEq
structure Frm.ok (f:Frm):Prop where
 kind:f.kind<256
 lane:f.lane<256
 seq:f.seq<65536
 src:f.src<256
 dst:f.dst<256
 body:f.body<4294967296
def Frm.lO:Frm:=⟨0,0,0,0,0,0⟩
def dB (f:Frm):Bool:=decide (f.lane<=2)&&(if f.kind=1 then decide (f.src<=5)&&decide (f.dst<=5)&&decide (f.src≠f.dst) else(decide (f.kind=2)||decide (f.kind=3))&&decide (f.src=0)&&decide (f.dst=0)&&decide (f.body=0))
def by8 (n:Nat):UInt8:=UInt8.ofNat n
def dU (n:Nat):List UInt8:=[by8 (n/256),by8 n]
def wZ (f:Frm):List UInt8:=by8 f.kind::by8 f.lane::dU f.seq
def iQ (f:Frm):List UInt8:=wZ f++if f.kind=1 then by8 f.src::by8 f.dst::(dU (f.body/65536)++dU f.body) else []
def jM (f:Frm):List UInt8:=iQ f++dU (crc (iQ f))
def lP (f:Frm):Option (List UInt8):=if dB f=true then some (jM f) else none
def dC (bs:List UInt8):Nat:=bs.foldl (λn c=>n*256+c.toNat) 0
def fG (bs:List UInt8):Frm:=⟨(bs.getD 0 0).toNat,(bs.getD 1 0).toNat,dC [bs.getD 2 0,bs.getD 3 0],0,0,0⟩
def kG (bs:List UInt8):Frm:={fG bs with src:=(bs.getD 4 0).toNat,dst:=(bs.getD 5 0).toNat,body:=dC [bs.getD 6 0,bs.getD 7 0,bs.getD 8 0,bs.getD 9 0]}
def pY (b s:List UInt8)(f:Frm):Option Frm:=if crc b=dC s/\dB f=true then some f else none
def fF (bs:List UInt8):Option Frm:=
 if bs.length=6/\(bs.getD 0 0).toNat≠1 then pY (bs.take 4) (bs.drop 4) (fG bs)
 else if bs.length=12/\(bs.getD 0 0).toNat=1 then pY (bs.take 10) (bs.drop 10) (kG bs)
 else none
def Pz (bs:List UInt8):Option Frm:=
 if bs.length<6 then none
 else let f:=if(bs.getD 0 0).toNat=1/\12<=bs.length then kG bs else fG bs
  if lP f=some bs then some f else none
theorem sQ (n:Nat):(by8 n).toNat=n%256:=by simp[by8]
theorem aBf (c:UInt8):by8 c.toNat=c:=by simp[by8]
theorem P1 (a b:UInt8):dC [a,b]=a.toNat*256+b.toNat:=by simp[dC]
theorem aBl (a b c d:UInt8):dC [a,b,c,d]=((a.toNat*256+b.toNat)*256+c.toNat)*256+d.toNat:=by simp[dC]
theorem vE {n:Nat}{c:UInt8}(h:n%256=c.toNat):by8 n=c:=by
 apply UInt8.toNat_inj.mp;rw[sQ,h]
theorem P2 (a b:UInt8):dU (dC [a,b])=[a,b]:=by
 have ha:=a.toNat_lt;have hb:=b.toNat_lt;rw[P1];simp only[dU];rw[vE (n:=(a.toNat*256+b.toNat)/256) (c:=a) U,vE (n:=a.toNat*256+b.toNat) (c:=b) U]
theorem aBm {n:Nat}(hn:n<65536){a b:UInt8}:dU n=[a,b]↔n=dC [a,b]:=by
 constructor
 ·intro h
  simp only[dU,List.cons.injEq,and_true] at h;have h1:=congrArg UInt8.toNat h.1;have h2:=congrArg UInt8.toNat h.2;rw[sQ] at h1 h2;rw[P1];omega
 ·rintro rfl
  exact P2 a b
theorem aNM (a b c d:UInt8):dU (dC [a,b,c,d]/65536)++dU (dC [a,b,c,d])=[a,b,c,d]:=by
 have ha:=a.toNat_lt;have hb:=b.toNat_lt;have hc:=c.toNat_lt;have hd:=d.toNat_lt;rw[aBl];simp only[dU,List.cons_append,List.nil_append];rw[vE (c:=a) U,vE (c:=b) U,vE (c:=c) U,vE (c:=d) U]
theorem P0 (f:Frm):(jM f).length=if f.kind=1 then 12 else 6:=by
 unfold jM iQ wZ dU
 split<;>simp
attribute [irreducible] crc dB
theorem aBj {f:Frm}{b bs:List UInt8}{x y:UInt8}(hb:iQ f=b)(hbs:bs=b++[x,y]):lP f=some bs↔crc b=dC [x,y]/\dB f=true:=by
 unfold lP jM;rw[hb,hbs];by_cases hs:dB f=true
 ·rw[if_pos hs,aUE,List.append_right_inj,aBm (He _)]
  simp[hs]
 ·rw[if_neg hs]
  simp[hs]
theorem aBk {f:Frm}{bs:List UInt8}(h:bs.length≠if f.kind=1 then 12 else 6):lP f≠some bs:=by
 intro hh;unfold lP at hh
 split at hh
 ·injection hh with hh
  rw[<-hh,P0] at h;exact h rfl
 ·cases hh
theorem aNL (bs:List UInt8):fF bs=Pz bs:=by
 have kf:(fG bs).kind=(bs.getD 0 0).toNat:=rfl;have kf':(kG bs).kind=(bs.getD 0 0).toNat:=rfl;unfold fF Pz;by_cases h1:bs.length=6/\(bs.getD 0 0).toNat≠1
 ·have hC: ¬((bs.getD 0 0).toNat=1/\12<=bs.length):=λh=>h1.2 h.1
  rw[if_pos h1,if_neg U]
  simp only[if_neg hC];have e:lP (fG bs)=some bs↔crc (bs.take 4)=dC (bs.drop 4)/\dB (fG bs)=true:=by
   have h6:=h1.1
   match bs,h6 with
   |[a,b,c,d,e,f],_=>
    refine aBj ?_ rfl;unfold iQ wZ;rw[if_neg (by rw[kf];exact h1.2)]
    simp only[fG,List.getD_cons_zero,List.getD_cons_succ,aBf,P2,List.append_nil,List.take_succ_cons,List.take_zero]
  unfold pY;by_cases h:lP (fG bs)=some bs
  ·rw[if_pos h,if_pos (e.mp h)]
  ·rw[if_neg h,if_neg λhh=>h (e.mpr hh)]
 ·rw[if_neg h1]
  by_cases h2:bs.length=12/\(bs.getD 0 0).toNat=1
  ·have hC:(bs.getD 0 0).toNat=1/\12<=bs.length:=⟨h2.2,by omega⟩
   rw[if_pos h2,if_neg U]
   simp only[if_pos hC];have e:lP (kG bs)=some bs↔crc (bs.take 10)=dC (bs.drop 10)/\dB (kG bs)=true:=by
    have h12:=h2.1
    match bs,h12 with
    |[a,b,c,d,e,f,g,h,i,j,k,l],_=>
     refine aBj ?_ rfl;unfold iQ wZ;rw[if_pos (by rw[kf'];exact h2.2)]
     simp only[fG,kG,List.getD_cons_zero,List.getD_cons_succ,aBf,P2,aNM,List.take_succ_cons,List.take_zero,List.cons_append,List.nil_append]
   unfold pY;by_cases h:lP (kG bs)=some bs
   ·rw[if_pos h,if_pos (e.mp h)]
   ·rw[if_neg h,if_neg λhh=>h (e.mpr hh)]
  ·rw[if_neg h2]
   by_cases h3:bs.length<6
   ·rw[if_pos h3]
   ·rw[if_neg h3]
    dsimp only
    rw[if_neg];by_cases h4:(bs.getD 0 0).toNat=1/\12<=bs.length
    ·rw[if_pos h4]
     refine aBk ?_;rw[kf',if_pos h4.1];omega
    ·rw[if_neg h4]
     refine aBk ?_;rw[kf];split
     ·omega
     ·omega
structure Cfg where
 nodes:Nat
 lanes:Nat
 room:Nat
 queue:Nat
 rounds:Nat
 every:Nat
 weights:List Int
 start:Nat
 me:Nat
 by':List Nat
 port:Nat->Nat
def Cfg.aJ (c:Cfg):Nat:=c.by'.length+1
structure Cfg.ok (c:Cfg):Prop where
 nodes:2<=c.nodes/\c.nodes<=6
 lanes:1<=c.lanes/\c.lanes<=3
 room:1<=c.room/\c.room<=8
 queue:1<=c.queue/\c.queue<=8
 rounds:1<=c.rounds/\c.rounds<=4
 every:1<=c.every/\c.every<=8
 wlen:c.weights.length=c.lanes
 wts: ∀x∈c.weights,1<=x/\x<=5
 start:c.start<65536
 me:c.me<c.nodes
 by':c.by'.length<=5
 byN: ∀w∈c.by',w<c.nodes/\w≠c.me
 byD:c.by'.Nodup
 port: ∀d,d<c.nodes->c.port d<c.aJ
structure Snd where
 s:Nat
 l:Nat
deriving DecidableEq
structure Rcv where
 n:Nat
 h:Nat
deriving DecidableEq
def Snd.iR (x:Snd):Nat:=x.l-x.s
def Snd.nK (x:Snd)(limit:Nat):Snd:=let n:=cC x.l limit;if n<=x.l∨x.s+8<n then x else⟨x.s,n⟩
def Snd.kH (x:Snd):Nat×Snd:=if x.l=x.s then(0,x) else(x.s,⟨x.s+1,x.l⟩)
def Rcv.dA (x:Rcv)(room:Nat):Nat:=x.n+(room-x.h)
def Rcv.fH (x:Rcv)(room seq:Nat):Nat×Rcv:=let n:=cC x.n seq;if n<x.n then(60,x) else if x.dA room<=n then(61,x) else(0,⟨n+1,x.h+1⟩)
def Rcv.tQ (x:Rcv):Rcv:=⟨x.n,x.h-1⟩
def Rcv.mB (x:Rcv)(room sent:Nat):Rcv:=let n:=cC x.n sent;if n<=x.n∨x.dA room<n then x else⟨n,x.h⟩
structure NS where
 hL:List Pkt
 hG:List Pkt
 rL:List (dR×Pkt)
 snd:Nat->Nat->Snd
 rcv:Nat->Nat->Rcv
 g:List Nat
 a:List Nat
 whl:Nat->Whl
 ticks:Nat
def NS.kZ (c:Cfg):NS:=⟨[],[],[],λ_ _=>⟨c.start,c.start+c.room⟩,λ_ _=>⟨c.start,0⟩,List.replicate c.aJ 0,List.replicate c.aJ 0,λ_=>⟨c.weights,0⟩,0⟩
def dE (L:List Pkt)(k:Int):List Pkt:=L.filter λx=>decide (x.lane=k)
def pZ (L:List Pkt)(k:Int):List Pkt:=L.eraseP λx=>decide (x.lane=k)
def lA (L:List (dR×Pkt))(w:dR):List Pkt:=(L.filter λe=>decide (e.1=w)).map (·.2)
def mY (L:List (dR×Pkt))(w:dR):List (dR×Pkt):=L.eraseP λe=>decide (e.1=w)
def Cl (w:dR)(ports lanes:Nat):Bool:=decide (0<=w.1)&&decide (w.1<ports)&&decide (0<=w.2.1)&&decide (w.2.1<ports)&&decide (0<=w.2.2)&&decide (w.2.2<lanes)
def sR (c:Cfg)(L:List (dR×Pkt))(w:dR)(x:Pkt):List (dR×Pkt):=
 if Cl w c.aJ c.lanes=true/\L.length<c.aJ*c.lanes*c.room then L++[(w,x)] else L
def p7 (c:Cfg)(x:Pkt)(s:NS):Nat×NS:=
 if¬(0<=x.lane/\x.lane<c.lanes) then(1,s)
 else if(dE s.hL x.lane).length=c.queue then(150,s)
 else(0,{s with hL:=s.hL++[x]})
def oE (c:Cfg)(x:Pkt)(s:NS):Nat×NS:=
 if x.src≠c.me∨x.dst<0∨(c.nodes:Int)<=x.dst∨x.dst=c.me then(1,s) else p7 c x s
def up2 {α:Type}(f:Nat->Nat->α)(i k:Nat)(x:α):Nat->Nat->α:=λj l=>if j=i/\l=k then x else f j l
def up1 {α:Type}(f:Nat->α)(i:Nat)(x:α):Nat->α:=λj=>if j=i then x else f j
def o5 (c:Cfg)(i:Nat)(f:Frm)(s:NS):Nat×NS:=
 if c.nodes<=max f.src f.dst then(30,s)
 else match (s.rcv i f.lane).fH c.room f.seq with
  |(0,r)=>(0,{s with rcv:=up2 s.rcv i f.lane r,rL:=sR c s.rL ((i:Int),(c.port f.dst:Int),(f.lane:Int)) ⟨f.src,f.dst,f.lane,f.body⟩})
  |(e,_)=>(e,s)
def jQ (c:Cfg)(fr:Int)(bs:List UInt8)(s:NS):Nat×NS:=
 match c.by'.findIdx? λw:Nat=>decide ((w:Int)=fr) with
 |none=>(1,s)
 |some j=>
  match fF bs with
  |none=>(30,s)
  |some f=>
   if c.lanes<=f.lane then(30,s)
   else if f.kind=2 then(0,{s with snd:=up2 s.snd (j+1) f.lane ((s.snd (j+1) f.lane).nK f.seq)})
   else if f.kind=3 then(0,{s with rcv:=up2 s.rcv (j+1) f.lane ((s.rcv (j+1) f.lane).mB c.room f.seq)})
   else o5 c (j+1) f s
def jO (L:List (dR×Pkt))(i o k:Nat):Nat:=(lA L (i,o,k)).length
def zT (c:Cfg)(L:List (dR×Pkt))(k:Nat):Nat:=((List.range c.aJ).map λo=>jO L 0 o k).sum
def iG (c:Cfg)(s:NS)(k:Nat):NS:=
 if c.room<=zT c s.rL k then s
 else match dE s.hL k with
  |[]=>s
  |x::_=>{s with hL:=pZ s.hL k,rL:=sR c s.rL (0,(c.port x.dst.toNat:Int),k) x}
def eT (c:Cfg)(s:NS):NS:=(List.range c.lanes).foldl (iG c) s
def eE (c:Cfg)(s:NS)(i o k:Nat):Bool:=decide (k<c.lanes)&&decide (0<jO s.rL i o k)&&(decide (o=0)||decide (0<(s.snd o k).iR))
def hZ (c:Cfg)(s:NS)(i o:Nat):Bool:=decide (i<c.aJ)&&decide (o<c.aJ)&&(List.range c.lanes).any (eE c s i o)
def mW (f:Frm):List UInt8:=(lP f).getD []
abbrev eQ:=List (Nat×List UInt8)
def qW (c:Cfg)(o:Nat)(f:Frm):Nat×List UInt8:=(c.by'.getD (o-1) 0,mW f)
def nL (s:NS)(i k:Nat):Nat->Nat->Rcv:=if i=0 then s.rcv else up2 s.rcv i k (s.rcv i k).tQ
def iA (c:Cfg)(s:NS)(i o:Nat):NS×eQ:=
 match gK c.weights (s.whl o) (eE c s i o) with
 |(none,_)=>(s,[])
 |(some k,w)=>
  let x:=(lA s.rL (i,o,k)).headD pk0
  let s1:={s with whl:=up1 s.whl o w,rL:=mY s.rL (i,o,k),rcv:=nL s i k}
  if o=0 then({s1 with hG:=s1.hG++[x]},[])
  else({s1 with snd:=up2 s1.snd o k (s1.snd o k).kH.2},[qW c o ⟨1,k,(s1.snd o k).kH.1%65536,(x.src%256).toNat,(x.dst%256).toNat,x.body.toNat⟩])
def k9 (c:Cfg)(m:List Int):List Nat->NS×eQ->NS×eQ
 |[],s=>s
 |i::l,s=>k9 c m l (if 0<=m.getD i 0 then((iA c s.1 i (m.getD i 0).toNat).1,s.2++(iA c s.1 i (m.getD i 0).toNat).2) else s)
def mX (c:Cfg)(s:NS):eQ:=
 (List.range c.by'.length).flatMap λi=>(List.range c.lanes).flatMap λk=>
  [qW c (i+1) ⟨3,k,(s.snd (i+1) k).s%65536,0,0,0⟩,qW c (i+1) ⟨2,k,(s.rcv (i+1) k).dA c.room%65536,0,0,0⟩]
def kJ (c:Cfg)(s:NS):NS×eQ:=
 let s1:=eT c s
 let t:=lX (hZ c s1) c.aJ c.rounds s1.g s1.a
 let r:=k9 c t.m (List.range c.aJ) ({s1 with g:=t.g,a:=t.a},[])
 ({r.1 with ticks:=s.ticks+1},if(s.ticks+1)%c.every=0 then r.2++mX c r.1 else r.2)
end Go.Abs
namespace Go.Proofs.YtciiopkbmjppfaaGreatDoor
open Go.Proofs.Tryz
open Go.Abs Go.Abs.M
structure Put1 (H:aF)(b:Nat)(y:Blk)(H':aF):Prop where
 le:H.length<=H'.length
 at_:H'[b]? =some y
 keep: ∀c,c<H.length->c≠b->H'[c]? =H[c]?
theorem Put1.vF {H:aF}{b:Nat}{y:Blk}(h:H[b]? =some y):Put1 H b y H:=⟨aUi _,h,λ_ _ _=>rfl⟩
theorem Put1.Cm {H:aF}{b:Nat}{x y:Blk}(h:H[b]? =some x):Put1 H b y (H.set b y):=⟨by simp,dN h,λc _ hc=>aUe (Ne.symm hc)⟩
theorem Put1.ext {H H':aF}{b:Nat}{y:Blk}(h:H[b]? =some y)(he:Ext H H'):Put1 H b y H':=⟨he.1,by rw[he.2 b (bU h) id,h],λc hc _=>he.2 c hc id⟩
theorem Put1.aNN {H H1 H':aF}{b:Nat}{y:Blk}(he:Ext H H1)(h:Put1 H1 b y H'):Put1 H b y H':=⟨aUt he.1 h.le,h.at_,λc hc hcb=>by rw[h.keep c (aUs hc he.1) hcb,he.2 c hc id]⟩
section
variable {H : aF} {m : Nat}
theorem o6:prog.underlying 112=some (.int .u64):=by kernel_rfl
theorem kK:prog.underlying 23=some (.int .u16):=by kernel_rfl
theorem iU:prog.underlying 3=some (.int .i64):=by kernel_rfl
theorem u8U:prog.underlying 5=some (.int .u8):=by kernel_rfl
theorem aNR:prog.underlying 238=some (.int .u16):=by kernel_rfl
theorem aNS (hm:0<m)(n:Nat):lvl prog pkN m (.func 137) [.int .u64 n] H=some (.int .u16 ((n%65536:Nat):Int),H):=by
 refine aS (aQ rfl) hm ?_;rw[aMW];simp only[gsR,dJ _ _ o6 kK,Cj]
theorem P5 (near s:Nat):cC near s<18446744073709551616:=Nat.mod_lt _ U
theorem P4 (hm:1<m)(near s:Nat)(hn:near<18446744073709551616)(hs:s<65536):lvl prog pkN m (.func 100) [.int .u64 near,.int .u16 s] H=some (.int .u64 (cC near s),H):=by
 refine aS (aQ rfl) U ?_
 rw[aMp];have e1:IntKind.u64.wrap ((near:Int)-32768)=(((near+18446744073709518848)%18446744073709551616:Nat):Int):=by rw[sL];omega
 have e2:=aNS (H:=H) (m:=m-1) U ((near+18446744073709518848)%18446744073709551616)
 have e3:=aNJ s ((near+18446744073709518848)%18446744073709551616%65536) hs U
 have e4:=zQ ((s+65536-(near+18446744073709518848)%18446744073709551616%65536)%65536) U
 simp only[gsR,eM,e1,e2,e3,dJ _ _ kK o6,e4,aV,aNH];rfl
def iY (r:Nat):Blk:= .cells [.int .u16 r] 238 .fix
theorem aNO (hm:0<m){b r:Nat}(hb:H[b]? =some (iY r))(hr:r<65536):lvl prog pkN m (.func 169) [.Q b 0] H=some (aK [],H.set b (iY (pX r))):=by
 refine aS (aQ rfl) hm ?_;rw[aM6];have e1:ld1 (.Q b 0) H=some (.int .u16 r,H):=bA hb rfl;have e2:bin prog .and 238 (.int .u16 (r:Int)) (.int .u16 32768)=some (.int .u16 ((r&&&32768:Nat):Int)):=wP .u16 rfl _ (a:=r) (b:=32768) hr aC
 have e3:bin prog .shl 238 (.int .u16 (r:Int)) (.int .u64 1)=some (.int .u16 ((r*2%65536:Nat):Int)):=E9 .u16 .u64 rfl _ r 1 aC
 have e4:stN 1 (.Q b 0) (.int .u16 ((r*2%65536:Nat):Int)) H=some (undef,H.set b (iY (r*2%65536))):=hP hb aC Nat.zero_lt_one
 have e5:ld1 (.Q b 0) (H.set b (iY (r*2%65536)))=some (.int .u16 ((r*2%65536:Nat):Int),H.set b (iY (r*2%65536))):=bA (dN hb) rfl;have e6:bin prog .xor 238 (.int .u16 ((r*2%65536:Nat):Int)) (.int .u16 4129)=some (.int .u16 (((r*2%65536)^^^4129:Nat):Int)):=X9 .u16 rfl _ (a:=r*2%65536) (b:=4129) (by show _<65536;omega) aC
 have e7:stN 1 (.Q b 0) (.int .u16 (((r*2%65536)^^^4129:Nat):Int)) (H.set b (iY (r*2%65536)))=some (undef,(H.set b (iY (r*2%65536))).set b (iY ((r*2%65536)^^^4129))):=hP (dN hb) aC Nat.zero_lt_one
 by_cases hc:r<32768
 ·have h0:(r&&&32768:Nat)=0:=(aBh hr).mpr hc
  have k1:((((r&&&32768:Nat):Int))!=0)=false:=by rw[h0];rfl
  simp only[gsR,e1,e2,e3,e4,k1];rw[pX,if_pos hc,aUL U]
 ·have h0: ¬(r&&&32768:Nat)=0:=λh=>hc ((aBh hr).mp h)
  have k1:((((r&&&32768:Nat):Int))!=0)=true:=by simp[h0]
  simp only[gsR,e1,e2,e3,e4,e5,e6,e7,k1,Px];rw[pX,if_neg hc,show r*2%65536=r*2-65536 by omega]
theorem aNQ {b:Nat}{H0:aF}: ∀(q i k r:Nat)(H:aF),8-i=q->i<=8->q<k->10<m->H=H0.set b (iY r)->b<H0.length->r<65536->
  aL k (aO prog (lvl prog pkN (m-1)) (aL (m-1)) Om) (On (lvl prog pkN (m-1)) (aL (m-1))) (some (.Q b 0)::aG 11 (some (.I i)::aG 4 [])) H=some (aK [],H0.set b (iY (tP (8-i) r))):=by
 intro q;induction q with
 |zero=>
  intro i k r H hq hi hk hm hH hb hr;obtain⟨k,rfl⟩: ∃k',k=k'+1:=⟨k-1,by omega⟩
  have hi8:i=8:=U
  subst hi8;have c1:decide (((8:Nat):Int)<8)=false:=by decide
  rw[aL,aAV];simp only[gsR,c1];rw[aMZ];rw[hH];rfl
 |succ q ih=>
  intro i k r H hq hi hk hm hH hb hr;obtain⟨k,rfl⟩: ∃k',k=k'+1:=⟨k-1,by omega⟩
  have c1:decide ((i:Int)<8)=true:=by rw[decide_eq_true_eq];omega
  have hg:H[b]? =some (iY r):=by rw[hH,aUj hb]
  have e1:=aNO (m:=m-1) U hg hr
  have e2:=aA (i:=i) U
  rw[aL,aAV];simp only[gsR,c1,e1,aV,e2];rw[ih (i+1) k (pX r) _ U U U hm (by rw[hH,Px]) hb (aBg hr)]
  rw[show 8-i=(8-(i+1))+1 by omega,tP]
theorem aNP (hm:10<m){b r:Nat}(hb:H[b]? =some (iY r))(hr:r<65536)(c:UInt8):lvl prog pkN m (.func 146) [.Q b 0,dF c] H=some (aK [],H.set b (iY (nJ r c))):=by
 refine aS (aQ rfl) U ?_
 rw[aM0];have hc:=c.toNat_lt;have e1:ld1 (.Q b 0) H=some (.int .u16 r,H):=bA hb rfl;have e2:cK prog 5 238 (dF c) H=some (.int .u16 c.toNat,H):=by
  show cK prog 5 238 (.int .u8 c.toNat) H=_
  rw[dJ _ _ u8U aNR,Ls U U]
 have e3:bin prog .shl 238 (.int .u16 (c.toNat:Int)) (.int .u64 8)=some (.int .u16 ((c.toNat*256:Nat):Int)):=by
  have:=E9 (P:=prog) .u16 .u64 rfl 238 c.toNat 8 aC
  rw[show c.toNat*2 ^ 8%2 ^ IntKind.u16.bits=c.toNat*256 from by show c.toNat*256%65536=_;omega] at this
  exact this
 have e4:bin prog .xor 238 (.int .u16 (r:Int)) (.int .u16 ((c.toNat*256:Nat):Int))=some (.int .u16 ((r^^^c.toNat*256:Nat):Int)):=X9 .u16 rfl _ (a:=r) (b:=c.toNat*256) hr (by show _<65536;omega)
 have e5:stN 1 (.Q b 0) (.int .u16 ((r^^^c.toNat*256:Nat):Int)) H=some (undef,H.set b (iY (r^^^c.toNat*256))):=hP hb aC Nat.zero_lt_one
 simp only[gsR,e1,e2,e3,e4,e5];refine(aNQ (m:=m) 8 0 (m-1) (r^^^c.toNat*256) _ rfl U U U rfl (bU hb) (zS hr c) ..).trans ?_
 unfold nJ;rfl
theorem aNT {u:Value}{bs:List UInt8}{H0:aF}(hu:Br H0 u bs): ∀(q i k:Nat)(H:aF),bs.length-i=q->i<=bs.length->q<k->20<m->bs.length<4611686018427387904->H=H0++[iY ((bs.take i).foldl nJ 65535)]->
  ∀x2:Value,aL k (aO prog (lvl prog pkN (m-1)) (aL (m-1)) Ob) (Oc (lvl prog pkN (m-1)) (aL (m-1))) (aG 2 (x2::some (.Q H0.length 0)::aG 2 (u::some (.I bs.length)::some (.I i)::aG 7 []))) H=some (.int .u16 (crc bs),H0++[iY (crc bs)]):=by
 intro q;induction q with
 |zero=>
  intro i k H hq hi hk hm hl hH x2;obtain⟨k,rfl⟩: ∃k',k=k'+1:=⟨k-1,by omega⟩
  have hi8:i=bs.length:=U
  subst hi8;have c1:decide ((bs.length:Int)<(bs.length:Int))=false:=by simp
  have hf:(bs.take bs.length).foldl nJ 65535=crc bs:=by rw[List.take_length];unfold crc;rfl
  rw[hf] at hH;have e1:ld1 (.Q H0.length 0) H=some (.int .u16 (crc bs),H):=by rw[hH];exact bA (cG _ _) rfl
  rw[aL,aAQ];simp only[gsR,c1];rw[aMA];simp only[gsR,e1];rw[hH]
 |succ q ih=>
  intro i k H hq hi hk hm hl hH x2;obtain⟨k,rfl⟩: ∃k',k=k'+1:=⟨k-1,by omega⟩
  have c1:decide ((i:Int)<(bs.length:Int))=true:=by rw[decide_eq_true_eq];omega
  have hx:bs[i]? =some bs[i]:=aUf U
  have hu':Br H u bs:=hu.ext (by rw[hH];exact Fr.app _ _ _)
  obtain⟨b,o,a1,a2⟩:=hu'.Xo hx .i64;have hg:H[H0.length]? =some (iY ((bs.take i).foldl nJ 65535)):=by rw[hH];exact cG _ _
  have e1:=aNP (m:=m-1) U hg (aBi _ aC) bs[i]
  have e2:=aA (i:=i) U
  rw[aL,aAQ];simp only[gsR,c1,a1,a2,e1,aV,e2];refine ih (i+1) k _ U U U hm hl ?_ ..
  rw[hH,gZ,List.take_add_one,hx,List.foldl_append];rfl
theorem P3 {u:Value}{bs:List UInt8}(hu:Br H u bs)(hm:20<m)(hl:bs.length+1<m)(hl2:bs.length<4611686018427387904):lvl prog pkN m (.func 122) [u] H=some (.int .u16 (crc bs),H++[iY (crc bs)]):=by
 refine aS (aQ rfl) U ?_
 rw[aMB];have e1:stN 1 (.Q H.length 0) (.int .u16 65535) (H++[.cells [.int .u16 0] 238 .fix])=some (undef,H++[iY 65535]):=by
  rw[hP (cG _ _) aC Nat.zero_lt_one,gZ]
  rfl
 simp only[gsR,e1,hu.Lh];exact aNT hu bs.length 0 (m-1) _ U U U hm hl2 rfl ..
end
def iH (x:Snd):Blk:= .cells [.int .u64 x.s,.int .u64 x.l] 172 .fix
def eU (x:Rcv)(room:Nat):Blk:= .cells [.int .u64 x.n,.int .i64 x.h,.int .i64 room] 174 .fix
structure SndOk (x:Snd):Prop where
 le:x.s<=x.l
 wide:x.l<=x.s+8
 big:x.l<4611686018427387904
structure RcvOk (x:Rcv)(room:Nat):Prop where
 h:x.h<=room
 room:room<=8
 big:x.n<4611686018427387904
section
variable {H : aF} {m : Nat} {b : Nat}
theorem aBr (hm:0<m){x:Snd}(hx:SndOk x):lvl prog pkN m (.func 98) [.agg #[.int .u64 x.s,.int .u64 x.l]] H=some (.I x.iR,H++[.cells [.int .u64 x.s,.int .u64 x.l] 170 .fix]):=by
 have:=hx.le;have:=hx.wide;have:=hx.big;refine aS (aQ rfl) hm ?_;rw[aNF];have e0:(Value.cells (.agg #[.int .u64 x.s,.int .u64 x.l])).toList=[.int .u64 x.s,.int .u64 x.l]:=rfl;have e1:ld1 (.Q H.length 1) (H++[.cells [.int .u64 x.s,.int .u64 x.l] 170 .fix])=some (.int .u64 x.l,H++[.cells [.int .u64 x.s,.int .u64 x.l] 170 .fix]):=bA (cG _ _) rfl;have e2:ld1 (.Q H.length 0) (H++[.cells [.int .u64 x.s,.int .u64 x.l] 170 .fix])=some (.int .u64 x.s,H++[.cells [.int .u64 x.s,.int .u64 x.l] 170 .fix]):=bA (cG _ _) rfl;have e3:IntKind.u64.wrap ((x.l:Int)-x.s)=((x.iR:Nat):Int):=by rw[sL,Snd.iR];omega
 have e4:=zR x.iR (by unfold Snd.iR;omega)
 simp only[gsR,e0,e1,e2,eM,e3,dJ _ _ o6 iU,e4]
theorem P6 {x:Snd}(hb:H[b]? =some (iH x)):ldN 2 (.Q b 0) H=some (.agg #[.int .u64 x.s,.int .u64 x.l],H):=mV hb (aUi 2)
theorem aBs (hm:1<m){x:Snd}(hb:H[b]? =some (iH x))(hx:SndOk x):lvl prog pkN m (.func 58) [.Q b 0] H=some (.I x.iR,H++[.cells [.int .u64 x.s,.int .u64 x.l] 170 .fix]):=by
 refine aS (aQ rfl) U ?_
 rw[aNh];simp only[gsR,P6 hb,aBr (H:=H) (m:=m-1) U hx]
theorem P7 (hm:0<m){x:Snd}(hb:H[b]? =some (iH x)):lvl prog pkN m (.func 64) [.Q b 0] H=some (.int .u64 x.s,H):=by
 refine aS (aQ rfl) U ?_
 rw[aNm];have e1:ld1 (.Q b 0) H=some (.int .u64 x.s,H):=bA hb rfl;simp only[gsR,e1]
theorem aN0 (hm:0<m){x:Snd}(hb:H[b]? =some (iH x)):lvl prog pkN m (.func 60) [.Q b 0] H=some (.int .u64 x.l,H):=by
 refine aS (aQ rfl) U ?_
 rw[aNj];have e1:ld1 (.Q b 1) H=some (.int .u64 x.l,H):=bA hb rfl;simp only[gsR,e1]
theorem aN2 (hm:1<m){x:Snd}(hb:H[b]? =some (iH x))(hx:SndOk x): ∃H',lvl prog pkN m (.func 135) [.Q b 0] H=some (.tuple #[.int .u64 x.kH.1,.bool (decide (x.l≠x.s))],H')/\Put1 H b (iH x.kH.2) H':=by
 have:=hx.le;have:=hx.wide;have:=hx.big;refine iD (aQ rfl) U ?_
 rw[aMT];have e0:=aBr (H:=H) (m:=m-1) U hx
 have hx1:Ext H (H++[Blk.cells [.int .u64 x.s,.int .u64 x.l] 170 .fix]):=Fr.app _ _ _;have hb1:=lN hb (Blk.cells [.int .u64 x.s,.int .u64 x.l] 170 .fix);by_cases hc:x.l=x.s
 ·have c1:((x.iR:Int)==0)=true:=by simp[Snd.iR,hc]
  have d1:x.kH=(0,x):=by simp[Snd.kH,hc]
  have d2:decide (x.l≠x.s)=false:=by simp[hc]
  simp only[gsR,P6 hb,e0,c1,d1,d2]
  exact⟨_,rfl,Put1.ext hb hx1⟩
 ·have c1:((x.iR:Int)==0)=false:=by simp[Snd.iR];omega
  have d1:x.kH=(x.s,⟨x.s+1,x.l⟩):=by simp[Snd.kH,hc]
  have d2:decide (x.l≠x.s)=true:=by simp[hc]
  have e1:ld1 (.pointer (some ⟨b,0,none⟩)) (H++[Blk.cells [.int .u64 x.s,.int .u64 x.l] 170 .fix])=some (.int .u64 x.s,_):=bA hb1 rfl;have e2:IntKind.u64.wrap ((x.s:Int)+1)=((x.s+1:Nat):Int):=by rw[sL];omega
  have e3:stN 1 (.pointer (some ⟨b,0,none⟩)) (.int .u64 ((x.s+1:Nat):Int)) (H++[Blk.cells [.int .u64 x.s,.int .u64 x.l] 170 .fix])=some (undef,(H++[Blk.cells [.int .u64 x.s,.int .u64 x.l] 170 .fix]).set b (iH ⟨x.s+1,x.l⟩)):=hP hb1 aC (by simp)
  simp only[gsR,P6 hb,e0,c1,e1,aV,e2,e3,d1,d2]
  exact⟨_,rfl,Put1.aNN hx1 (Put1.Cm hb1)⟩
theorem aNZ (hm:2<m){x:Snd}(hb:H[b]? =some (iH x))(hx:SndOk x)(limit:Nat)(hl:limit<65536): ∃H' u,lvl prog pkN m (.func 103) [.Q b 0,.int .u16 limit] H=some (u,H')/\Put1 H b (iH (x.nK limit)) H':=by
 have:=hx.le;have:=hx.wide;have:=hx.big;refine dL (aQ rfl) U ?_
 rw[aMu];have e1:ld1 (.Q b 1) H=some (.int .u64 x.l,H):=bA hb rfl;have e2:ld1 (.Q b 0) H=some (.int .u64 x.s,H):=bA hb rfl;have e3:=P4 (H:=H) (m:=m-1) U x.l limit U hl
 have e4:IntKind.u64.wrap ((x.s:Int)+8)=((x.s+8:Nat):Int):=by rw[sL];omega
 by_cases c:cC x.l limit<=x.l
 ·have c1:decide ((cC x.l limit:Int)<=(x.l:Int))=true:=by rw[decide_eq_true_eq];omega
  have d:x.nK limit=x:=by unfold Snd.nK;rw[if_pos (.inl c)]
  simp only[gsR,e1,e3,c1]
  exact⟨_,_,rfl,by rw[d];exact Put1.vF hb⟩
 ·have c1:decide ((cC x.l limit:Int)<=(x.l:Int))=false:=by rw[decide_eq_false_iff_not];omega
  by_cases c':x.s+8<cC x.l limit
  ·have c2:decide (((x.s+8:Nat):Int)<(cC x.l limit:Int))=true:=by rw[decide_eq_true_eq];omega
   have d:x.nK limit=x:=by unfold Snd.nK;rw[if_pos (.inr c')]
   simp only[gsR,e1,e2,e3,c1,aV,e4,c2]
   exact⟨_,_,rfl,by rw[d];exact Put1.vF hb⟩
  ·have c2:decide (((x.s+8:Nat):Int)<(cC x.l limit:Int))=false:=by rw[decide_eq_false_iff_not];omega
   have d:x.nK limit=⟨x.s,cC x.l limit⟩:=by unfold Snd.nK;rw[if_neg U]
   have e5:stN 1 (.Q b 1) (.int .u64 (cC x.l limit)) H=some (undef,H.set b (iH ⟨x.s,cC x.l limit⟩)):=hP hb aC (by simp)
   simp only[gsR,e1,e2,e3,c1,aV,e4,c2,e5]
   exact⟨_,_,rfl,by rw[d];exact Put1.Cm hb⟩
theorem aN1 (hm:0<m)(start room:Nat)(h1:start<65536)(h2:1<=room/\room<=8):lvl prog pkN m (.func 83) [.int .u64 start,.I room] H=some (.Q H.length 0,H++[iH ⟨start,start+room⟩]):=by
 refine aS (aQ rfl) U ?_
 rw[aNq];have c1:decide (4611686018427387904<=(start:Int))=false:=by rw[decide_eq_false_iff_not];omega
 have c2:decide ((room:Int)<1)=false:=by rw[decide_eq_false_iff_not];omega
 have c3:decide (8<(room:Int))=false:=by rw[decide_eq_false_iff_not];omega
 have e1:IntKind.u64.wrap (room:Int)=room:=zQ room U
 have e2:IntKind.u64.wrap ((start:Int)+room)=((start+room:Nat):Int):=by rw[sL];omega
 have e3:bld prog 170 [(0,.int .u64 start),(1,.int .u64 ((start+room:Nat):Int))]=some (.agg #[.int .u64 start,.int .u64 ((start+room:Nat):Int)]):=rfl;have e4:bld prog 172 [(0,.agg #[.int .u64 start,.int .u64 ((start+room:Nat):Int)])]=some (.agg #[.int .u64 start,.int .u64 ((start+room:Nat):Int)]):=rfl;simp only[gsR,c1,c2,c3,dJ _ _ iU o6,e1,aV,e2,e3,e4];rfl
theorem aNY (hm:0<m)(start room:Nat)(h1:start<65536)(h2:1<=room/\room<=8):lvl prog pkN m (.func 84) [.int .u64 start,.I room] H=some (.Q H.length 0,H++[eU ⟨start,0⟩ room]):=by
 refine aS (aQ rfl) U ?_
 rw[aNr];have c1:decide (4611686018427387904<=(start:Int))=false:=by rw[decide_eq_false_iff_not];omega
 have c2:decide ((room:Int)<1)=false:=by rw[decide_eq_false_iff_not];omega
 have c3:decide (8<(room:Int))=false:=by rw[decide_eq_false_iff_not];omega
 have e3:bld prog 174 [(0,.int .u64 start),(2,.I room)]=some (.agg #[.int .u64 start,.I 0,.I room]):=rfl;simp only[gsR,c1,c2,c3,e3];rfl
section
variable {x : Rcv} {room : Nat}
theorem sS (hb:H[b]? =some (eU x room)):ld1 (.Q b 0) H=some (.int .u64 x.n,H)/\ld1 (.Q b 1) H=some (.I x.h,H)/\ld1 (.Q b 2) H=some (.I room,H):=⟨bA hb rfl,bA hb rfl,bA hb rfl⟩
theorem aBp (hm:0<m)(hb:H[b]? =some (eU x room)):lvl prog pkN m (.func 63) [.Q b 0] H=some (.int .u64 x.n,H):=by
 refine aS (aQ rfl) U ?_
 rw[aNl];simp only[gsR,(sS hb).1]
theorem aNX (hm:0<m)(hb:H[b]? =some (eU x room)):lvl prog pkN m (.func 61) [.Q b 0] H=some (.I x.h,H):=by
 refine aS (aQ rfl) U ?_
 rw[aNk];simp only[gsR,(sS hb).2.1]
theorem vG (hx:RcvOk x room):IntKind.i64.wrap ((room:Int)-x.h)=((room-x.h:Nat):Int)/\IntKind.u64.wrap ((room-x.h:Nat):Int)=((room-x.h:Nat):Int):=by
 have:=hx.h;have:=hx.room
 exact⟨by rw[bJ U U];omega,zQ _ U⟩
theorem aBq (hm:0<m)(hb:H[b]? =some (eU x room))(hx:RcvOk x room):lvl prog pkN m (.func 59) [.Q b 0] H=some (.int .u64 (x.dA room),H):=by
 have:=hx.h;have:=hx.room;have:=hx.big;refine aS (aQ rfl) U ?_
 rw[aNi];have e:IntKind.u64.wrap ((x.n:Int)+((room-x.h:Nat):Int))=((x.dA room:Nat):Int):=by rw[sL,Rcv.dA];omega
 simp only[gsR,(sS hb).1,(sS hb).2.1,(sS hb).2.2,eM,(vG hx).1,(vG hx).2,dJ _ _ iU o6,aV,e]
def lQ (n w:Nat):Nat:=(w+(18446744073709551616-n))%18446744073709551616
theorem aBo (hm:2<m)(hb:H[b]? =some (eU x room))(hx:RcvOk x room)(s:Nat)(hs:s<65536):lvl prog pkN m (.func 138) [.Q b 0,.int .u16 s] H=some (.tuple #[.int .u64 (cC x.n s),.int .u64 (lQ x.n (cC x.n s)),.bool (decide (x.n<=cC x.n s))],H):=by
 have:=hx.big;refine aS (aQ rfl) U ?_
 rw[aMX];have e1:=P4 (H:=H) (m:=m-1) U x.n s U hs
 have e2:IntKind.u64.wrap ((cC x.n s:Int)-x.n)=((lQ x.n (cC x.n s):Nat):Int):=aNK _ _ (P5 _ _) U
 have e3:decide ((x.n:Int)<=(cC x.n s:Int))=decide (x.n<=cC x.n s):=by simp
 simp only[gsR,(sS hb).1,e1,eM,e2,e3];rfl
theorem aBn {n w:Nat}(hn:n<18446744073709551616)(hw:w<18446744073709551616)(h:n<=w):lQ n w=w-n:=by unfold lQ;omega
theorem aNU (hm:3<m)(hb:H[b]? =some (eU x room))(hx:RcvOk x room)(s:Nat)(hs:s<65536): ∃H',lvl prog pkN m (.func 139) [.Q b 0,.int .u16 s] H=some (.int .u16 (x.fH room s).1,H')/\Put1 H b (eU (x.fH room s).2 room) H':=by
 have:=hx.h;have:=hx.room;have:=hx.big;have hwl:=P5 x.n s;refine iD (aQ rfl) U ?_
 rw[aMY];have e1:=aBo (m:=m-1) U hb hx s hs
 obtain⟨l0,l1,l2⟩:=sS hb;have x0: ∀y,ext 0 (.tuple #[.int .u64 (cC x.n s),.int .u64 (lQ x.n (cC x.n s)),.bool y])=some (.int .u64 (cC x.n s)):=λ_=>rfl
 have x1: ∀y,ext 1 (.tuple #[.int .u64 (cC x.n s),.int .u64 (lQ x.n (cC x.n s)),.bool y])=some (.int .u64 (lQ x.n (cC x.n s))):=λ_=>rfl
 have x2: ∀y,ext 2 (.tuple #[.int .u64 (cC x.n s),.int .u64 (lQ x.n (cC x.n s)),.bool y])=some (.bool y):=λ_=>rfl
 by_cases c:x.n<=cC x.n s
 ·have c1:decide (x.n<=cC x.n s)=true:=aUX c
  have hf:=aBn U hwl c
  have ef:IntKind.u64.wrap (((room-x.h:Nat)):Int)=_:=(vG hx).2;by_cases c':x.dA room<=cC x.n s
  ·have c2:decide (((room-x.h:Nat):Int)<=(lQ x.n (cC x.n s):Int))=true:=by rw[decide_eq_true_eq,hf];unfold Rcv.dA at c';omega
   have d:x.fH room s=(61,x):=by unfold Rcv.fH;rw[if_neg U,if_pos c']
   simp only[gsR,e1,x0,x1,x2,c1,l0,l1,l2,eM,(vG hx).1,dJ _ _ iU o6,ef,c2,d]
   exact⟨_,rfl,Put1.vF hb⟩
  ·have c2:decide (((room-x.h:Nat):Int)<=(lQ x.n (cC x.n s):Int))=false:=by rw[decide_eq_false_iff_not,hf];unfold Rcv.dA at c';omega
   have d:x.fH room s=(0,⟨cC x.n s+1,x.h+1⟩):=by unfold Rcv.fH;rw[if_neg U,if_neg c']
   have hlt:cC x.n s<4611686018427387912:=by unfold Rcv.dA at c';omega
   have e2:IntKind.u64.wrap ((cC x.n s:Int)+1)=((cC x.n s+1:Nat):Int):=by rw[sL];omega
   have e3:stN 1 (.Q b 0) (.int .u64 ((cC x.n s+1:Nat):Int)) H=some (undef,H.set b (eU ⟨cC x.n s+1,x.h⟩ room)):=hP hb aC (by simp)
   have hb1:(H.set b (eU ⟨cC x.n s+1,x.h⟩ room))[b]? =some (eU ⟨cC x.n s+1,x.h⟩ room):=dN hb;have e4:=(sS hb1).2.1;have e5:IntKind.i64.wrap ((x.h:Int)+1)=((x.h+1:Nat):Int):=by rw[bJ U U];omega
   have e6:stN 1 (.Q b 1) (.I ((x.h+1:Nat):Int)) (H.set b (eU ⟨cC x.n s+1,x.h⟩ room))=some (undef,(H.set b (eU ⟨cC x.n s+1,x.h⟩ room)).set b (eU ⟨cC x.n s+1,x.h+1⟩ room)):=hP hb1 aC (by simp)
   simp only[gsR,e1,x0,x1,x2,c1,l0,l1,l2,eM,(vG hx).1,dJ _ _ iU o6,ef,c2,aV,e2,e3,e4,e5,e6,d,Px]
   exact⟨_,rfl,Put1.Cm hb⟩
 ·have c1:decide (x.n<=cC x.n s)=false:=aUY c
  have d:x.fH room s=(60,x):=by unfold Rcv.fH;rw[if_pos U]
  simp only[gsR,e1,x0,x1,x2,c1,d]
  exact⟨_,rfl,Put1.vF hb⟩
theorem aNV (hm:0<m)(hb:H[b]? =some (eU x room))(hx:RcvOk x room): ∃H' u,lvl prog pkN m (.func 133) [.Q b 0] H=some (u,H')/\Put1 H b (eU x.tQ room) H':=by
 have:=hx.h;have:=hx.room;refine dL (aQ rfl) U ?_
 rw[aMR];obtain⟨l0,l1,l2⟩:=sS hb;by_cases c:x.h=0
 ·have c1:((x.h:Int)==0)=true:=by simp[c]
  simp only[gsR,l1,c1];refine⟨_,_,rfl,?_⟩;have d:x.tQ=x:=by unfold Rcv.tQ;rw[c];cases x;simp at c;subst c;rfl
  rw[d];exact Put1.vF hb
 ·have c1:((x.h:Int)==0)=false:=by simp[c]
  have e5:IntKind.i64.wrap ((x.h:Int)-1)=((x.h-1:Nat):Int):=by rw[bJ U U];omega
  have e6:stN 1 (.Q b 1) (.I ((x.h-1:Nat):Int)) H=some (undef,H.set b (eU x.tQ room)):=hP hb aC (by simp)
  simp only[gsR,l1,c1,eM,e5,e6]
  exact⟨_,_,rfl,Put1.Cm hb⟩
theorem aNW (hm:3<m)(hb:H[b]? =some (eU x room))(hx:RcvOk x room)(s:Nat)(hs:s<65536): ∃H' u,lvl prog pkN m (.func 104) [.Q b 0,.int .u16 s] H=some (u,H')/\Put1 H b (eU (x.mB room s) room) H':=by
 have:=hx.h;have:=hx.room;have:=hx.big;have hwl:=P5 x.n s;refine dL (aQ rfl) U ?_
 rw[aMv];have e1:=aBo (m:=m-1) U hb hx s hs
 obtain⟨l0,l1,l2⟩:=sS hb;have x0: ∀y,ext 0 (.tuple #[.int .u64 (cC x.n s),.int .u64 (lQ x.n (cC x.n s)),.bool y])=some (.int .u64 (cC x.n s)):=λ_=>rfl
 have x1: ∀y,ext 1 (.tuple #[.int .u64 (cC x.n s),.int .u64 (lQ x.n (cC x.n s)),.bool y])=some (.int .u64 (lQ x.n (cC x.n s))):=λ_=>rfl
 have x2: ∀y,ext 2 (.tuple #[.int .u64 (cC x.n s),.int .u64 (lQ x.n (cC x.n s)),.bool y])=some (.bool y):=λ_=>rfl
 by_cases c:x.n<=cC x.n s
 ·have c1:decide (x.n<=cC x.n s)=true:=aUX c
  have hf:=aBn U hwl c
  have ef:IntKind.u64.wrap (((room-x.h:Nat)):Int)=_:=(vG hx).2;by_cases c0:cC x.n s=x.n
  ·have c2:((lQ x.n (cC x.n s):Int)==0)=true:=by rw[hf,c0];simp
   have d:x.mB room s=x:=by unfold Rcv.mB;rw[if_pos U]
   simp only[gsR,e1,x0,x1,x2,c1,c2]
   exact⟨_,_,rfl,by rw[d];exact Put1.vF hb⟩
  ·have c2:((lQ x.n (cC x.n s):Int)==0)=false:=by rw[hf];simp;omega
   by_cases c':x.dA room<cC x.n s
   ·have c3:decide (((room-x.h:Nat):Int)<(lQ x.n (cC x.n s):Int))=true:=by rw[decide_eq_true_eq,hf];unfold Rcv.dA at c';omega
    have d:x.mB room s=x:=by unfold Rcv.mB;rw[if_pos U]
    simp only[gsR,e1,x0,x1,x2,c1,c2,l0,l1,l2,eM,(vG hx).1,dJ _ _ iU o6,ef,c3]
    exact⟨_,_,rfl,by rw[d];exact Put1.vF hb⟩
   ·have c3:decide (((room-x.h:Nat):Int)<(lQ x.n (cC x.n s):Int))=false:=by rw[decide_eq_false_iff_not,hf];unfold Rcv.dA at c';omega
    have d:x.mB room s=⟨cC x.n s,x.h⟩:=by unfold Rcv.mB;rw[if_neg U]
    have e3:stN 1 (.Q b 0) (.int .u64 (cC x.n s)) H=some (undef,H.set b (eU ⟨cC x.n s,x.h⟩ room)):=hP hb aC (by simp)
    simp only[gsR,e1,x0,x1,x2,c1,c2,l0,l1,l2,eM,(vG hx).1,dJ _ _ iU o6,ef,c3,e3]
    exact⟨_,_,rfl,by rw[d];exact Put1.Cm hb⟩
 ·have c1:decide (x.n<=cC x.n s)=false:=aUY c
  have d:x.mB room s=x:=by unfold Rcv.mB;rw[if_pos U]
  simp only[gsR,e1,x0,x1,x2,c1]
  exact⟨_,_,rfl,by rw[d];exact Put1.vF hb⟩
end
end
def frC (f:Frm):List Value:=[.int .u8 f.kind,.int .u8 f.lane,.int .u16 f.seq,.int .u8 f.src,.int .u8 f.dst,.int .u32 f.body]
def frV (f:Frm):Value:= .agg ⟨frC f⟩
def frB (f:Frm):Blk:= .cells (frC f) 157 .fix
def byC (b:UInt8):List Value:=[dF b]
theorem Hf (b:UInt8):(byC b).length=1:=rfl
theorem aBt (b:UInt8):cA (byC b)=true:=rfl
theorem sT: ∀bs:List UInt8,(bs.map byC).flatten=bs.map dF
 |[]=>rfl
 |b::bs=>by simp[byC,sT bs]
abbrev By (H:aF)(v:Value)(bs:List UInt8):Prop:=Rw byC 5 1 H v bs
theorem By.br {H:aF}{v:Value}{bs:List UInt8}(h:By H v bs):Br H v bs:=by
 rcases h.rs with⟨h1,h2⟩|⟨b,o,cap,h1,h2,h3⟩
 ·exact .inl ⟨h2,.inl h1⟩
 ·by_cases hb:bs=[]
  ·exact .inl ⟨hb,.inr ⟨b,o,cap,by rw[h1,hb];rfl⟩⟩
  ·obtain⟨e',k,pre,post,h4,_,h5⟩:=h3 hb
   refine .inr ⟨b,o,cap,_,e',k,h1,List.length_pos_iff.mpr hb,h5,?_,?_⟩
   ·rw[sT]
    simp;omega
   ·rw[sT,<-h4,aUk,List.drop_left]
    have:bs.length=(bs.map dF).length:=by simp
    rw[this,List.take_left]
section
variable {H : aF} {m : Nat}
theorem oF:prog.underlying 29=some (.int .u32):=by kernel_rfl
theorem kFr:rM prog 157=some [true,true,true,true,true,true]:=by kernel_rfl
def Hg (x y:Frm):Bool:=((x.kind:Int)==y.kind)&&(((x.lane:Int)==y.lane)&&(((x.seq:Int)==y.seq)&&(((x.src:Int)==y.src)&&(((x.dst:Int)==y.dst)&&(((x.body:Int)==y.body)&&true)))))
theorem eFr (x y:Frm):bin prog .eql 157 (frV x) (frV y)=some (.bool (Hg x y)):=by
 simp[bin,frV,cL,jZ,kFr,eqT,frC,Hg]
theorem w7 (a b:Int):gJ prog true [.int .u8 a,.int .u8 b]=some (.int .u8 (max a b)):=by
 simp[gJ,cL,eN,pur,Builtin.max_,Builtin.max2,pure,bind,Sem.bind]
 split<;>omega
theorem lR {b:Nat}{f:Frm}(hb:H[b]? =some (frB f)):ld1 (.Q b 0) H=some (.int .u8 f.kind,H)/\ld1 (.Q b 1) H=some (.int .u8 f.lane,H)/\ld1 (.Q b 2) H=some (.int .u16 f.seq,H)/\
  ld1 (.Q b 3) H=some (.int .u8 f.src,H)/\ld1 (.Q b 4) H=some (.int .u8 f.dst,H)/\ld1 (.Q b 5) H=some (.int .u32 f.body,H)/\ldN 6 (.Q b 0) H=some (frV f,H):=
 ⟨bA hb rfl,bA hb rfl,bA hb rfl,bA hb rfl,bA hb rfl,bA hb rfl,mV hb (aUi 6)⟩
theorem xG (a b:Nat):((a:Int)==(b:Int))=decide (a=b):=by
 by_cases h:a=b
 ·simp[h]
 ·simp[h];omega
theorem Cn (a b:Nat):((a:Int)!=(b:Int))=decide (a≠b):=by
 by_cases h:a=b
 ·simp[h]
 ·simp[h];omega
theorem aBu (hm:0<m)(f:Frm):lvl prog pkN m (.func 119) [frV f] H=some (.bool (dB f),H++[frB f]):=by
 refine aS (aQ rfl) hm ?_;rw[aMx];have e0:(Blk.cells (Value.cells (frV f)).toList 157 .fix)=frB f:=rfl;obtain⟨l0,l1,l2,l3,l4,l5,l6⟩:=lR (cG H (frB f));have k1:((f.kind:Int)==1)=decide (f.kind=1):=xG f.kind 1;have k2:((f.kind:Int)==2)=decide (f.kind=2):=xG f.kind 2;have k3:((f.kind:Int)==3)=decide (f.kind=3):=xG f.kind 3;have k4:decide ((f.lane:Int)<3)=decide (f.lane<=2):=by congr 1;exact propext U
 have k5:decide (max (f.src:Int) (f.dst:Int)<6)=decide (f.src<=5/\f.dst<=5):=by congr 1;exact propext U
 have k6:((f.src:Int)!=(f.dst:Int))=decide (f.src≠f.dst):=Cn _ _;have b1:bld prog 157 [(0,.int .u8 f.kind),(1,.int .u8 f.lane),(2,.int .u16 f.seq)]=some (frV ⟨f.kind,f.lane,f.seq,0,0,0⟩):=rfl;have b2:Hg f ⟨f.kind,f.lane,f.seq,0,0,0⟩=decide (f.src=0/\f.dst=0/\f.body=0):=by
  simp only[Hg,xG,decide_true,aUA,Bool.and_true];rw[<-Bool.decide_and,<-Bool.decide_and]
 by_cases p1:f.kind=1
 ·by_cases p2:f.lane<=2
  ·by_cases p3:f.src<=5/\f.dst<=5
   ·by_cases p4:f.src≠f.dst
    ·have hs:dB f=true:=by unfold dB;simp[p1,p2,p3.1,p3.2,p4]
     simp only[gsR,e0,l0,l1,l3,l4,w7,k1,k4,k5,k6,aUX p1,aUX p2,aUX p3,aUX p4,hs]
    ·have hs:dB f=false:=by unfold dB;simp[p1,p4]
     simp only[gsR,e0,l0,l1,l3,l4,w7,k1,k4,k5,k6,aUX p1,aUX p2,aUX p3,aUY p4,hs]
   ·have hs:dB f=false:=by unfold dB;simp[p1];omega
    simp only[gsR,e0,l0,l1,l3,l4,w7,k1,k4,k5,k6,aUX p1,aUX p2,aUY p3,hs]
  ·have hs:dB f=false:=by unfold dB;simp[p2]
   simp only[gsR,e0,l0,l1,l3,l4,w7,k1,k4,k5,k6,aUX p1,aUY p2,hs]
 ·by_cases p2:f.kind=2
  ·by_cases p3:f.lane<=2
   ·by_cases p4:f.src=0/\f.dst=0/\f.body=0
    ·have hs:dB f=true:=by unfold dB;simp[p2,p3,p4.1,p4.2.1,p4.2.2]
     simp only[gsR,e0,l0,l1,l2,l6,k1,k2,k4,b1,eFr,b2,aUY p1,aUX p2,aUX p3,aUX p4,hs]
    ·have hs:dB f=false:=by unfold dB;simp[p2];omega
     simp only[gsR,e0,l0,l1,l2,l6,k1,k2,k4,b1,eFr,b2,aUY p1,aUX p2,aUX p3,aUY p4,hs]
   ·have hs:dB f=false:=by unfold dB;simp[p3]
    simp only[gsR,e0,l0,l1,l2,l6,k1,k2,k4,b1,eFr,b2,aUY p1,aUX p2,aUY p3,hs]
  ·by_cases p2':f.kind=3
   ·by_cases p3:f.lane<=2
    ·by_cases p4:f.src=0/\f.dst=0/\f.body=0
     ·have hs:dB f=true:=by unfold dB;simp[p2',p3,p4.1,p4.2.1,p4.2.2]
      simp only[gsR,e0,l0,l1,l2,l6,k1,k2,k3,k4,b1,eFr,b2,aUY p1,aUY p2,aUX p2',aUX p3,aUX p4,hs]
     ·have hs:dB f=false:=by unfold dB;simp[p2'];omega
      simp only[gsR,e0,l0,l1,l2,l6,k1,k2,k3,k4,b1,eFr,b2,aUY p1,aUY p2,aUX p2',aUX p3,aUY p4,hs]
    ·have hs:dB f=false:=by unfold dB;simp[p3]
     simp only[gsR,e0,l0,l1,l2,l6,k1,k2,k3,k4,b1,eFr,b2,aUY p1,aUY p2,aUX p2',aUY p3,hs]
   ·have hs:dB f=false:=by unfold dB;simp[p1,p2,p2']
    simp only[gsR,e0,l0,l1,l2,l6,k1,k2,k3,k4,aUY p1,aUY p2,aUY p2',hs]
theorem P8 (n:Nat):dF (by8 n)= .int .u8 ((n%256:Nat):Int):=by rw[dF,sQ]
theorem Co (hm:0<m){H0:aF}{v:Value}{bs:List UInt8}(n:Nat)(hn:n<65536)(h:By H v bs)(hv:New H0 v)(he:Ext H0 H)(hr:eH (bs.length+2) 1=true):
  ∃H' v',lvl prog pkN m (.func 120) [v,.int .u16 n] H=some (v',H')/\By H' v' (bs++dU n)/\New H0 v'/\Ext H0 H':=by
 refine dL (aQ rfl) hm ?_;rw[aMy];have e1:bin prog .shr 23 (.int .u16 (n:Int)) (.int .u64 8)=some (.int .u16 ((n/256:Nat):Int)):=by
  have:=Fa (P:=prog) .u16 .u64 23 n 8 aC
  rw[Nat.shiftRight_eq_div_pow] at this;exact this
 have e2:b9 5 1 2 [.int .u8 0] [(0,.int .u8 ((n/256%256:Nat):Int)),(1,.int .u8 ((n%256:Nat):Int))] H=some (.slice (some ⟨H.length,0,none⟩) 2 2,H++[.cells ((dU n).map byC).flatten 5 .row]):=by
  rw[sT];simp only[dU,aUI,List.map_nil,P8];rfl
 have hw:Rs byC 5 (H++[.cells ((dU n).map byC).flatten 5 .row]) (.slice (some ⟨H.length,0,none⟩) 2 2) (dU n):=
  .inr ⟨H.length,0,2,rfl,aUi 2,λ_=>⟨5,.row,[],[],rfl,λ_=>rfl,by simp⟩⟩
 obtain⟨v',H',g1,g2,g3,g4⟩:=(h.uU [.cells ((dU n).map byC).flatten 5 .row]).wM Hf aBt aC (by':=1) hw hv (he.tr (Fr.app _ _ _)) hr
 simp only[gsR,e1,dJ _ _ kK u8U,aNI,e2,g1]
 exact⟨_,_,rfl,g2,g3,g4⟩
theorem aN3 (hm:1<m){H0:aF}{v:Value}{bs:List UInt8}(n:Nat)(hn:n<4294967296)(h:By H v bs)(hv:New H0 v)(he:Ext H0 H)(hr:eH (bs.length+4) 1=true):
  ∃H' v',lvl prog pkN m (.func 121) [v,.int .u32 n] H=some (v',H')/\By H' v' (bs++(dU (n/65536)++dU n))/\New H0 v'/\Ext H0 H':=by
 refine dL (aQ rfl) U ?_
 rw[aMz];have e1:bin prog .shr 29 (.int .u32 (n:Int)) (.int .u64 16)=some (.int .u32 ((n/65536:Nat):Int)):=by
  have:=Fa (P:=prog) .u32 .u64 29 n 16 aC
  rw[Nat.shiftRight_eq_div_pow] at this;exact this
 have e2:IntKind.u16.wrap ((n/65536:Nat):Int)=((n/65536:Nat):Int):=Ls U U
 obtain⟨H1,v1,g1,g2,g3,g4⟩:=Co (m:=m-1) U (n/65536) U h hv he (eD hr U)
 obtain⟨H2,v2,g5,g6,g7,g8⟩:=Co (m:=m-1) U (n%65536) U g2 g3 g4 (eD hr (by simp[dU]))
 have e3:dU (n%65536)=dU n:=by
  simp only[dU];rw[vE (n:=n%65536/256) (c:=by8 (n/256)) (by rw[sQ];omega),vE (n:=n%65536) (c:=by8 n) (by rw[sQ];omega)]
 rw[e3,aUk] at g6;simp only[gsR,e1,dJ _ _ oF kK,e2,g1,Cj,g5]
 exact⟨_,_,rfl,g6,g7,g8⟩
end
section
variable {H : aF} {m : Nat}
theorem By.aBv (H:aF)(bs:List UInt8):By (H++[.cells ((bs.map byC).flatten) 5 .row]) (.slice (some ⟨H.length,0,none⟩) bs.length bs.length) bs:=by
 refine⟨by rw[sT];simp,.inr ⟨H.length,bs.length,[],rfl,aUi _,by simp,by simp⟩⟩
theorem By.ext {H':aF}{v:Value}{bs:List UInt8}(h:By H v bs)(he:Ext H H'):By H' v bs:=h.cZ λb hb=>he.2 b (h.dO hb) id
theorem aN5 (H0:aF){H:aF}(he:Ext H0 H)(n c:Nat):New H0 (.slice (some ⟨H.length,0,none⟩) n c):=λb ⟨_,_,_,h⟩=>by
 cases h;exact he.1
theorem P9 {n:Nat}(h:n<=100):eH n 1=true:=eD (n:=100) aC h
theorem aN4 (hm:100<m)(f:Frm)(hf:f.ok): ∃H' v,lvl prog pkN m (.func 90) [frV f] H=some (.tuple #[v,.int .u16 (if dB f=true then 0 else 1)],H')/\Ext H H'/\By H' v (mW f)/\New H v:=by
 have main: ∃H' r,lvl prog pkN m (.func 90) [frV f] H=some (r,H')/\ ∃v,r= .tuple #[v,.int .u16 (if dB f=true then 0 else 1)]/\Ext H H'/\By H' v (mW f)/\New H v:=by
  refine dL (aQ rfl) U ?_
  rw[aNu];have e0:(Blk.cells (Value.cells (frV f)).toList 157 .fix)=frB f:=rfl;obtain⟨l0,l1,l2,l3,l4,l5,l6⟩:=lR (cG H (frB f));have s1:=aBu (H:=H++[frB f]) (m:=m-1) U f
  have x0:Ext H (H++[frB f]):=Fr.app _ _ _;have x1:Ext H (H++[frB f]++[frB f]):=x0.tr (Fr.app _ _ _);by_cases hs:dB f=true
  ·rw[hs] at s1
   have hb2:=lN (cG H (frB f)) (frB f);obtain⟨q0,q1,q2,q3,q4,q5,q6⟩:=lR hb2;have e2: ∀G:aF,b9 5 1 2 [.int .u8 0] [(0,.int .u8 (f.kind:Int)),(1,.int .u8 (f.lane:Int))] G=some (.slice (some ⟨G.length,0,none⟩) 2 2,G++[.cells (([by8 f.kind,by8 f.lane].map byC).flatten) 5 .row]):=λG=>by
    rw[sT];simp only[aUI,List.map_nil,P8,aUL hf.kind,aUL hf.lane];rfl
   obtain⟨G2,hG2⟩: ∃G2,H++[frB f]++[frB f]=G2:=⟨_,rfl⟩;rw[hG2] at s1 x1 hb2 q0 q1 q2 q3 q4 q5 q6;obtain⟨G3,hG3⟩: ∃G3,G2++[Blk.cells (([by8 f.kind,by8 f.lane].map byC).flatten) 5 .row]=G3:=⟨_,rfl⟩;have b3:By G3 (.slice (some ⟨G2.length,0,none⟩) 2 2) [by8 f.kind,by8 f.lane]:=by rw[<-hG3];exact By.aBv G2 [by8 f.kind,by8 f.lane]
   have x3:Ext H G3:=by rw[<-hG3];exact x1.tr (Fr.app _ _ _)
   have hb3:G3[H.length]? =some (frB f):=by rw[<-hG3];exact lN hb2 _
   obtain⟨p0,p1,p2,p3,p4,p5,p6⟩:=lR hb3;have x3':Ext G2 G3:=by rw[<-hG3];exact Fr.app _ _ _
   obtain⟨G4,v4,g1,b4,n4',x4'⟩:=Co (m:=m-1) U (H0:=G2) f.seq hf.seq b3 (aN5 G2 (Fr.dS _ _) 2 2) x3' (P9 (by simp))
   have nk:((f.kind:Int)==1)=decide (f.kind=1):=xG f.kind 1;have hb4:G4[H.length]? =some (frB f):=by rw[x4'.2 _ (bU hb2) id,hb2]
   obtain⟨t0,t1,t2,t3,t4,t5,t6⟩:=lR hb4;by_cases hk:f.kind=1
   ·have e5:b9 5 1 2 [.int .u8 0] [(0,.int .u8 (f.src:Int)),(1,.int .u8 (f.dst:Int))] G4=some (.slice (some ⟨G4.length,0,none⟩) 2 2,G4++[.cells (([by8 f.src,by8 f.dst].map byC).flatten) 5 .row]):=by
     rw[sT];simp only[aUI,List.map_nil,P8,aUL hf.src,aUL hf.dst];rfl
    have w5:Rs byC 5 (G4++[.cells (([by8 f.src,by8 f.dst].map byC).flatten) 5 .row]) (.slice (some ⟨G4.length,0,none⟩) 2 2) [by8 f.src,by8 f.dst]:=(By.aBv G4 [by8 f.src,by8 f.dst]).rs;obtain⟨v6,G6,g6,b6,n6,x6⟩:=(b4.uU [.cells (([by8 f.src,by8 f.dst].map byC).flatten) 5 .row]).wM Hf aBt aC (by':=1) w5 n4' (x4'.tr (Fr.app _ _ _)) (P9 (by simp[dU]))
    have hb6:G6[H.length]? =some (frB f):=by rw[x6.2 _ (bU hb2) id,hb2]
    obtain⟨r0,r1,r2,r3,r4,r5,r6⟩:=lR hb6;have hb5:(G4++[Blk.cells (([by8 f.src,by8 f.dst].map byC).flatten) 5 .row])[H.length]? =some (frB f):=lN hb4 _;have r5':=(lR hb5).2.2.2.2.2.1;have ck:chk (some (Value.int .u32 (f.body:Int),G4++[Blk.cells (([by8 f.src,by8 f.dst].map byC).flatten) 5 .row])) (.int .u32 (f.body:Int))=true:=by simp[chk,veq]
    obtain⟨G7,v7,g7,b7,n7,x7⟩:=aN3 (m:=m-1) U f.body hf.body b6 n6 x6 (P9 (by simp[dU]))
    have hbody:iQ f=[by8 f.kind,by8 f.lane]++dU f.seq++[by8 f.src,by8 f.dst]++(dU (f.body/65536)++dU f.body):=by
     unfold iQ wZ;rw[if_pos hk];simp[dU]
    rw[<-hbody] at b7;have hl7:(iQ f).length=10:=by rw[hbody];simp[dU]
    have s7:=P3 (H:=G7) (m:=m-1) b7.br U U U
    obtain⟨G8,v8,g8,b8,n8,x8⟩:=Co (H:=G7++[iY (crc (iQ f))]) (m:=m-1) U (crc (iQ f)) (He _) (b7.ext (Fr.app _ _ _)) n7 (x7.tr (Fr.app _ _ _)) (by rw[hl7];decide)
    simp only[gsR,e0,l6,hG2,s1,q0,q1,e2,hG3,p2,g1,t0,nk,aUX hk,t3,t4,e5,g6,r5,r5',ck,g7,s7,g8];refine⟨_,_,rfl,_,by simp[hs],x1.tr x8,?_,λb hb=>aUt x1.1 (n8 b hb)⟩
    unfold mW lP jM;rw[if_pos hs];exact b8
   ·have hbody:iQ f=[by8 f.kind,by8 f.lane]++dU f.seq:=by
     unfold iQ wZ;rw[if_neg hk];simp[dU]
    rw[<-hbody] at b4;have hl7:(iQ f).length=4:=by rw[hbody];simp[dU]
    have s7:=P3 (H:=G4) (m:=m-1) b4.br U U U
    obtain⟨G8,v8,g8,b8,n8,x8⟩:=Co (H:=G4++[iY (crc (iQ f))]) (m:=m-1) U (crc (iQ f)) (He _) (b4.ext (Fr.app _ _ _)) n4' (x4'.tr (Fr.app _ _ _)) (by rw[hl7];decide)
    simp only[gsR,e0,l6,hG2,s1,q0,q1,e2,hG3,p2,g1,t0,nk,aUY hk,s7,g8];refine⟨_,_,rfl,_,by simp[hs],x1.tr x8,?_,λb hb=>aUt x1.1 (n8 b hb)⟩
    unfold mW lP jM;rw[if_pos hs];exact b8
  ·have hs':dB f=false:=by simpa using hs
   rw[hs'] at s1;simp only[gsR,e0,l6,s1];refine⟨_,_,rfl,_,by simp[hs],x1,?_,New.iE H⟩
   unfold mW lP;rw[if_neg hs];exact Rw.fD
 obtain⟨H',r,h1,v,rfl,h2⟩:=main
 exact⟨H',v,h1,h2⟩
end
section
variable {H : aF} {m : Nat}
abbrev Bs (H:aF)(v:Value)(bs:List UInt8):Prop:=Rs byC 5 H v bs
theorem aN6 {v:Value}{bs:List UInt8}(h:Bs H v bs):Br H v bs:=by
 rcases h with⟨h1,h2⟩|⟨b,o,cap,h1,h2,h3⟩
 ·exact .inl ⟨h2,.inl h1⟩
 ·by_cases hb:bs=[]
  ·exact .inl ⟨hb,.inr ⟨b,o,cap,by rw[h1,hb];rfl⟩⟩
  ·obtain⟨e',k,pre,post,h4,_,h5⟩:=h3 hb
   refine .inr ⟨b,o,cap,_,e',k,h1,List.length_pos_iff.mpr hb,h5,?_,?_⟩
   ·rw[sT]
    simp;omega
   ·rw[sT,<-h4,aUk,List.drop_left]
    have:bs.length=(bs.map dF).length:=by simp
    rw[this,List.take_left]
theorem Cp {v:Value}{bs:List UInt8}(h:Bs H v bs){i:Nat}{x:UInt8}(hx:bs[i]? =some x)(k:IntKind): ∃a,cN 1 v (.int k i)=some a/\ ∀H',Ext H H'->ld1 a H'=some (dF x,H'):=by
 obtain⟨b,o,h1,h2,h3⟩:=h.dM Hf hx k;obtain⟨e',hr⟩:=h.rr (λh=>by subst h;simp at hx)
 exact⟨_,h1,λH' he=>(h3 H' (he.2 b (hr.aIm h2) id)).2.1 0 (dF x) rfl⟩
theorem aBx (bs:List UInt8)(c:UInt8):dC (bs++[c])=dC bs*256+c.toNat:=by simp[dC]
theorem Qa: ∀(n:Nat)(bs:List UInt8),bs.length=n->dC bs<256 ^ n:=by
 intro n;induction n with
 |zero=>intro bs h;rw[aUv.mp h];decide
 |succ n ih=>
  intro bs h;have hne:bs≠[]:=λhh=>by rw[hh] at h;simp at h
  rw[<-List.dropLast_concat_getLast hne,aBx,Nat.pow_succ];have h1:=ih bs.dropLast (by simp[h])
  have h2:=(bs.getLast hne).toNat_lt;omega
theorem aN9 (n c:Nat)(hc:c<256):n*256|||c=n*256+c:=by
 have:=Nat.shiftLeft_add_eq_or_of_lt (i:=8) (b:=c) hc n;rw[Nat.shiftLeft_eq] at this;exact this.symm
theorem aOa {u:Value}{bs:List UInt8}(hu:Bs H u bs)(h4:bs.length<=4): ∀(q i k:Nat),bs.length-i=q->i<=bs.length->q<k->
  ∀x2:Value,aL k (aO prog (lvl prog pkN m) (aL m) Oj) (Ol (lvl prog pkN m) (aL m)) (aG 2 (x2::some (.int .u32 (dC (bs.take i)))::aG 2 (u::some (.I bs.length)::some (.I i)::aG 10 []))) H=some (.int .u32 (dC bs),H):=by
 intro q;induction q with
 |zero=>
  intro i k hq hi hk x2;obtain⟨k,rfl⟩: ∃k',k=k'+1:=⟨k-1,by omega⟩
  have hi8:i=bs.length:=U
  subst hi8;have c1:decide ((bs.length:Int)<(bs.length:Int))=false:=by simp
  rw[aL,aAU];simp only[gsR,c1];rw[aMU];simp only[gsR,List.take_length]
 |succ q ih=>
  intro i k hq hi hk x2;obtain⟨k,rfl⟩: ∃k',k=k'+1:=⟨k-1,by omega⟩
  have c1:decide ((i:Int)<(bs.length:Int))=true:=by rw[decide_eq_true_eq];omega
  have hx:bs[i]? =some bs[i]:=aUf U
  obtain⟨a,a1,a2⟩:=Cp hu hx .i64;have a2:=a2 H (Fr.dS _ _);have hb:=Qa i (bs.take i) (by simp;omega)
  have hb3:dC (bs.take i)<16777216:=aUs hb (Nat.pow_le_pow_right (n:=256) (i:=i) (j:=3) U U)
  have hc:=bs[i].toNat_lt;have e1:bin prog .shl 29 (.int .u32 (dC (bs.take i):Int)) (.int .u64 8)=some (.int .u32 ((dC (bs.take i)*256:Nat):Int)):=by
   have:=E9 (P:=prog) .u32 .u64 rfl 29 (dC (bs.take i)) 8 aC
   rw[show dC (bs.take i)*2 ^ 8%2 ^ IntKind.u32.bits=dC (bs.take i)*256 from by show dC (bs.take i)*256%4294967296=_;omega] at this
   exact this
  have e2:cK prog 5 29 (dF bs[i]) H=some (.int .u32 (bs[i].toNat:Int),H):=by
   show cK prog 5 29 (.int .u8 bs[i].toNat) H=_
   rw[dJ _ _ u8U oF,aBd _ U]
  have e3:bin prog .or 29 (.int .u32 ((dC (bs.take i)*256:Nat):Int)) (.int .u32 (bs[i].toNat:Int))=some (.int .u32 (dC (bs.take (i+1)):Int)):=by
   rw[Lr .u32 rfl _ (a:=dC (bs.take i)*256) (b:=bs[i].toNat) (by show _<4294967296;omega) (by show _<4294967296;omega),aN9 _ _ hc,List.take_add_one,hx]
   rw[show(some bs[i]).toList=[bs[i]] from rfl,aBx]
  have e4:=aA (i:=i) U
  rw[aL,aAU];simp only[gsR,c1,a1,a2,e1,e2,e3,aV,e4];exact ih (i+1) k U U U ..
theorem Qb {u:Value}{bs:List UInt8}(hu:Bs H u bs)(h4:bs.length<=4)(hm:10<m):lvl prog pkN m (.func 136) [u] H=some (.int .u32 (dC bs),H):=by
 refine aS (aQ rfl) U ?_
 rw[aMV];simp only[gsR,hu.eC];exact aOa hu h4 bs.length 0 (m-1) U U U ..
def zfB:Blk:=frB Frm.lO
def lB (bs:List UInt8):Value:=match fF bs with
 |some f=> .tuple #[frV f,.int .u16 0]
 |none=> .tuple #[frV Frm.lO,.int .u16 30]
theorem aN7:prog.cellsOf 5=1:=by kernel_rfl
theorem Hi {b:Nat}{f:Frm}(g:Frm)(hb:H[b]? =some (frB f)):stN 6 (.Q b 0) (frV g) H=some (undef,H.set b (frB g)):=qV hb aC rfl rfl (aUi 6) rfl
theorem zU (a b:Bool):bin prog .neq 4 (.bool a) (.bool b)=some (.bool (a !=b)):=by
 cases a<;>cases b<;>rfl
theorem zV {H G:aF}{b:Nat}(he:Ext H G)(hb:H.length<=b)(y:Blk):Ext H (G.set b y):=⟨by simp[he.1],λc hc _=>by rw[aUe U,he.2 c hc id]⟩
theorem aBw {G:aF}(he:Ext H G)(h0:G[H.length]? =some zfB)(h1:G[H.length+1]? =some zfB):ldN 6 (.Q (H.length+1) 0) G=some (frV Frm.lO,G)/\
  stN 6 (.Q H.length 0) (frV Frm.lO) G=some (undef,G.set H.length zfB)/\ldN 6 (.Q H.length 0) (G.set H.length zfB)=some (frV Frm.lO,G.set H.length zfB)/\Ext H (G.set H.length zfB):=
 ⟨(lR h1).2.2.2.2.2.2,Hi Frm.lO h0,(lR (dN h0)).2.2.2.2.2.2,zV he (aUi _) _⟩
theorem aBy (H:aF)(X:aF):(H++[zfB]++[zfB]++X)[H.length]? =some zfB/\(H++[zfB]++[zfB]++X)[H.length+1]? =some zfB:=by
 constructor
 ·simp
 ·rw[aUk,aUk,aUx U]
  simp
theorem aN8 (hm:100<m){u:Value}{bs:List UInt8}(hu:Bs H u bs)(h6:bs.length≠6)(h12:bs.length≠12): ∃H',lvl prog pkN m (.func 99) [u] H=some (lB bs,H')/\Ext H H':=by
 refine iD (aQ rfl) U ?_
 rw[aBc];have hd:lB bs= .tuple #[frV Frm.lO,.int .u16 30]:=by
  unfold lB fF;rw[if_neg U,if_neg U]
 have e0:(Blk.cells [.int .u8 0,.int .u8 0,.int .u16 0,.int .u8 0,.int .u8 0,.int .u32 0] 157 .fix)=zfB:=rfl;have c1:((bs.length:Int)!=6)=true:=by simp;omega
 have c2:((bs.length:Int)!=12)=true:=by simp;omega
 have b2:=aBy H [];rw[List.append_nil] at b2;have x2:Ext H (H++[zfB]++[zfB]):=by rw[aUk];exact Fr.app _ _ _
 have hl2:(H++[zfB]).length=H.length+1:=by simp
 obtain⟨o1,o2,o3,o4⟩:=aBw x2 b2.1 b2.2;simp only[gsR,e0,hl2,hu.eC,c1,c2,o1,o2,o3,hd]
 exact⟨_,rfl,o4⟩
end
section
variable {H : aF} {m : Nat}
theorem aOb {bs:List UInt8}(h:bs.length=6∨bs.length=12):(bs.take 4).drop 2=[bs.getD 2 0,bs.getD 3 0]:=by
 rcases h with h|h
 ·match bs,h with
  |[a,b,c,d,e,f],_=>rfl
 ·match bs,h with
  |[a,b,c,d,e,f,g,h,i,j,k,l],_=>rfl
theorem aOc {bs:List UInt8}(h:bs.length=12):(bs.take 10).drop 6=[bs.getD 6 0,bs.getD 7 0,bs.getD 8 0,bs.getD 9 0]:=by
 match bs,h with
 |[a,b,c,d,e,f,g,h,i,j,k,l],_=>rfl
theorem Hj {bs:List UInt8}{i:Nat}(h:i<bs.length):bs[i]? =some (bs.getD i 0):=by
 rw[aUh,aUf h];rfl
theorem Hm (a:Option Addr)(n c:Nat)(G:aF):chk (some (Value.slice a n c,G)) (.slice a n c)=true:=by simp[chk,veq]
theorem Hl (x:UInt8)(G:aF):chk (some (dF x,G)) (dF x)=true:=by simp[chk,veq,dF]
theorem aOd (x:UInt8)(n:Nat)(z:Int)(hz:z=n):bin prog .eql 5 (dF x) (.int .u8 z)=some (.bool (decide (x.toNat=n))):=by
 rw[dF,b_eql,hz,xG]
theorem aOe (a b:UInt8):dC [a,b]<65536:=by
 have:=a.toNat_lt;have:=b.toNat_lt;rw[P1];omega
theorem bff:(false !=false)=false:=rfl
theorem btt:(true !=true)=false:=rfl
theorem aBB (hm:0<m){G:aF}{f:Frm}(he:Ext H G)(h0:G[H.length]? =some zfB)(h1:G[H.length+1]? =some (frB f)):
  ldN 6 (.Q (H.length+1) 0) G=some (frV f,G)/\lvl prog pkN m (.func 119) [frV f] G=some (.bool (dB f),G++[frB f])/\
  ldN 6 (.Q (H.length+1) 0) (G++[frB f])=some (frV f,G++[frB f])/\
  (∀g,stN 6 (.Q H.length 0) (frV g) (G++[frB f])=some (undef,(G++[frB f]).set H.length (frB g))/\ldN 6 (.Q H.length 0) ((G++[frB f]).set H.length (frB g))=some (frV g,(G++[frB f]).set H.length (frB g))/\Ext H ((G++[frB f]).set H.length (frB g))):=by
 have hx:Ext H (G++[frB f]):=he.tr (Fr.app _ _ _);have h0':(G++[frB f])[H.length]? =some (frB Frm.lO):=lN h0 _
 exact⟨(lR h1).2.2.2.2.2.2,aBu hm f,(lR (lN h1 _)).2.2.2.2.2.2,λg=>⟨Hi g h0',(lR (dN h0')).2.2.2.2.2.2,zV hx (aUi _) _⟩⟩
theorem aBA (hm:200<m){u:Value}{bs:List UInt8}(hu:Bs H u bs)(hl:bs.length=6∨bs.length=12): ∃H',lvl prog pkN m (.func 99) [u] H=some (lB bs,H')/\Ext H H':=by
 have hne:bs≠[]:=λhh=>by rw[hh] at hl;simp at hl
 obtain⟨sb,so,cap,rfl,hcap,hs⟩:=hu.aNG Hf aN7 hne;refine iD (aQ rfl) U ?_
 rw[aBc];have e0:(Blk.cells [.int .u8 0,.int .u8 0,.int .u16 0,.int .u8 0,.int .u8 0,.int .u32 0] 157 .fix)=zfB:=rfl;have hl2:(H++[zfB]).length=H.length+1:=by simp
 have x2:Ext H (H++[zfB]++[zfB]):=by rw[aUk];exact Fr.app _ _ _
 have b2:=aBy H [];rw[List.append_nil] at b2;obtain⟨G2,hG2⟩: ∃G2,H++[zfB]++[zfB]=G2:=⟨_,rfl⟩;rw[hG2] at x2 b2;have w1:IntKind.i64.wrap ((bs.length:Int)-2)=((bs.length-2:Nat):Int):=by rw[bJ U U];omega
 have f1: ∀G,Ext H G->slc prog 1 (.slice (some ⟨sb,so,none⟩) bs.length cap) none (some (.I ((bs.length-2:Nat):Int))) (some (.I ((bs.length-2:Nat):Int))) G=some (.slice (some ⟨sb,so+0*1,none⟩) (bs.length-2-0) (bs.length-2-0),G)/\Bs G (.slice (some ⟨sb,so+0*1,none⟩) (bs.length-2-0) (bs.length-2-0)) (bs.take (bs.length-2)):=λG he=>by
  have:=hs G (hu.ext he) 0 (bs.length-2) none _ _ (bs.length-2) rfl (gX _ .i64 _) (gX _ .i64 _) U U U U
  rw[List.drop_zero] at this;exact this
 have f2: ∀G,Ext H G->slc prog 1 (.slice (some ⟨sb,so,none⟩) bs.length cap) (some (.I ((bs.length-2:Nat):Int))) none none G=some (.slice (some ⟨sb,so+(bs.length-2)*1,none⟩) (bs.length-(bs.length-2)) (cap-(bs.length-2)),G)/\Bs G (.slice (some ⟨sb,so+(bs.length-2)*1,none⟩) (bs.length-(bs.length-2)) (cap-(bs.length-2))) (bs.drop (bs.length-2)):=λG he=>by
  have:=hs G (hu.ext he) (bs.length-2) bs.length _ none none cap (gX _ .i64 _) rfl rfl U U U U
  rw[List.take_length] at this;exact this
 have f3: ∀G,Ext H G->slc prog 1 (.slice (some ⟨sb,so,none⟩) bs.length cap) (some (.I 2)) (some (.I 4)) none G=some (.slice (some ⟨sb,so+2*1,none⟩) (4-2) (cap-2),G)/\Bs G (.slice (some ⟨sb,so+2*1,none⟩) (4-2) (cap-2)) [bs.getD 2 0,bs.getD 3 0]:=λG he=>by
  have:=hs G (hu.ext he) 2 4 (some (.I 2)) (some (.I 4)) none cap (gX _ .i64 2) (gX _ .i64 4) rfl U U U U
  rw[aOb hl] at this;exact this
 have q1:=(f1 G2 x2).1;have s1:=P3 (H:=G2) (m:=m-1) (aN6 (f1 G2 x2).2) U (by simp;omega) (by simp;omega)
 obtain⟨G3,hG3⟩: ∃G3,G2++[iY (crc (bs.take (bs.length-2)))]=G3:=⟨_,rfl⟩;rw[hG3] at s1;have x3:Ext H G3:=by rw[<-hG3];exact x2.tr (Fr.app _ _ _)
 have b30:G3[H.length]? =some zfB:=by rw[<-hG3];exact lN b2.1 _
 have b31:G3[H.length+1]? =some zfB:=by rw[<-hG3];exact lN b2.2 _
 have q2:=(f2 G3 x3).1;have q2':=(f2 G2 x2).1;have s2:=Qb (H:=G3) (m:=m-1) (f2 G3 x3).2 (by simp;omega) U
 have cv1:IntKind.u32.wrap (crc (bs.take (bs.length-2)):Int)=(crc (bs.take (bs.length-2)):Int):=aBd _ (by have:=He (bs.take (bs.length-2));omega)
 obtain⟨o1,o2,o3,o4⟩:=aBw x3 b30 b31;have ck2:chk (some (Value.slice (some ⟨sb,so+(bs.length-2)*1,none⟩) (bs.length-(bs.length-2)) (cap-(bs.length-2)),G2)) (.slice (some ⟨sb,so+(bs.length-2)*1,none⟩) (bs.length-(bs.length-2)) (cap-(bs.length-2)))=true:=Hm _ _ _ _;have c1: ∀z:Bool,((bs.length:Int)!=6)=z->z=decide (bs.length≠6):=λz hz=>by rw[<-hz];exact Cn bs.length 6
 have nn6:((bs.length:Int)!=6)=decide (bs.length≠6):=Cn bs.length 6;have nn12:((bs.length:Int)!=12)=decide (bs.length≠12):=Cn bs.length 12;have ne12:((bs.length:Int)==12)=decide (bs.length=12):=xG bs.length 12;have hlen:cX (Value.slice (some ⟨sb,so,none⟩) bs.length cap)=some (.I bs.length):=rfl;have ncr:((crc (bs.take (bs.length-2)):Int)!=(dC (bs.drop (bs.length-2)):Int))=decide (crc (bs.take (bs.length-2))≠dC (bs.drop (bs.length-2))):=Cn _ _;obtain⟨a0,i0,l0⟩:=Cp hu (Hj (bs:=bs) (i:=0) U) .i64
 obtain⟨a1,i1,l1⟩:=Cp hu (Hj (bs:=bs) (i:=1) U) .i64
 have i0':cN 1 (.slice (some ⟨sb,so,none⟩) bs.length cap) (.I 0)=some a0:=i0;have i1':cN 1 (.slice (some ⟨sb,so,none⟩) bs.length cap) (.I 1)=some a1:=i1;have k0:=aOd (bs.getD 0 0) 1 1 rfl;have hdn:crc (bs.take (bs.length-2))≠dC (bs.drop (bs.length-2))∨decide ((bs.getD 0 0).toNat=1)≠decide (bs.length=12)->lB bs= .tuple #[frV Frm.lO,.int .u16 30]:=λhh=>by
  have:fF bs=none:=by
   unfold fF pY;rcases hl with h6|h12
   ·by_cases hk:(bs.getD 0 0).toNat=1
    ·rw[if_neg U,if_neg U]
    ·rw[if_pos ⟨h6,hk⟩,if_neg]
     rintro ⟨h1,_⟩
     rcases hh with hh|hh
     ·rw[h6] at hh
      exact hh h1
     ·rw[aUY hk,aUY (show¬bs.length=12 by omega)] at hh
      exact hh rfl
   ·by_cases hk:(bs.getD 0 0).toNat=1
    ·rw[if_neg U,if_pos ⟨h12,hk⟩,if_neg]
     rintro ⟨h1,_⟩
     rcases hh with hh|hh
     ·rw[h12] at hh
      exact hh h1
     ·rw[aUX hk,aUX h12] at hh
      exact hh rfl
    ·rw[if_neg U,if_neg U]
  unfold lB;rw[this]
 by_cases hc:crc (bs.take (bs.length-2))=dC (bs.drop (bs.length-2))
 rotate_left
 ·have hd:=hdn (.inl hc)
  rcases hl with h6|h12
  ·have d6:decide (bs.length≠6)=false:=by simp[h6]
   simp only[gsR,e0,hl2,hG2,hlen,nn6,d6,eM,w1,q1,s1,dJ _ _ kK oF,cv1,q2,q2',ck2,s2,ncr,aUX hc,o1,o2,o3,hd]
   exact⟨_,rfl,o4⟩
  ·have d6:decide (bs.length≠6)=true:=by simp[h12]
   have d12:decide (bs.length≠12)=false:=by simp[h12]
   simp only[gsR,e0,hl2,hG2,hlen,nn6,nn12,d6,d12,eM,w1,q1,s1,dJ _ _ kK oF,cv1,q2,q2',ck2,s2,ncr,aUX hc,o1,o2,o3,hd]
   exact⟨_,rfl,o4⟩
 have nz:decide (crc (bs.take (bs.length-2))≠dC (bs.drop (bs.length-2)))=false:=by simp[hc]
 have l0':=l0 G3 x3;have l1':=l1 G3 x3;by_cases hk:decide ((bs.getD 0 0).toNat=1)=decide (bs.length=12)
 rotate_left
 ·have hd:=hdn (.inr hk)
  have hkb:(decide ((bs.getD 0 0).toNat=1)!=decide (bs.length=12))=true:=by simpa using hk
  rcases hl with h6|h12
  ·have d6:decide (bs.length≠6)=false:=by simp[h6]
   simp only[gsR,e0,hl2,hG2,hlen,nn6,d6,eM,w1,q1,s1,dJ _ _ kK oF,cv1,q2,q2',ck2,s2,ncr,nz,i0',l0',k0,ne12,zU,hkb,o1,o2,o3,hd]
   exact⟨_,rfl,o4⟩
  ·have d6:decide (bs.length≠6)=true:=by simp[h12]
   have d12:decide (bs.length≠12)=false:=by simp[h12]
   simp only[gsR,e0,hl2,hG2,hlen,nn6,nn12,d6,d12,eM,w1,q1,s1,dJ _ _ kK oF,cv1,q2,q2',ck2,s2,ncr,nz,i0',l0',k0,ne12,zU,hkb,o1,o2,o3,hd]
   exact⟨_,rfl,o4⟩
 have hkb:(decide ((bs.getD 0 0).toNat=1)!=decide (bs.length=12))=false:=by simpa using hk
 have q3:=(f3 G3 x3).1;have s3:=Qb (H:=G3) (m:=m-1) (f3 G3 x3).2 (by simp) U
 have w3:IntKind.u16.wrap (dC [bs.getD 2 0,bs.getD 3 0]:Int)=(dC [bs.getD 2 0,bs.getD 3 0]:Int):=Ls U (by have:=aOe (bs.getD 2 0) (bs.getD 3 0);omega)
 have bF:bld prog 157 [(0,dF (bs.getD 0 0)),(1,dF (bs.getD 1 0)),(2,.int .u16 (dC [bs.getD 2 0,bs.getD 3 0]))]=some (frV (fG bs)):=rfl;have bZ:bld prog 157 []=some (frV Frm.lO):=rfl;have st1:=Hi (fG bs) b31;obtain⟨G4,hG4⟩: ∃G4,G3.set (H.length+1) (frB (fG bs))=G4:=⟨_,rfl⟩;rw[hG4] at st1;have x4:Ext H G4:=by rw[<-hG4];exact zV x3 U _
 have b40:G4[H.length]? =some zfB:=by rw[<-hG4,aUe U];exact b30
 have b41:G4[H.length+1]? =some (frB (fG bs)):=by rw[<-hG4];exact dN b31
 rcases hl with h6|h12
 ·have d6:decide (bs.length≠6)=false:=by simp[h6]
  have d12:decide (bs.length=12)=false:=by simp[h6]
  have hk1: ¬(bs.getD 0 0).toNat=1:=by rw[d12] at hk;simpa using hk
  have hdec:fF bs=if dB (fG bs)=true then some (fG bs) else none:=by
   unfold fF pY;rw[if_pos ⟨h6,hk1⟩];rw[h6] at hc;by_cases hs:dB (fG bs)=true
   ·rw[if_pos ⟨hc,hs⟩,if_pos hs]
   ·rw[if_neg λh=>hs h.2,if_neg hs]
  obtain⟨t1,t2,t3,t4⟩:=aBB (m:=m-1) U x4 b40 b41
  by_cases hs:dB (fG bs)=true
  ·obtain⟨u1,u2,u3⟩:=t4 (fG bs)
   have hd:lB bs= .tuple #[frV (fG bs),.int .u16 0]:=by unfold lB;rw[hdec,if_pos hs]
   rw[hs] at t2;simp only[gsR,e0,hl2,hG2,hlen,nn6,d6,eM,w1,q1,s1,dJ _ _ kK oF,dJ _ _ oF kK,cv1,q2,q2',ck2,s2,ncr,nz,i0',l0',i1',l1',k0,ne12,zU,aUY hk1,bff,q3,s3,Hl,w3,bF,st1,d12,t1,t2,t3,u1,u2,hd]
   exact⟨_,rfl,u3⟩
  ·obtain⟨u1,u2,u3⟩:=t4 Frm.lO
   have hs':dB (fG bs)=false:=by simpa using hs
   have hd:lB bs= .tuple #[frV Frm.lO,.int .u16 30]:=by unfold lB;rw[hdec,if_neg hs]
   rw[hs'] at t2;simp only[gsR,e0,hl2,hG2,hlen,nn6,d6,eM,w1,q1,s1,dJ _ _ kK oF,dJ _ _ oF kK,cv1,q2,q2',ck2,s2,ncr,nz,i0',l0',i1',l1',k0,ne12,zU,aUY hk1,bff,q3,s3,Hl,w3,bF,st1,d12,t1,t2,bZ,u1,u2,hd]
   exact⟨_,rfl,u3⟩
 ·have d6:decide (bs.length≠6)=true:=by simp[h12]
  have d12':decide (bs.length≠12)=false:=by simp[h12]
  have d12:decide (bs.length=12)=true:=by simp[h12]
  have hk1:(bs.getD 0 0).toNat=1:=by rw[d12] at hk;simpa using hk
  have hdec:fF bs=if dB (kG bs)=true then some (kG bs) else none:=by
   unfold fF pY;rw[if_neg U,if_pos ⟨h12,hk1⟩]
   rw[h12] at hc;by_cases hs:dB (kG bs)=true
   ·rw[if_pos ⟨hc,hs⟩,if_pos hs]
   ·rw[if_neg λh=>hs h.2,if_neg hs]
  obtain⟨a4,i4,l4⟩:=Cp hu (Hj (bs:=bs) (i:=4) U) .i64
  obtain⟨a5,i5,l5⟩:=Cp hu (Hj (bs:=bs) (i:=5) U) .i64
  have i4':cN 1 (.slice (some ⟨sb,so,none⟩) bs.length cap) (.I 4)=some a4:=i4;have i5':cN 1 (.slice (some ⟨sb,so,none⟩) bs.length cap) (.I 5)=some a5:=i5;have f4:slc prog 1 (.slice (some ⟨sb,so,none⟩) bs.length cap) (some (.I 6)) (some (.I 10)) none G4=some (.slice (some ⟨sb,so+6*1,none⟩) (10-6) (cap-6),G4)/\Bs G4 (.slice (some ⟨sb,so+6*1,none⟩) (10-6) (cap-6)) [bs.getD 6 0,bs.getD 7 0,bs.getD 8 0,bs.getD 9 0]:=by
   have:=hs G4 (hu.ext x4) 6 10 (some (.I 6)) (some (.I 10)) none cap (gX _ .i64 6) (gX _ .i64 10) rfl U U U U
   rw[aOc h12] at this;exact this
  have q4:=f4.1;have s4:=Qb (H:=G4) (m:=m-1) f4.2 (by simp) U
  have st3:stN 1 (.Q (H.length+1) 3) (dF (bs.getD 4 0)) G4=some (undef,G4.set (H.length+1) (frB {fG bs with src:=(bs.getD 4 0).toNat})):=hP b41 aC (by simp[frC])
  obtain⟨G5,hG5⟩: ∃G5,G4.set (H.length+1) (frB {fG bs with src:=(bs.getD 4 0).toNat})=G5:=⟨_,rfl⟩;rw[hG5] at st3;have x5:Ext H G5:=by rw[<-hG5];exact zV x4 U _
  have b50:G5[H.length]? =some zfB:=by rw[<-hG5,aUe U];exact b40
  have b51:G5[H.length+1]? =some (frB {fG bs with src:=(bs.getD 4 0).toNat}):=by rw[<-hG5];exact dN b41
  have st4:stN 1 (.Q (H.length+1) 4) (dF (bs.getD 5 0)) G5=some (undef,G5.set (H.length+1) (frB {fG bs with src:=(bs.getD 4 0).toNat,dst:=(bs.getD 5 0).toNat})):=hP b51 aC (by simp[frC])
  obtain⟨G6,hG6⟩: ∃G6,G5.set (H.length+1) (frB {fG bs with src:=(bs.getD 4 0).toNat,dst:=(bs.getD 5 0).toNat})=G6:=⟨_,rfl⟩;rw[hG6] at st4;have x6:Ext H G6:=by rw[<-hG6];exact zV x5 U _
  have b60:G6[H.length]? =some zfB:=by rw[<-hG6,aUe U];exact b50
  have b61:G6[H.length+1]? =some (frB {fG bs with src:=(bs.getD 4 0).toNat,dst:=(bs.getD 5 0).toNat}):=by rw[<-hG6];exact dN b51
  have st5:stN 1 (.Q (H.length+1) 5) (.int .u32 (dC [bs.getD 6 0,bs.getD 7 0,bs.getD 8 0,bs.getD 9 0]:Int)) G6=some (undef,G6.set (H.length+1) (frB (kG bs))):=hP b61 aC (by simp[frC])
  obtain⟨G7,hG7⟩: ∃G7,G6.set (H.length+1) (frB (kG bs))=G7:=⟨_,rfl⟩;rw[hG7] at st5;have x7:Ext H G7:=by rw[<-hG7];exact zV x6 U _
  have b70:G7[H.length]? =some zfB:=by rw[<-hG7,aUe U];exact b60
  have b71:G7[H.length+1]? =some (frB (kG bs)):=by rw[<-hG7];exact dN b61
  have l44:=l4 G4 x4;have l54:=l5 G4 x4;have l55:=l5 G5 x5;obtain⟨t1,t2,t3,t4⟩:=aBB (m:=m-1) U x7 b70 b71
  by_cases hs:dB (kG bs)=true
  ·obtain⟨u1,u2,u3⟩:=t4 (kG bs)
   have hd:lB bs= .tuple #[frV (kG bs),.int .u16 0]:=by unfold lB;rw[hdec,if_pos hs]
   rw[hs] at t2;simp only[gsR,e0,hl2,hG2,hlen,nn6,nn12,d6,d12',eM,w1,q1,s1,dJ _ _ kK oF,dJ _ _ oF kK,cv1,q2,q2',ck2,s2,ncr,nz,i0',l0',i1',l1',k0,ne12,zU,aUX hk1,btt,q3,s3,Hl,w3,bF,st1,d12,i4',i5',l44,l54,l55,q4,s4,st3,st4,st5,t1,t2,t3,u1,u2,hd]
   exact⟨_,rfl,u3⟩
  ·obtain⟨u1,u2,u3⟩:=t4 Frm.lO
   have hs':dB (kG bs)=false:=by simpa using hs
   have hd:lB bs= .tuple #[frV Frm.lO,.int .u16 30]:=by unfold lB;rw[hdec,if_neg hs]
   rw[hs'] at t2;simp only[gsR,e0,hl2,hG2,hlen,nn6,nn12,d6,d12',eM,w1,q1,s1,dJ _ _ kK oF,dJ _ _ oF kK,cv1,q2,q2',ck2,s2,ncr,nz,i0',l0',i1',l1',k0,ne12,zU,aUX hk1,btt,q3,s3,Hl,w3,bF,st1,d12,i4',i5',l44,l54,l55,q4,s4,st3,st4,st5,t1,t2,bZ,u1,u2,hd]
   exact⟨_,rfl,u3⟩
theorem aBz (hm:200<m){u:Value}{bs:List UInt8}(hu:Bs H u bs): ∃H',lvl prog pkN m (.func 99) [u] H=some (lB bs,H')/\Ext H H':=by
 by_cases h6:bs.length=6
 ·exact aBA hm hu (.inl h6)
 ·by_cases h12:bs.length=12
  ·exact aBA hm hu (.inr h12)
  ·exact aN8 U hu h6 h12
end
end Go.Proofs.YtciiopkbmjppfaaGreatDoor
namespace Go.Abs
open M
def Rq {α:Type}(el:α->List Value)(e:TypeId)(sz:Nat)(H:aF)(v:Value)(xs:List α):Prop:=
 (v= .slice none 0 0/\xs=[])∨ ∃c pre rest cap,v= .slice (some ⟨c,pre.length,none⟩) xs.length cap/\xs.length<=cap/\rest.length=(cap-xs.length)*sz/\H[c]? =some (.cells (pre++(xs.map el).flatten++rest) e .row)
section
variable {α : Type} {el : α → List Value} {e : TypeId} {sz : Nat} {H H' : aF} {v w : Value} {xs ys : List α}
theorem Rq.aBC:Rq el e sz H (.slice none 0 0) ([]:List α):= .inl ⟨rfl,rfl⟩
theorem Rq.Qc (h:Rq el e sz H v xs):cX v=some (.int .i64 xs.length):=by
 rcases h with⟨rfl,rfl⟩|⟨c,pre,rest,cap,rfl,_⟩<;>rfl
theorem Rq.blk (h:Rq el e sz H v xs){b:Nat}(hb:aT v b): ∃cs,H[b]? =some (.cells cs e .row):=by
 rcases h with⟨rfl,rfl⟩|⟨c,pre,rest,cap,rfl,_,_,h3⟩
 ·obtain⟨_,_,_,hh⟩:=hb
  cases hh
 ·obtain⟨_,_,_,hh⟩:=hb
  cases hh
  exact⟨_,h3⟩
theorem Rq.vH (h:Rq el e sz H v xs){b:Nat}(hb:aT v b):b<H.length:=by
 obtain⟨cs,hc⟩:=h.blk hb;exact bU hc
theorem Rq.xH (h:Rq el e sz H v xs)(hk: ∀b,aT v b->H'[b]? =H[b]?):Rq el e sz H' v xs:=by
 rcases h with h|⟨c,pre,rest,cap,rfl,h1,h2,h3⟩
 ·exact .inl h
 ·exact .inr ⟨c,pre,rest,cap,rfl,h1,h2,by rw[hk c ⟨_,_,_,rfl⟩,h3]⟩
theorem Rq.ext (h:Rq el e sz H v xs)(he:Ext H H'):Rq el e sz H' v xs:=h.xH λb hb=>he.2 b (h.vH hb) id
theorem Rq.rs (h:Rq el e sz H v xs):Rs el e H v xs:=by
 rcases h with h|⟨c,pre,rest,cap,rfl,h1,h2,h3⟩
 ·exact .inl h
 ·exact .inr ⟨c,_,cap,rfl,h1,λ_=>⟨e,.row,pre,rest,rfl,λ_=>rfl,h3⟩⟩
theorem Rq.zW (h:Rq el e sz H v xs):v.cells.toList=[v]/\cA [v]=true:=by
 rcases h with⟨rfl,rfl⟩|⟨c,pre,rest,cap,rfl,_⟩<;>exact⟨rfl,rfl⟩
theorem Rq.aOf {P:Program}{x:α}(hsz: ∀x,(el x).length=sz)(he:P.cellsOf e=sz)(h:Rq el e sz H v (x::xs)): ∃v',(∀H',Rq el e sz H' v (x::xs)->slc P sz v (some (.int .i64 1)) none none H'=some (v',H'))/\Rq el e sz H v' xs/\ ∀b,aT v' b->aT v b:=by
 rcases h with⟨_,h⟩|⟨c,pre,rest,cap,rfl,h1,h2,h3⟩
 ·cases h
 ·simp only[aUz] at h1 h2
  refine⟨.slice (some ⟨c,pre.length+1*sz,none⟩) ((x::xs).length-1) (cap-1),λH' h'=> ?_,.inr ⟨c,pre++el x,rest,cap-1,by simp[hsz],by omega,by rw[h2];congr 1;omega,by rw[h3];simp⟩,?_⟩
  ·rcases h' with⟨_,h⟩|⟨c',pre',rest',cap',heq,_,_,h3'⟩
   ·cases h
   ·injection heq with a1 a2 a3
    injection a1 with a1;injection a1 with b1 b2;subst b1 a3;rw[b2];exact oU (P:=P) (H:=H') (sz:=sz) (o:=pre'.length) h3' (λ_=>he) (len:=(x::xs).length) (cap:=cap) (hi:=none) (mx:=none) (gX 0 .i64 1) rfl rfl (by simp) (by simpa using h1) (aUi _)
  ·rintro b ⟨o,n,k,hh⟩
   cases hh
   exact⟨_,_,_,rfl⟩
theorem Rq.aBD (hsz: ∀x,(el x).length=sz)(hall: ∀x,cA (el x)=true)(h0:0<sz){by':Nat}(h:Rq el e sz H v xs)(x:α)(hr:eH (xs.length+1) by'=true):
  ∃v' H',Go.Abs.app e sz by' v (.slice (some ⟨H.length,0,none⟩) 1 1) (H++[.cells (el x) e .row])=some (v',H')/\Rq el e sz H' v' (xs++[x])/\Fr (aT v) H H'/\ ∀b,aT v' b->aT v b∨(H.length<=b/\b<H'.length):=by
 have hw:Rr el e (H++[.cells (el x) e .row]) (.slice (some ⟨H.length,0,none⟩) 1 1) [x]:=wK (el:=el) x H;have hs:dY sz (.slice (some ⟨H.length,0,none⟩) 1 1) 1 (H++[.cells (el x) e .row])=some (el x):=by
  have:=hw.Xz hsz;simpa using this
 have hl:iN (.slice (some ⟨H.length,0,none⟩) 1 1)=some 1:=rfl;have hne:el x≠[]:=λhh=>by have:=hsz x;rw[hh] at this;simp at this;omega
 have hle:(H++[Blk.cells (el x) e .row]).length=H.length+1:=by simp
 unfold Go.Abs.app;rw[hl];simp only;rw[hs];simp only;rcases h with⟨rfl,rfl⟩|⟨c,pre,rest,cap,rfl,h1,h2,h3⟩
 ·simp only
  rw[if_neg aC,if_pos (show eH 1 by'=true from hr)]
  refine⟨_,_,rfl,.inr ⟨_,[],[],1,rfl,by simp,by simp,by rw[cG];simp⟩,⟨by simp,λb hb _=>by rw[aUk,aUg hb]⟩,?_⟩
  rintro b ⟨o,n,k,hh⟩
  cases hh;exact .inr ⟨by simp,by simp⟩
 ·have hc:=bU h3
  have hg:(H++[Blk.cells (el x) e .row])[c]? =some (.cells (pre++(xs.map el).flatten++rest) e .row):=lN h3 _;have hf:=rX (xs.map el) (tJ hsz);rw[aUr] at hf;simp only;rw[hg];simp only;by_cases hroom:xs.length+1<=cap
  ·rw[if_pos hroom,if_neg hne]
   have hrl:sz<=rest.length:=by
    rw[h2]
    calc sz=1*sz:=(Nat.one_mul sz).symm
     _<=(cap-xs.length)*sz:=Nat.mul_le_mul_right sz U
   rw[if_pos ⟨by decide,by simp only[aUp,hf];omega,hall x⟩]
   have hset:cU (pre++(xs.map el).flatten++rest) (pre.length+xs.length*sz) (el x)=pre++((xs++[x]).map el).flatten++rest.drop sz:=by
    have:=sD (el x) (rest.take sz) (pre++(xs.map el).flatten) (rest.drop sz) (by rw[List.length_take,hsz];omega)
    rw[aUk _ (rest.take sz),List.take_append_drop,aUp,hf] at this;rw[this];simp
   rw[hset];refine⟨_,_,rfl,.inr ⟨c,pre,rest.drop sz,cap,by simp,by simpa using hroom,?_,dN hg⟩,⟨by simp,λb hb hh=> ?_⟩,?_⟩
   ·rw[List.length_drop,h2,aUp,List.length_singleton,show cap-xs.length=(cap-(xs.length+1))+1 by omega,Nat.succ_mul]
    omega
   ·rw[aUe (λhx=>hh (by subst hx;exact⟨_,_,_,rfl⟩)),aUg hb]
   ·rintro b ⟨o,n,k,hh⟩
    cases hh;exact .inl ⟨_,_,_,rfl⟩
  ·rw[if_neg hroom,if_pos ⟨trivial,trivial,by simp only[aUp,hf];omega,hr,hall x⟩]
   have hcut:((pre++(xs.map el).flatten++rest).drop pre.length).take (xs.length*sz)=(xs.map el).flatten:=by
    rw[aUk,List.drop_left,<-hf,List.take_left]
   rw[hcut];have hlen:((H++[Blk.cells (el x) e .row]).set c .dead).length=H.length+1:=by simp
   refine⟨_,_,rfl,.inr ⟨H.length+1,[],[],xs.length+1,by simp,by simp,by simp,by rw[<-hlen,cG];simp⟩,⟨by simp;omega,λb hb hh=> ?_⟩,?_⟩
   ·rw[aUg (by rw[hlen];omega),aUe (λhx=>hh (by subst hx;exact⟨_,_,_,rfl⟩)),aUg hb]
   ·rintro b ⟨o,n,k,hh⟩
    cases hh;exact .inr ⟨by simp,by simp⟩
end
end Go.Abs
namespace Go.Proofs.YtciiopkbmjppfaaGreatDoor
open Go.Proofs.Tryz
open Go.Abs Go.Abs.M
theorem Hp (n sz b o:Nat)(k:IntKind)(i:Nat)(h1:i<n):pD n sz (.Q b o) (.int k (i:Int))=some (.Q b (o+i*sz)):=by
 simp[pD,adr,h1]
abbrev Pq (H:aF)(v:Value)(xs:List Pkt):Prop:=Rq Pkt.kF 31 4 H v xs
theorem zX (x:Pkt):x.kF.length=4:=rfl
theorem Ho (x:Pkt):cA x.kF=true:=rfl
def Cq (w0 w1 w2 cv:Value)(lanes queue:Nat):Blk:= .cells [w0,w1,w2,cv,.int .i64 lanes,.int .i64 queue] 155 .fix
def w3 (w0 w1 w2:Value)(k:Nat):Value:=if k=0 then w0 else if k=1 then w1 else w2
structure HostI (D:aF)(a:Nat)(L G:List Pkt)(lanes queue:Nat)(w0 w1 w2 cv:Value):Prop where
 blk:D[a]? =some (Cq w0 w1 w2 cv lanes queue)
 lanes:1<=lanes/\lanes<=3
 queue:1<=queue/\queue<=8
 q: ∀k,k<3->Pq D (w3 w0 w1 w2 k) (dE L k)
 came:Pq D cv G
 apart: ∀k j,k<3->j<3->k≠j-> ∀b,aT (w3 w0 w1 w2 k) b-> ¬aT (w3 w0 w1 w2 j) b
 apartC: ∀k,k<3-> ∀b,aT (w3 w0 w1 w2 k) b-> ¬aT cv b
def HostAt (D:aF)(a:Nat)(L G:List Pkt)(lanes queue:Nat):Prop:= ∃w0 w1 w2 cv,HostI D a L G lanes queue w0 w1 w2 cv
section
variable {D : aF} {m a lanes queue : Nat} {L G : List Pkt} {w0 w1 w2 cv : Value}
theorem HostAt.ext {D':aF}(h:HostAt D a L G lanes queue)(he:Ext D D'):HostAt D' a L G lanes queue:=by
 obtain⟨w0,w1,w2,cv,h⟩:=h
 exact⟨w0,w1,w2,cv,by rw[he.2 a (bU h.blk) id,h.blk],h.lanes,h.queue,λk hk=>(h.q k hk).ext he,h.came.ext he,h.apart,h.apartC⟩
theorem Hn (h:HostI D a L G lanes queue w0 w1 w2 cv)(hm:0<m)(k:Int):lvl prog pkN m (.func 108) [.Q a 0,.I k] D=some (.bool (decide (0<=k/\k<lanes)),D):=by
 refine aS (aQ rfl) hm ?_;rw[aMw];have l4:ld1 (.Q a 4) D=some (.I lanes,D):=bA h.blk rfl;by_cases h0:0<=k
 ·by_cases h1:k<lanes
  ·simp only[gsR,aUX h0,l4,aUX h1,aUX (show 0<=k/\k<lanes from⟨h0,h1⟩)]
  ·simp only[gsR,aUX h0,l4,aUY h1,aUY (show¬(0<=k/\k<lanes) from λh=>h1 h.2)]
 ·simp only[gsR,aUY h0,aUY (show¬(0<=k/\k<lanes) from λh=>h0 h.1)]
theorem Cr (h:HostI D a L G lanes queue w0 w1 w2 cv){k:Nat}(hk:k<3):ld1 (.Q a k) D=some (w3 w0 w1 w2 k,D):=by
 match k,hk with
 |0,_=>exact bA h.blk rfl
 |1,_=>exact bA h.blk rfl
 |2,_=>exact bA h.blk rfl
theorem Qd (h:HostI D a L G lanes queue w0 w1 w2 cv)(hm:1<m)(k:Nat)(hk:k<lanes):lvl prog pkN m (.func 68) [.Q a 0,.I k] D=some (.I (dE L k).length,D):=by
 have h3:k<3:=aUs hk h.lanes.2;refine aS (aQ rfl) U ?_
 rw[aNn];have e1:=Hn h (m:=m-1) U (k:Int)
 have c:decide (0<=(k:Int)/\(k:Int)<lanes)=true:=by rw[decide_eq_true_eq];omega
 have e2:=Hp 3 1 a 0 .i64 k h3;rw[Nat.mul_one,aUy] at e2;simp only[gsR,e1,c,e2,Cr h h3,(h.q k h3).Qc]
theorem aOg (hm:0<m)(lanes queue:Nat)(h1:1<=lanes/\lanes<=3)(h2:1<=queue/\queue<=8): ∃a H',lvl prog pkN m (.func 81) [.I lanes,.I queue] D=some (.Q a 0,H')/\HostAt H' a [] [] lanes queue/\Ext D H'/\D.length<=a:=by
 have main:lvl prog pkN m (.func 81) [.I lanes,.I queue] D=some (.Q D.length 0,D++[Cq (.N) (.N) (.N) (.N) lanes queue]):=by
  refine aS (aQ rfl) hm ?_;rw[aNp];have c1:decide ((lanes:Int)<1)=false:=by rw[decide_eq_false_iff_not];omega
  have c2:decide (3<(lanes:Int))=false:=by rw[decide_eq_false_iff_not];omega
  have c3:decide ((queue:Int)<1)=false:=by rw[decide_eq_false_iff_not];omega
  have c4:decide (8<(queue:Int))=false:=by rw[decide_eq_false_iff_not];omega
  have e3:bld prog 155 [(2,.I lanes),(3,.I queue)]=some (.agg #[.N,.N,.N,.N,.I lanes,.I queue]):=rfl;simp only[gsR,c1,c2,c3,c4,e3];rfl
 have hn: ∀k b,¬aT (w3 (.N) (.N) (.N) k) b:=λk b hh=>by
  have:w3 (.N) (.N) (.N) k= .N:=by unfold w3;split<;>(try split)<;>rfl
  rw[this] at hh;obtain⟨_,_,_,hh⟩:=hh;cases hh
 refine⟨_,_,main,⟨_,_,_,_,cG _ _,h1,h2,λk hk=> ?_,Rq.aBC,λk j _ _ _ b hb=>absurd hb (hn k b),λk _ b hb=>absurd hb (hn k b)⟩,Fr.app _ _ _,aUi _⟩
 have:w3 (.N) (.N) (.N) k= .N:=by unfold w3;split<;>(try split)<;>rfl
 rw[this];exact Rq.aBC
end
def cO (x:Pkt):Blk:= .cells x.kF 31 .fix
theorem aOk (w0 w1 w2:Value){k:Nat}(hk:k<3)(v:Value): ∃u0 u1 u2,(∀a b c:Value,([w0,w1,w2,a,b,c]:List Value).set k v=[u0,u1,u2,a,b,c])/\ ∀j,j<3->w3 u0 u1 u2 j=if j=k then v else w3 w0 w1 w2 j:=by
 match k,hk with
 |0,_=>exact⟨v,w1,w2,λ_ _ _=>rfl,λj hj=>by match j,hj with|0,_=>rfl|1,_=>rfl|2,_=>rfl⟩
 |1,_=>exact⟨w0,v,w2,λ_ _ _=>rfl,λj hj=>by match j,hj with|0,_=>rfl|1,_=>rfl|2,_=>rfl⟩
 |2,_=>exact⟨w0,w1,v,λ_ _ _=>rfl,λj hj=>by match j,hj with|0,_=>rfl|1,_=>rfl|2,_=>rfl⟩
theorem aBF (L:List Pkt)(x:Pkt)(k:Int):dE (L++[x]) k=if x.lane=k then dE L k++[x] else dE L k:=by
 unfold dE;rw[List.filter_append];by_cases h:x.lane=k<;>simp[h]
section
variable {D : aF} {m a lanes queue : Nat} {L G : List Pkt} {w0 w1 w2 cv : Value}
theorem HostI.aBE {D':aF}(h:HostI D a L G lanes queue w0 w1 w2 cv){k:Nat}(hk:k<3){v:Value}{L':List Pkt}(hf:Fr (aT (w3 w0 w1 w2 k)) D D')(hv:Pq D' v (dE L' k))(hn: ∀b,aT v b->aT (w3 w0 w1 w2 k) b∨(D.length<=b/\b<D'.length))
  (hL: ∀j:Nat,j<3->j≠k->dE L' j=dE L j):HostAt (D'.set a (.cells (([w0,w1,w2,cv,.I lanes,.I queue]:List Value).set k v) 155 .fix)) a L' G lanes queue:=by
 obtain⟨u0,u1,u2,e1,e2⟩:=aOk w0 w1 w2 hk v;have hna: ∀w,(∃xs:List Pkt,Pq D w xs)-> ¬aT w a:=λw ⟨xs,hw⟩ hh=>by
  obtain⟨cs,hc⟩:=hw.blk hh;rw[h.blk] at hc;cases hc
 have ha:D'[a]? =D[a]? :=hf.2 a (bU h.blk) (hna _ ⟨_,h.q k hk⟩);have hva: ¬aT v a:=λhh=>by
  obtain⟨cs,hc⟩:=hv.blk hh;rw[ha,h.blk] at hc;cases hc
 have hlt:a<D'.length:=aUs (bU h.blk) hf.1;rw[e1];have out: ∀w (xs:List Pkt),Pq D w xs->(∀b,aT w b-> ¬aT (w3 w0 w1 w2 k) b)->Pq (D'.set a (.cells [u0,u1,u2,cv,.I lanes,.I queue] 155 .fix)) w xs:=λw xs hw hd=>hw.xH λb hb=>by
  rw[aUe (λhx=>by subst hx;exact hna w ⟨xs,hw⟩ hb),hf.2 b (hw.vH hb) (hd b hb)]
 refine⟨u0,u1,u2,cv,aUj hlt,h.lanes,h.queue,λj hj=> ?_,out cv G h.came λb hb hh=>h.apartC k hk b hh hb,λi j hi hj hij b hb hb'=> ?_,λi hi b hb hb'=> ?_⟩
 ·rw[e2 j hj]
  by_cases hjk:j=k
  ·subst hjk
   rw[if_pos rfl];exact hv.xH λb hb=>aUe (λhx=>hva (by subst hx;exact hb))
  ·rw[if_neg hjk,hL j hj hjk]
   exact out _ _ (h.q j hj) (h.apart j k hj hk hjk)
 ·rw[e2 i hi] at hb
  rw[e2 j hj] at hb';by_cases hik:i=k
  ·rw[if_pos hik] at hb
   rw[if_neg (λhh=>hij (hik.trans hh.symm))] at hb'
   rcases hn b hb with h1|h1
   ·exact h.apart k j hk hj (λhh=>hij (hik.trans hh)) b h1 hb'
   ·have:=(h.q j hj).vH hb'
    omega
  ·rw[if_neg hik] at hb
   by_cases hjk:j=k
   ·rw[if_pos hjk] at hb'
    rcases hn b hb' with h1|h1
    ·exact h.apart i k hi hk hik b hb h1
    ·have:=(h.q i hi).vH hb
     omega
   ·rw[if_neg hjk] at hb'
    exact h.apart i j hi hj hij b hb hb'
 ·rw[e2 i hi] at hb
  by_cases hik:i=k
  ·rw[if_pos hik] at hb
   rcases hn b hb with h1|h1
   ·exact h.apartC k hk b h1 hb'
   ·have:=h.came.vH hb'
    omega
  ·rw[if_neg hik] at hb
   exact h.apartC i hi b hb hb'
theorem oG {H:aF}{b:Nat}{x:Pkt}(hb:H[b]? =some (cO x)):ld1 (.Q b 2) H=some (.I x.lane,H)/\ldN 4 (.Q b 0) H=some (x.cE,H):=⟨bA hb rfl,mV hb (aUi 4)⟩
theorem aOi (h:HostI D a L G lanes queue w0 w1 w2 cv)(hm:2<m)(x:Pkt)(hx: ¬(0<=x.lane/\x.lane<lanes)):lvl prog pkN m (.func 87) [.Q a 0,x.cE] D=some (.int .u16 1,D++[cO x]):=by
 refine aS (aQ rfl) U ?_
 rw[O9];have e0:(Blk.cells (Value.cells x.cE).toList 31 .fix)=cO x:=rfl;obtain⟨l2,l4⟩:=oG (cG D (cO x));obtain⟨u0,u1,u2,cu,h'⟩:HostAt (D++[cO x]) a L G lanes queue:=HostAt.ext ⟨w0,w1,w2,cv,h⟩ (Fr.app _ _ _);have e1:=Hn h' (m:=m-1) U x.lane
 simp only[gsR,e0,l2,e1,aUY hx]
theorem aOh (h:HostI D a L G lanes queue w0 w1 w2 cv)(hm:2<m)(x:Pkt)(hx:0<=x.lane/\x.lane<lanes)(hq:(dE L x.lane).length=queue):lvl prog pkN m (.func 87) [.Q a 0,x.cE] D=some (.int .u16 150,D++[cO x]):=by
 refine aS (aQ rfl) U ?_
 rw[O9];have e0:(Blk.cells (Value.cells x.cE).toList 31 .fix)=cO x:=rfl;obtain⟨l2,l4⟩:=oG (cG D (cO x));obtain⟨u0,u1,u2,cu,h'⟩:HostAt (D++[cO x]) a L G lanes queue:=HostAt.ext ⟨w0,w1,w2,cv,h⟩ (Fr.app _ _ _);have e1:=Hn h' (m:=m-1) U x.lane
 obtain⟨k,hk⟩: ∃k:Nat,x.lane=k:=⟨x.lane.toNat,by omega⟩
 have h3:k<3:=by have:=h.lanes.2;omega
 have e2:=Hp 3 1 a 0 .i64 k h3;rw[Nat.mul_one,aUy,<-hk] at e2;have e3:=(h'.q k h3).Qc;rw[<-hk,hq] at e3;have l5:ld1 (.Q a 5) (D++[cO x])=some (.I queue,D++[cO x]):=bA h'.blk rfl;have c:((queue:Int)==(queue:Int))=true:=by simp
 simp only[gsR,e0,l2,e1,aUX hx,e2,Cr h' h3,e3,l5,c]
theorem aOj (h:HostI D a L G lanes queue w0 w1 w2 cv)(hm:2<m)(x:Pkt)(hx:0<=x.lane/\x.lane<lanes)(hq:(dE L x.lane).length≠queue)(hr:eH ((dE L x.lane).length+1) 32=true): ∃H',lvl prog pkN m (.func 87) [.Q a 0,x.cE] D=some (.int .u16 0,H')/\HostAt H' a (L++[x]) G lanes queue:=by
 refine iD (aQ rfl) U ?_
 rw[O9];have e0:(Blk.cells (Value.cells x.cE).toList 31 .fix)=cO x:=rfl;obtain⟨l2,l4⟩:=oG (cG D (cO x));have hb1:=cG D (cO x);obtain⟨u0,u1,u2,cu,h'⟩:HostAt (D++[cO x]) a L G lanes queue:=HostAt.ext ⟨w0,w1,w2,cv,h⟩ (Fr.app _ _ _);have e1:=Hn h' (m:=m-1) U x.lane
 obtain⟨k,hk⟩: ∃k:Nat,x.lane=k:=⟨x.lane.toNat,by omega⟩
 have h3:k<3:=by have:=h.lanes.2;omega
 have e2:=Hp 3 1 a 0 .i64 k h3;rw[Nat.mul_one,aUy,<-hk] at e2;have e3:=(h'.q k h3).Qc;have l5:ld1 (.Q a 5) (D++[cO x])=some (.I queue,D++[cO x]):=bA h'.blk rfl;have c:(((dE L (k:Int)).length:Int)==(queue:Int))=false:=by rw[<-hk];simp;omega
 obtain⟨D1,hD1⟩: ∃D1,D++[cO x]=D1:=⟨_,rfl⟩;rw[hD1] at l2 l4 h' e1 l5 hb1;have eb:b9 31 4 1 [.I 0,.I 0,.I 0,.int .u32 0] [(0,x.cE)] D1=some (.slice (some ⟨D1.length,0,none⟩) 1 1,D1++[.cells x.kF 31 .row]):=rfl;obtain⟨v',H',g1,g2,g3,g4⟩:=(h'.q k h3).aBD zX Ho aC (by':=32) x (by rw[<-hk];exact hr)
 have hnp: ¬aT (w3 u0 u1 u2 k) D.length:=λhh=>by
  obtain⟨cs,hc⟩:=(h'.q k h3).blk hh;rw[hb1] at hc;cases hc
 have hb2:H'[D.length]? =some (cO x):=by rw[g3.2 _ (bU hb1) hnp,hb1]
 have l2':=(oG hb2).1;have hna: ¬aT (w3 u0 u1 u2 k) a:=λhh=>by
  obtain⟨cs,hc⟩:=(h'.q k h3).blk hh;rw[h'.blk] at hc;cases hc
 have ha':H'[a]? =some (Cq u0 u1 u2 cu lanes queue):=by rw[g3.2 _ (bU h'.blk) hna,h'.blk]
 have st:stN 1 (.Q a k) v' H'=some (undef,H'.set a (.cells (([u0,u1,u2,cu,.I lanes,.I queue]:List Value).set k v') 155 .fix)):=nI ha' aC (by simp;omega) g2.zW.1 g2.zW.2
 have ck:chk (some (Value.I x.lane,H')) (.I x.lane)=true:=by simp[chk,veq]
 simp only[gsR,e0,hD1,l2,e1,aUX hx,e2,Cr h' h3,e3,l5,c,l4,eb,g1,l2',ck,st];refine⟨_,rfl,h'.aBE h3 g3 ?_ g4 λj hj hjk=> ?_⟩
 ·rw[aBF,if_pos hk]
  exact g2
 ·rw[aBF,if_neg U]
end
section
variable {D : aF} {m a lanes queue : Nat} {L G : List Pkt} {w0 w1 w2 cv : Value}
theorem aOl (h:HostI D a L G lanes queue w0 w1 w2 cv)(hm:0<m)(x:Pkt)(hr:eH (G.length+1) 32=true): ∃H',lvl prog pkN m (.func 134) [.Q a 0,x.cE] D=some (aK [],H')/\HostAt H' a L (G++[x]) lanes queue:=by
 refine iD (aQ rfl) U ?_
 rw[aMS];have e0:(Blk.cells (Value.cells x.cE).toList 31 .fix)=cO x:=rfl;obtain⟨l2,l4⟩:=oG (cG D (cO x));obtain⟨u0,u1,u2,cu,h'⟩:HostAt (D++[cO x]) a L G lanes queue:=HostAt.ext ⟨w0,w1,w2,cv,h⟩ (Fr.app _ _ _);obtain⟨D1,hD1⟩: ∃D1,D++[cO x]=D1:=⟨_,rfl⟩;rw[hD1] at l2 l4 h';have l3:ld1 (.pointer (some ⟨a,3,none⟩)) D1=some (cu,D1):=bA h'.blk rfl;have eb:b9 31 4 1 [.int .i64 0,.int .i64 0,.int .i64 0,.int .u32 0] [(0,x.cE)] D1=some (.slice (some ⟨D1.length,0,none⟩) 1 1,D1++[.cells x.kF 31 .row]):=rfl;obtain⟨v',H',g1,g2,g3,g4⟩:=h'.came.aBD zX Ho aC (by':=32) x hr
 have hna: ¬aT cu a:=λhh=>by
  obtain⟨cs,hc⟩:=h'.came.blk hh;rw[h'.blk] at hc;cases hc
 have ha':H'[a]? =some (Cq u0 u1 u2 cu lanes queue):=by rw[g3.2 _ (bU h'.blk) hna,h'.blk]
 have st:stN 1 (.Q a 3) v' H'=some (undef,H'.set a (Cq u0 u1 u2 v' lanes queue)):=nI ha' aC (by simp) g2.zW.1 g2.zW.2
 have hva: ¬aT v' a:=λhh=>by
  obtain⟨cs,hc⟩:=g2.blk hh;rw[ha'] at hc;cases hc
 simp only[gsR,e0,hD1,l3,l4,eb,g1,st];refine⟨_,rfl,u0,u1,u2,v',dN ha',h'.lanes,h'.queue,λj hj=>(h'.q j hj).xH λb hb=> ?_,g2.xH λb hb=>aUe (λhx=>hva (by subst hx;exact hb)),h'.apart,λi hi b hb hb'=> ?_⟩
 ·have hab:a≠b:=λhx=>by
   subst hx;obtain⟨cs,hc⟩:=(h'.q j hj).blk hb;rw[h'.blk] at hc;cases hc
  rw[aUe hab,g3.2 b ((h'.q j hj).vH hb) (h'.apartC j hj b hb)]
 ·rcases g4 b hb' with h1|h1
  ·exact h'.apartC i hi b hb h1
  ·have:=(h'.q i hi).vH hb
   omega
end
end Go.Proofs.YtciiopkbmjppfaaGreatDoor
namespace Go.Abs
open M
structure PkN (c:Cfg)(x:Pkt):Prop where
 src:0<=x.src/\x.src<c.nodes
 dst:0<=x.dst/\x.dst<c.nodes
 lane:0<=x.lane/\x.lane<c.lanes
 body:0<=x.body/\x.body<4294967296
structure SndI (t:Nat)(x:Snd):Prop where
 le:x.s<=x.l
 wide:x.l<=x.s+8
 big:x.s<=65536+t
structure RcvI (room t:Nat)(x:Rcv):Prop where
 h:x.h<=room
 big:x.n<=65536+9*t
structure WhlI (lanes:Nat)(x:Whl):Prop where
 len:x.l.length=lanes
 wt: ∀y∈x.l,0<=y/\y<=5
 fr:x.fr<lanes
structure NInv (c:Cfg)(t:Nat)(s:NS):Prop where
 snd: ∀i k,SndI t (s.snd i k)
 rcv: ∀i k,RcvI c.room t (s.rcv i k)
 hG:s.hG.length<=t
 ticks:s.ticks<=t
 hL: ∀x∈s.hL,PkN c x
 hQ: ∀k:Int,(dE s.hL k).length<=c.queue
 rL: ∀e∈s.rL,PkN c e.2
 rN:s.rL.length<=c.aJ*c.lanes*c.room
 gl:s.g.length=c.aJ
 al:s.a.length=c.aJ
 g: ∀x∈s.g,x<c.aJ
 a: ∀x∈s.a,x<c.aJ
 whl: ∀i,WhlI c.lanes (s.whl i)
theorem SndI.Hq {t t':Nat}{x:Snd}(h:SndI t x)(ht:t<=t'):SndI t' x:=⟨h.le,h.wide,aUt h.big U⟩
theorem RcvI.Cs {room t t':Nat}{x:Rcv}(h:RcvI room t x)(ht:t<=t'):RcvI room t' x:=⟨h.h,aUt h.big U⟩
theorem NInv.oH {c:Cfg}{t t':Nat}{s:NS}(h:NInv c t s)(ht:t<=t'):NInv c t' s:=
 {h with snd:=λi k=>(h.snd i k).Hq ht,rcv:=λi k=>(h.rcv i k).Cs ht,hG:=aUt h.hG ht,ticks:=aUt h.ticks ht}
theorem SndI.aBP {t:Nat}{x:Snd}(h:SndI t x)(limit:Nat):SndI t (x.nK limit):=by
 unfold Snd.nK;simp only;split
 ·exact h
 ·have:=h.le
  have:=h.big
  exact⟨by simp only;omega,by simp only;omega,h.big⟩
theorem SndI.aBQ {t:Nat}{x:Snd}(h:SndI t x):SndI (t+1) x.kH.2:=by
 unfold Snd.kH;split
 ·exact h.Hq U
 ·have:=h.le
  have:=h.wide;have:=h.big
  exact⟨by simp only;omega,by simp only;omega,by simp only;omega⟩
theorem RcvI.aBO {room t:Nat}{x:Rcv}(h:RcvI room t x)(hr:room<=8)(s:Nat):RcvI room (t+1) (x.mB room s):=by
 have h1:=h.h;have h2:=h.big;unfold Rcv.mB;simp only;split
 ·exact h.Cs U
 ·rename_i hc
  unfold Rcv.dA at hc
  exact⟨h.h,by simp only;omega⟩
theorem aOt (room:Nat)(x:Rcv)(s:Nat):(x.fH room s).2=x∨ ∃w,x.n<=w/\w<x.dA room/\(x.fH room s).2=⟨w+1,x.h+1⟩:=by
 unfold Rcv.fH
 generalize cC x.n s=w
 by_cases c1:w<x.n
 ·left
  simp only[if_pos c1]
 ·by_cases c2:x.dA room<=w
  ·left
   simp only[if_neg c1,if_pos c2]
  ·right
   refine⟨w,Nat.le_of_not_lt c1,Nat.lt_of_not_le c2,?_⟩;simp only[if_neg c1,if_neg c2]
theorem aOs {n h room t w:Nat}(h1:h<=room)(h2:n<=65536+9*t)(hr:room<=8)(h3:n<=w)(h4:w<n+(room-h)):h+1<=room/\w+1<=65536+9*(t+1):=by
 generalize 65536=z at*
 omega
theorem RcvI.aBM {room t:Nat}{x:Rcv}(h:RcvI room t x)(hr:room<=8)(s:Nat):RcvI room (t+1) (x.fH room s).2:=by
 rcases aOt room x s with h0|⟨w,h3,h4,h0⟩
 ·rw[h0]
  exact h.Cs (Nat.le_succ t)
 ·rw[h0]
  obtain⟨e1,e2⟩:=aOs h.h h.big hr h3 h4
  exact⟨e1,e2⟩
theorem RcvI.aBN {room t:Nat}{x:Rcv}(h:RcvI room t x):RcvI room t x.tQ:=⟨by have:=h.h;unfold Rcv.tQ;simp only;omega,h.big⟩
theorem sU {α:Type}{P:α->Prop}{f:Nat->Nat->α}{i k:Nat}{x:α}(h: ∀i k,P (f i k))(hx:P x)(j l:Nat):P (up2 f i k x j l):=by
 unfold up2;split
 ·exact hx
 ·exact h j l
theorem Qi {α:Type}{P:α->Prop}{f:Nat->α}{i:Nat}{x:α}(h: ∀i,P (f i))(hx:P x)(j:Nat):P (up1 f i x j):=by
 unfold up1;split
 ·exact hx
 ·exact h j
theorem aOu (L:List Pkt)(x:Pkt)(k:Int):dE (L++[x]) k=if x.lane=k then dE L k++[x] else dE L k:=by
 unfold dE;rw[List.filter_append];by_cases h:x.lane=k<;>simp[h]
theorem aBR {L:List Pkt}{k:Int}{x:Pkt}(h:x∈pZ L k):x∈L:=List.mem_of_mem_eraseP h
theorem Hr (L:List Pkt)(k j:Int):dE (pZ L k) j=if j=k then(dE L k).tail else dE L j:=by
 induction L with
 |nil=>simp[dE,pZ]
 |cons x L ih=>
  unfold dE pZ at*;by_cases hx:x.lane=k
  ·subst hx
   rw[List.eraseP_cons_of_pos (by simp)]
   by_cases hj:j=x.lane
   ·rw[if_pos hj,hj]
    simp
   ·rw[if_neg hj,List.filter_cons_of_neg (by simp;omega)]
  ·rw[List.eraseP_cons_of_neg (by simp[hx])]
   by_cases hj:j=k
   ·subst hj
    rw[if_pos rfl,List.filter_cons_of_neg (by simp[hx]),List.filter_cons_of_neg (by simp[hx]),ih,if_pos rfl]
   ·rw[if_neg hj] at ih⊢
    rw[List.filter_cons,List.filter_cons,ih]
theorem Qh {L:List (dR×Pkt)}{w:dR}{e:dR×Pkt}(h:e∈mY L w):e∈L:=List.mem_of_mem_eraseP h
theorem Qg (L:List (dR×Pkt))(w:dR):(mY L w).length<=L.length:=(List.eraseP_sublist).length_le
theorem aBU {c:Cfg}{L:List (dR×Pkt)}{w:dR}{x:Pkt}{e:dR×Pkt}(h:e∈sR c L w x):e∈L∨e.2=x:=by
 unfold sR at h
 split at h
 ·rcases List.mem_append.mp h with h|h
  ·exact .inl h
  ·simp at h
   exact .inr (by rw[h])
 ·exact .inl h
theorem aBT {c:Cfg}{L:List (dR×Pkt)}{w:dR}{x:Pkt}(h:L.length<=c.aJ*c.lanes*c.room):(sR c L w x).length<=c.aJ*c.lanes*c.room:=by
 unfold sR;split
 ·rename_i hc
  simp;omega
 ·exact h
theorem aBV {L:List (dR×Pkt)}{w:dR}{x:Pkt}(h:x∈lA L w): ∃e∈L,e.2=x/\e.1=w:=by
 unfold lA at h;obtain⟨e,h1,h2⟩:=aUQ.mp h;obtain⟨h3,h4⟩:=List.mem_filter.mp h1
 exact⟨e,h3,h2,by simpa using h4⟩
section
variable {c : Cfg} {t : Nat} {s : NS}
theorem NInv.aOo (hc:c.ok):NInv c 0 (NS.kZ c) where
 snd:=λi k=>⟨by simp[NS.kZ],by have:=hc.room;simp[NS.kZ];omega,by have:=hc.start;simp[NS.kZ];omega⟩
 rcv:=λi k=>⟨by simp[NS.kZ],by have:=hc.start;simp[NS.kZ];omega⟩
 hG:=aUi _
 ticks:=aUi _
 hL:=λx hx=>by simp[NS.kZ] at hx
 hQ:=λk=>by simp[NS.kZ,dE]
 rL:=λx hx=>by simp[NS.kZ] at hx
 rN:=by simp[NS.kZ]
 gl:=by simp[NS.kZ]
 al:=by simp[NS.kZ]
 g:=λx hx=>by
  simp[NS.kZ] at hx;unfold Cfg.aJ;omega
 a:=λx hx=>by
  simp[NS.kZ] at hx;unfold Cfg.aJ;omega
 whl:=λi=>⟨hc.wlen,λy hy=>by have:=hc.wts y hy;omega,by have:=hc.lanes;simp[NS.kZ];omega⟩
theorem NInv.aOq (h:NInv c t s){x:Pkt}(hx:0<=x.lane/\x.lane<c.lanes->PkN c x):NInv c t (p7 c x s).2:=by
 unfold Go.Abs.p7;split
 ·exact h
 ·rename_i hl
  split
  ·exact h
  ·rename_i hq
   have hl':0<=x.lane/\x.lane<c.lanes:=U
   refine {h with hL:=λy hy=> ?_,hQ:=λk=> ?_}
   ·rcases List.mem_append.mp hy with hy|hy
    ·exact h.hL y hy
    ·simp at hy
     rw[hy];exact hx hl'
   ·rw[aOu]
    split
    ·rename_i he
     subst he;have:=h.hQ x.lane;simp;omega
    ·exact h.hQ k
theorem NInv.aOm (hc:c.ok)(h:NInv c t s){x:Pkt}(hb:0<=x.body/\x.body<4294967296):NInv c t (oE c x s).2:=by
 unfold Go.Abs.oE;split
 ·exact h
 ·rename_i hn
  refine h.aOq λhl=>⟨?_,?_,hl,hb⟩
  ·have:=hc.me
   omega
  ·omega
theorem NInv.aBI (hc:c.ok)(h:NInv c t s)(i:Nat)(f:Frm)(hl:f.lane<c.lanes)(hb:f.body<4294967296):NInv c (t+1) (o5 c i f s).2:=by
 unfold o5;split
 ·exact h.oH U
 ·rename_i hm
  have hm2:=h.oH (t':=t+1) U
  have hr:=(h.rcv i f.lane).aBM hc.room.2 f.seq;split
  ·rename_i r he
   rw[he] at hr;refine {hm2 with rcv:=sU hm2.rcv hr,rL:=λe he=> ?_,rN:=aBT h.rN}
   rcases aBU he with he|he
   ·exact h.rL e he
   ·rw[he]
    exact⟨⟨by simp only;omega,by simp only;omega⟩,⟨by simp only;omega,by simp only;omega⟩,⟨by simp only;omega,by simp only;omega⟩,⟨by simp only;omega,by simp only;omega⟩⟩
  ·exact hm2
theorem NInv.aT8 (hc:c.ok)(h:NInv c t s)(fr:Int)(bs:List UInt8)(hb: ∀f,fF bs=some f->f.body<4294967296):NInv c (t+1) (jQ c fr bs s).2:=by
 have hm2:=h.oH (t':=t+1) U
 unfold jQ;split
 ·exact hm2
 ·split
  ·exact hm2
  ·rename_i f hf
   split
   ·exact hm2
   ·rename_i hl
    split
    ·exact {hm2 with snd:=sU hm2.snd (((h.snd _ _).aBP _).Hq U)}
    ·split
     ·exact {hm2 with rcv:=sU hm2.rcv ((h.rcv _ _).aBO hc.room.2 _)}
     ·exact h.aBI hc _ _ U (hb f hf)
theorem NInv.aBJ (hc:c.ok)(h:NInv c t s)(k:Nat):NInv c t (iG c s k):=by
 unfold Go.Abs.iG;split
 ·exact h
 ·split
  ·exact h
  ·rename_i x xs hx
   have hxm:x∈s.hL:=by
    have:x∈dE s.hL k:=by rw[hx];exact aUm ..
    exact(List.mem_filter.mp this).1
   refine {h with hL:=λy hy=>h.hL y (aBR hy),hQ:=λj=> ?_,rL:=λe he=> ?_,rN:=aBT h.rN}
   ·rw[Hr]
    split
    ·have:=h.hQ k
     simp;omega
    ·exact h.hQ j
   ·rcases aBU he with he|he
    ·exact h.rL e he
    ·rw[he]
     exact h.hL x hxm
theorem NInv.aBL (hc:c.ok): ∀(l:List Nat){s:NS},NInv c t s->NInv c t (l.foldl (Go.Abs.iG c) s)
 |[],_,h=>h
 |k::l,_,h=>by
  rw[List.foldl_cons];exact NInv.aBL hc l (h.aBJ hc k)
theorem NInv.aBK (hc:c.ok)(h:NInv c t s):NInv c t (eT c s):=NInv.aBL hc _ h
theorem aBX (hc:c.ok){w:Whl}(hw:WhlI c.lanes w)(may:Nat->Bool):WhlI c.lanes (gK c.weights w may).2:=by
 unfold gK;split
 ·rename_i ha
  split
  ·rename_i i hi
   have hfull:(iP c.weights w may).length=c.lanes/\ ∀y∈iP c.weights w may,0<=y/\y<=5:=by
    unfold iP;split
    ·exact⟨hw.len,hw.wt⟩
    ·exact⟨hc.wlen,λy hy=>by have:=hc.wts y hy;omega⟩
   have hp:=uW hi;unfold kC at hp;rw[aUl,decide_eq_true_eq] at hp;refine⟨by simp[hfull.1],λy hy=> ?_,?_⟩
   ·rcases List.mem_or_eq_of_mem_set hy with hy|hy
    ·exact hfull.2 y hy
    ·have hi2:i<(iP c.weights w may).length:=by rw[hfull.1,<-hc.wlen];exact hp.1
     have:=hfull.2 _ (List.getElem_mem hi2);have e:(iP c.weights w may).getD i 0=(iP c.weights w may)[i]:=by rw[aUh,aUf hi2,aUG]
     rw[e] at hp hy;omega
   ·simp only
    rw[hc.wlen];exact Nat.mod_lt _ (by have:=hc.lanes;omega)
  ·exact hw
 ·exact hw
theorem aBW {c:Cfg}{w:Whl}{may:Nat->Bool}{k:Nat}{w':Whl}(h:gK c.weights w may=(some k,w')):k<c.weights.length/\may k=true:=by
 unfold gK at h
 split at h
 ·split at h
  ·rename_i i hi
   cases h;have:=uW hi;unfold kC at this;rw[aUl] at this
   exact⟨this.1,this.2.1⟩
  ·cases h
 ·cases h
theorem aBS (h:NInv c t s)(i k:Nat): ∀j l,RcvI c.room t (nL s i k j l):=by
 unfold nL;split
 ·exact h.rcv
 ·exact sU h.rcv (h.rcv i k).aBN
theorem NInv.aOn (hc:c.ok)(h:NInv c t s)(i o:Nat):NInv c (t+1) (iA c s i o).1:=by
 have hm2:=h.oH (t':=t+1) U
 unfold iA;have hw:=aBX hc (h.whl o) (eE c s i o);split
 ·exact hm2
 ·rename_i k w he
  rw[he] at hw;simp only;have hG:=h.hG;split
  ·exact {hm2 with rcv:=λj l=>(aBS h i k j l).Cs U,rL:=λe he=>h.rL e (Qh he),rN:=aUt (Qg _ _) h.rN,whl:=Qi h.whl hw,hG:=by simp;omega}
  ·exact {hm2 with snd:=sU hm2.snd (h.snd o k).aBQ,rcv:=λj l=>(aBS h i k j l).Cs U,rL:=λe he=>h.rL e (Qh he),rN:=aUt (Qg _ _) h.rN,whl:=Qi h.whl hw}
theorem aOr {gr:Nat->Option Nat}{n:Nat}{first:Bool}{s:Mat}(i:Nat)(hn:0<n)(hm: ∀x∈s.m,x= -1∨0<=x/\x<(n:Int))(hg: ∀x∈s.g,x<n)(ha: ∀x∈s.a,x<n):
  (∀x∈(acc gr n first s i).m,x= -1∨0<=x/\x<(n:Int))/\(∀x∈(acc gr n first s i).g,x<n)/\(∀x∈(acc gr n first s i).a,x<n):=by
 unfold acc;split
 ·split
  ·exact⟨hm,hg,ha⟩
  ·rename_i k hk
   have:=(uW hk).1;refine⟨λx hx=> ?_,λx hx=> ?_,λx hx=> ?_⟩
   ·rcases List.mem_or_eq_of_mem_set hx with hx|hx
    ·exact hm x hx
    ·right
     omega
   ·dsimp only at hx
    split at hx
    ·rcases List.mem_or_eq_of_mem_set hx with hx|hx
     ·exact hg x hx
     ·rw[hx]
      exact Nat.mod_lt _ hn
    ·exact hg x hx
   ·dsimp only at hx
    split at hx
    ·rcases List.mem_or_eq_of_mem_set hx with hx|hx
     ·exact ha x hx
     ·rw[hx]
      exact Nat.mod_lt _ hn
    ·exact ha x hx
 ·exact⟨hm,hg,ha⟩
structure MatI (n:Nat)(s:Mat):Prop where
 ml:s.m.length=n
 gl:s.g.length=n
 al:s.a.length=n
 m: ∀x∈s.m,x= -1∨0<=x/\x<(n:Int)
 g: ∀x∈s.g,x<n
 a: ∀x∈s.a,x<n
theorem MatI.acc {gr:Nat->Option Nat}{n:Nat}{first:Bool}{s:Mat}(h:MatI n s)(hn:0<n)(i:Nat):MatI n (acc gr n first s i):=by
 obtain⟨h1,h2,h3⟩:=aIA gr n first s i
 obtain⟨h4,h5,h6⟩:=aOr (gr:=gr) (first:=first) i hn h.m h.g h.a
 exact⟨h1.trans h.ml,h2.trans h.gl,h3.trans h.al,h4,h5,h6⟩
theorem MatI.Qe {gr:Nat->Option Nat}{n:Nat}{first:Bool}(hn:0<n): ∀(l:List Nat){s:Mat},MatI n s->MatI n (l.foldl (Go.Abs.acc gr n first) s)
 |[],_,h=>h
 |i::l,_,h=>by
  rw[List.foldl_cons];exact MatI.Qe hn l (h.acc hn i)
theorem MatI.rnd {req:Nat->Nat->Bool}{n:Nat}{first:Bool}{s:Mat}(h:MatI n s)(hn:0<n):MatI n (rnd req n first s):=MatI.Qe hn _ h
theorem MatI.aBG {req:Nat->Nat->Bool}{n:Nat}(hn:0<n): ∀(k:Nat){s:Mat},MatI n s->MatI n (wQ req n k s)
 |0,_,h=>h
 |k+1,_,h=>MatI.aBG hn k (h.rnd hn)
theorem MatI.aBH {n:Nat}{g a:List Nat}(hg:g.length=n)(ha:a.length=n)(h1: ∀x∈g,x<n)(h2: ∀x∈a,x<n):MatI n ⟨List.replicate n (-1),g,a⟩:=
 ⟨by simp,hg,ha,λx hx=>by simp at hx;exact .inl hx.2,h1,h2⟩
theorem MatI.Qf {req:Nat->Nat->Bool}{n rounds:Nat}{g a:List Nat}(hn:0<n)(hg:g.length=n)(ha:a.length=n)(h1: ∀x∈g,x<n)(h2: ∀x∈a,x<n):MatI n (lX req n rounds g a):=
 MatI.aBG hn _ ((MatI.aBH hg ha h1 h2).rnd hn)
end
end Go.Abs
noncomputable section
namespace Go.Proofs.YtciiopkbmjppfaaGreatDoor
open Go.Proofs.Tryz
open Go.Abs Go.Abs.M
variable (O:aH)(L:LV)(k:KV)(N P Q R S T U V W X Y Z a b c d e f g i j l m n o p q r s t u v w x y z A B C D E F G H I J zz zy zx zw zv zu zt zs zr zq zp zo zn zm zl zk zj zi zh zg zf ze zd zc zb za yz:Value)(rr:List Value)(h:aF)
theorem Qo:aR prog O L 86 [N,P,Q]=bC O 118 [Q] λaa=>bB prog .eql 184 aa (.pointer none) λab=>bG ab false (aX N) λac=>bG ab false (aP (bin prog .lss 3 ac (.I 1))) λad=>bP ab (.bool true) ad λae=>bG ae false (aX N) λaf=>bG ae false (aP (bin prog .gtr 3 af (.I 16))) λag=>bP ae (.bool true) ag λah=>bG ah false (aX P) λai=>bG ah false (aP (bin prog .lss 3 ai (.I 1))) λaj=>bP ah (.bool true) aj λak=>bG ak false (aX P) λal=>bG ak false (aP (bin prog .gtr 3 al (.I 3))) λam=>bP ak (.bool true) am λan=>aN an (aM (aK [(.pointer none)])) (bM lV λao=>bO (bld prog 187 [(0,aa),(1,ao),(2,N),(3,P)]) λap=>bM (aZ 187 (Value.cells ap).toList .fix) λaq=>aM (aK [aq])):=by kernel_rfl
theorem aOy:aR prog O L 70 [N,P,Q,R]=aW 1 N λaa=>bO (bld prog 189 [(0,P),(1,Q),(2,R)]) λab=>bM (jE (.str [true,true,true]) (.N) false aa ab) λac=>bN ac λad=>aM (aK [ad]):=by kernel_rfl
def Qj:CC:=cc prog 3145741 118 [1,1,1,0,1,0,0]
def Qk:KV:=(bV 0 (cJ prog O L (cc prog 3145741 118 [1,1,1,1]) (cS prog Tryz.f118)))
theorem aOv:Qk O L (.exit 0) (a::aG 1 (c::d::aG 16 (w::x::aG 21 [])))=aW 0 d λaa=>bB prog .sub 3 a (.I 1) λab=>bI 2 aa ab λac=>bF 1 ac λad=>bT ad (.I (-1)) λae=>aM (aK [d]):=by kernel_rfl
theorem aBY:aO prog O L Qj k (a::aG 1 (c::d::aG 16 (w::x::aG 21 [])))=bB prog .lss 3 x w λaa=>aN aa (aW 0 d λab=>bB prog .add 3 x (.I 1) λac=>bI 2 ab x λad=>bF 1 ad λae=>bT ae ac λaf=>bB prog .add 3 x (.I 1) λag=>k .normal (a::aG 1 (c::d::aG 16 (w::ag::aG 21 [])))) (k (.exit 0) (a::aG 1 (c::d::aG 16 (w::x::aG 21 [])))):=by kernel_rfl
theorem aBZ:aR prog O L 118 [N]=bB prog .lss 3 N (.I 1) λaa=>bG aa false (aX N) λab=>bG aa false (aP (bin prog .gtr 3 ab (.I 200))) λac=>bP aa (.bool true) ac λad=>aN ad (aM (aK [(.pointer none)])) (bM (gU 237 2 16 [(.pointer none),(.I 0)] N N) λae=>bO (bld prog 234 [(0,ae),(2,N)]) λaf=>bM (aZ 234 (Value.cells af).toList .fix) λag=>aW 0 ag λah=>bN ah λai=>L (aO prog O L Qj) (Qk O L) (N::aG 1 (some (.pointer none)::ag::aG 16 (ai::some (.I 0)::aG 21 [])))):=by kernel_rfl
theorem Ql:aR prog O L 124 [N,P,Q,R,S]=bM (aZ 31 (Value.cells S).toList .fix) λaa=>bO (bld prog 189 [(0,P),(1,Q),(2,R)]) λab=>bM (aZ 189 [(.I 0),(.I 0),(.I 0)] .fix) λac=>bM (stN 3 ac ab) λad=>bM (ldN 3 ac) λae=>bC O 147 [N,ae] λaf=>bO (un prog .not af) λag=>aN ag (aM (aK [(.bool false)])) (aW 0 N λah=>bM (ldN 4 aa) λai=>bC O 148 [ah,ai] λaj=>bX 0 aj λak=>bX 1 aj λal=>aN al (aW 1 N λam=>bM (ldN 3 ac) λan=>bM (b9 3 1 1 [(.I 0)] [(0,ak)]) λao=>bM (qO (.str [true,true,true]) (.N) am an) λap=>bX 0 ap λaq=>bM (app 3 1 8 aq ao) λar=>bX 1 ap λau=>bM (qM am au ar) λav=>aM (aK [al])) (aM (aK [al]))):=by kernel_rfl
theorem Qm:aR prog O L 132 [N,P,Q,R]=bM (aZ 31 [(.I 0),(.I 0),(.I 0),(.int .u32 0)] .fix) λaa=>bC O 155 [N,P,Q,R] λab=>bX 0 ab λac=>bX 1 ab λad=>bM (aZ 31 [(.I 0),(.I 0),(.I 0),(.int .u32 0)] .fix) λae=>bM (stN 4 ae ac) λaf=>aN ad (bO (bld prog 189 [(0,P),(1,Q),(2,R)]) λag=>bM (aZ 189 [(.I 0),(.I 0),(.I 0)] .fix) λah=>bM (stN 3 ah ag) λai=>aW 0 N λaj=>aW 1 N λak=>bM (ldN 3 ah) λal=>bM (jE (.str [true,true,true]) (.N) false ak al) λam=>bIL 1 am (.I 0) λan=>bC O 156 [aj,an] λao=>aW 1 N λap=>bM (ldN 3 ah) λaq=>aW 1 N λar=>bM (ldN 3 ah) λau=>bM (jE (.str [true,true,true]) (.N) false ar au) λav=>bM (slc prog 1 av (some (.I 1)) none none) λaw=>bM (kS (.str [true,true,true]) ap aq aw) λax=>aW 1 N λay=>bM (ldN 3 ah) λaz=>bM (jE (.str [true,true,true]) (.N) false ay az) λba=>bN ba λbb=>bB prog .eql 3 bb (.I 0) λbc=>aN bc (aW 1 N λbd=>bM (ldN 3 ah) λbe=>bM (rO (.str [true,true,true]) bd be) λbf=>bM (ldN 4 ae) λbg=>bM (stN 4 aa bg) λbh=>bR (ldN 4 aa) λw45=>aM (aK [w45,ad])) (bM (ldN 4 ae) λbi=>bM (stN 4 aa bi) λbj=>bR (ldN 4 aa) λw48=>aM (aK [w48,ad]))) (bM (ldN 4 ae) λbk=>bM (stN 4 aa bk) λbl=>bR (ldN 4 aa) λw51=>aM (aK [w51,ad])):=by kernel_rfl
theorem aB2:aR prog O L 174 [N,P]=bM (aZ 31 [(.I 0),(.I 0),(.I 0),(.int .u32 0)] .fix) λaa=>bC O 175 [N,P] λab=>bB prog .neq 263 ab (.pointer none) λac=>aN ac (aW 0 ab λad=>bQ ad λae=>bM (ldN 4 ae) λaf=>bM (stN 4 aa af) λag=>bR (ldN 4 aa) λw9=>aM (aK [w9,(.bool true)])) (bO (bld prog 31 []) λah=>bM (stN 4 aa ah) λai=>bR (ldN 4 aa) λw12=>aM (aK [w12,(.bool false)])):=by kernel_rfl
theorem aOw:aR prog O L 147 [N,P]=bM (aZ 189 (Value.cells P).toList .fix) λaa=>bFL 0 aa λab=>bFL 1 aa λac=>bFL 2 aa λad=>bO (gJ prog false [ab,ac,ad]) λae=>bB prog .geq 3 ae (.I 0) λaf=>gFL af true 0 aa λag=>gFL af true 1 aa λah=>bG af true (aP (gJ prog true [ag,ah])) λai=>bG af true (aX N) λaj=>nX af true 2 aj λak=>bG af true (aP (bin prog .lss 3 ai ak)) λal=>bP af al (.bool false) λam=>gFL am true 2 aa λan=>bG am true (aX N) λao=>nX am true 3 ao λap=>bG am true (aP (bin prog .lss 3 an ap)) λaq=>bP am aq (.bool false) λar=>aM (aK [ar]):=by kernel_rfl
theorem aB0:aR prog O L 148 [N,P]=bM (aZ 31 (Value.cells P).toList .fix) λaa=>aW 1 N λab=>bB prog .eql 3 ab (.I (-1)) λac=>aN ac (aM (aK [(.I 0),(.bool false)])) (aW 0 N λad=>bI 2 ad ab λae=>aW 1 ae λaf=>bQF 0 ae λag=>bT ag aa λah=>bQF 1 N λai=>bT ai af λaj=>aW 2 N λak=>bB prog .sub 3 ak (.I 1) λal=>bQF 2 N λam=>bT am al λan=>aM (aK [ab,(.bool true)])):=by kernel_rfl
theorem aB1:aR prog O L 155 [N,P,Q,R]=bM (aZ 31 [(.I 0),(.I 0),(.I 0),(.int .u32 0)] .fix) λaa=>aW 1 N λab=>bO (bld prog 189 [(0,P),(1,Q),(2,R)]) λac=>bM (jE (.str [true,true,true]) (.N) false ab ac) λad=>bN ad λae=>bB prog .eql 3 ae (.I 0) λaf=>aN af (bO (bld prog 31 []) λag=>bM (stN 4 aa ag) λah=>bR (ldN 4 aa) λw10=>aM (aK [w10,(.bool false)])) (aW 0 N λai=>bIL 1 ad (.I 0) λaj=>bC O 174 [ai,aj] λak=>bX 0 ak λal=>bX 1 ak λam=>bM (stN 4 aa al) λan=>bR (ldN 4 aa) λw20=>aM (aK [w20,am])):=by kernel_rfl
theorem aOx:aR prog O L 156 [N,P]=bC O 175 [N,P] λaa=>bB prog .eql 263 aa (.pointer none) λab=>aN ab (aM (aK [(.bool false)])) (aW 1 N λac=>bQF 0 aa λad=>bT ad (.pointer none) λae=>bQF 1 aa λaf=>bT af ac λag=>bQF 1 N λah=>bT ah P λai=>aW 2 N λaj=>bB prog .add 3 aj (.I 1) λak=>bQF 2 N λal=>bT al ak λam=>aM (aK [(.bool true)])):=by kernel_rfl
theorem aB3:aR prog O L 175 [N,P]=bB prog .lss 3 P (.I 0) λaa=>bG aa false (aX P) λab=>bG aa false (aX N) λac=>nX aa false 0 ac λad=>bG aa false (aP (cX ad)) λae=>bG aa false (aP (bin prog .geq 3 ab ae)) λaf=>bP aa (.bool true) af λag=>bG ag false (aX N) λah=>nX ag false 0 ah λai=>bG ag false (aX P) λaj=>bG ag false (aP (cN 2 ai aj)) λak=>gFL ag false 0 ak λal=>bG ag false (aP (bin prog .eql 235 al (.pointer none))) λam=>bP ag (.bool true) am λan=>aN an (aM (aK [(.pointer none)])) (aW 0 N λao=>bI 2 ao P λap=>aM (aK [ap])):=by kernel_rfl
end Go.Proofs.YtciiopkbmjppfaaGreatDoor
end
namespace Go.Proofs.YtciiopkbmjppfaaGreatDoor.Rg
open Go.Proofs.Tryz
open Go.Abs Go.Abs.M
theorem n73 (a:Addr):bin prog .neq 263 (.pointer (some a)) (.pointer none)=some (.bool true):=aGY 263 237 (by kernel_rfl) a
theorem aOJ:bin prog .neq 263 (.pointer none) (.pointer none)=some (.bool false):=aGZ 263 237 (by kernel_rfl)
theorem e73 (a:Addr):bin prog .eql 263 (.pointer (some a)) (.pointer none)=some (.bool false):=Ek 263 237 (by kernel_rfl) a
theorem e70 (a:Addr):bin prog .eql 235 (.pointer (some a)) (.pointer none)=some (.bool false):=Ek 235 31 (by kernel_rfl) a
theorem aOC:bin prog .eql 235 (.pointer none) (.pointer none)=some (.bool true):=Ky 235 31 (by kernel_rfl)
theorem e22 (a:Addr):bin prog .eql 184 (.pointer (some a)) (.pointer none)=some (.bool false):=Ek 184 234 (by kernel_rfl) a
theorem aOB:bin prog .eql 184 (.pointer none) (.pointer none)=some (.bool true):=Ky 184 234 (by kernel_rfl)
def pkB (x:Pkt):Blk:= .cells x.kF 31 .fix
abbrev fL:=Option (Nat×Pkt)×Int
def xJ (x:Option (Nat×Pkt)):Value:= .pointer (x.map λb=>⟨b.1,0,none⟩)
def qX (x:fL):List Value:=[xJ x.1,.I x.2]
def kL (l:List fL):Blk:= .cells (l.map qX).flatten 237 .row
def mZ (s n:Nat)(top free:Int):Blk:= .cells [.slice (some ⟨s,0,none⟩) n n,.int .i64 top,.int .i64 free] 234 .fix
structure IsPool (H:aF)(p s:Nat)(l:List fL)(top free:Int):Prop where
 hp:H[p]? =some (mZ s l.length top free)
 hs:H[s]? =some (kL l)
 hq: ∀(i q:Nat)(x:Pkt)(d:Int),l[i]? =some (some (q,x),d)->H[q]? =some (pkB x)
theorem Hx (l:List fL): ∀r∈l.map qX,r.length=2:=by
 intro r hr;simp only[aUQ] at hr;obtain⟨x,_,rfl⟩:=hr;rfl
theorem aCb (l:List fL):(l.map qX).flatten.length=l.length*2:=by
 rw[rX _ (Hx l)];simp
theorem aCc (l:List fL)(i j:Nat)(v:Value)(x y:fL)(hi:l[i]? =some x)(hj:j<2)(hv:(qX x).set j v=qX y):(l.map qX).flatten.set (i*2+j) v=((l.set i y).map qX).flatten:=by
 have:=Kz (l.map qX) (Hx l) i j [v] (qX x) (by simp[hi]) (by simp;omega)
 simp only[cU] at this;rw[this,hv,List.map_set]
variable {pr : eK} {H : aF} {p s : Nat} {l : List fL} {top free : Int}
@[simp] theorem aUa (i:Nat):ldC (some (kL l)) (i*2) H=wF ((l[i]?).map λx=>xJ x.1) H:=by
 have:=El _ (Hx l) i 0 aC
 simp only[Nat.add_zero] at this;unfold kL;rw[rV,this,aUq];cases l[i]? <;>rfl
@[simp] theorem aOH (i:Nat):ldC (some (kL l)) (i*2+1) H=wF ((l[i]?).map λx=> .I x.2) H:=by
 have:=El _ (Hx l) i 1 aC
 unfold kL;rw[rV,this,aUq];cases l[i]? <;>rfl
theorem aCg (b i:Nat)(a:Option Addr)(x:fL)(q:Option (Nat×Pkt))(hi:l[i]? =some x)(hq: .pointer a=xJ q):stC (some (kL l)) b (i*2) [.pointer a] H=some (undef,H.set b (kL (l.set i (q,x.2)))):=by
 have hl:i<l.length:=(aUd.mp hi).1;unfold kL;rw[K0 _ _ _ _ _ rfl (by rw[aCb];simp;omega)]
 have:=aCc l i 0 (.pointer a) x (q,x.2) hi aC (by rw[hq];rfl)
 simp only[cU];rw[<-this,Nat.add_zero]
theorem Qt (b i:Nat)(d:Int)(x:fL)(hi:l[i]? =some x):stC (some (kL l)) b (i*2+1) [.I d] H=some (undef,H.set b (kL (l.set i (x.1,d)))):=by
 have hl:i<l.length:=(aUd.mp hi).1;unfold kL;rw[K0 _ _ _ _ _ rfl (by rw[aCb];simp;omega)]
 have:=aCc l i 1 (.I d) x (x.1,d) hi aC (by rfl)
 simp only[cU];rw[<-this]
@[simp] theorem Hu (n:Nat):ldC (some (mZ s n top free)) 0 H=some (.slice (some ⟨s,0,none⟩) n n,H):=rfl
@[simp] theorem aB7 (n:Nat):ldC (some (mZ s n top free)) 1 H=some (.I top,H):=rfl
@[simp] theorem aB8 (n:Nat):ldC (some (mZ s n top free)) 2 H=some (.I free,H):=rfl
@[simp] theorem aCe (b n:Nat)(d:Int):stC (some (mZ s n top free)) b 1 [.I d] H=some (undef,H.set b (mZ s n d free)):=rfl
@[simp] theorem aCf (b n:Nat)(d:Int):stC (some (mZ s n top free)) b 2 [.I d] H=some (undef,H.set b (mZ s n top d)):=rfl
@[simp] theorem aOG (x:Pkt):Ej (some (pkB x)) 4 0 H=some (x.cE,H):=rfl
theorem Hy (b:Nat)(y:Pkt):stN 4 (.Q b 0) y.cE H=stC H[b]? b 0 y.kF H:=fV 4 b 0 _ rfl
@[simp] theorem aCd (b:Nat)(x y:Pkt):stC (some (pkB x)) b 0 y.kF H=some (undef,H.set b (pkB y)):=rfl
theorem xI:Blk.cells [.int .i64 0,.int .i64 0,.int .i64 0,.int .u32 0] 31 .fix=pkB pk0:=rfl
theorem aCa:bld prog 31 []=some pk0.cE:=by kernel_rfl
theorem Qs (H:aF)(a b:Blk):(H++[a]).set H.length b=H++[b]:=by simp
theorem aOz (hn:pr (.func 175)=none)(h:IsPool H p s l top free){m:Nat}(hm:0<m)(i:Int)(hi:i<0∨(l.length:Int)<=i∨ ∃d,l[i.toNat]? =some (none,d)):
  lvl prog pr m (.func 175) [.Q p 0,.I i] H=some (.pointer none,H):=by
 have hp:=h.hp;have hs:=h.hs;refine aS hn hm ?_;rw[aB3];by_cases h0:i<0
 ·simp -implicitDefEqProofs [gsB,h0]
 ·by_cases h1:(l.length:Int)<=i
  ·simp -implicitDefEqProofs [gsB,h0,h1,hp,hs]
  ·obtain⟨d,hd⟩: ∃d,l[i.toNat]? =some (none,d):=by
    rcases hi with hi|hi|hi
    ·exact absurd hi h0
    ·exact absurd hi h1
    ·exact hi
   simp -implicitDefEqProofs (disch:=first|omega|simp) [gsB, -getElem?_pos,h0,h1,hp,hs,hd,xJ,aOC]
theorem aB5 (hn:pr (.func 175)=none)(h:IsPool H p s l top free){m:Nat}(hm:0<m)(i:Nat)(q:Nat×Pkt)(d:Int)(hi:l[i]? =some (some q,d)):
  lvl prog pr m (.func 175) [.Q p 0,.I i] H=some (.Q s (i*2),H):=by
 have hp:=h.hp;have hs:=h.hs;have hl:i<l.length:=(aUd.mp hi).1;refine aS hn hm ?_;rw[aB3];have h0: ¬(i:Int)<0:=U
 have h1: ¬(l.length:Int)<=i:=U
 simp -implicitDefEqProofs (disch:=first|omega|simp) [gsB, -getElem?_pos,h0,h1,hp,hs,hi,xJ,e70]
theorem IsPool.app (h:IsPool H p s l top free)(G:aF):IsPool (H++G) p s l top free:=by
 have up: ∀(b:Nat)(x:Blk),H[b]? =some x->(H++G)[b]? =some x:=λb x hb=>by
  rw[aUg (aUd.mp hb).1,hb]
 exact⟨up _ _ h.hp,up _ _ h.hs,λi q x d hi=>up _ _ (h.hq i q x d hi)⟩
theorem aT9 (hn:pr (.func 175)=none)(hn':pr (.func 174)=none)(h:IsPool H p s l top free){m:Nat}(hm:1<m)(i:Int)(hi:i<0∨(l.length:Int)<=i∨ ∃d,l[i.toNat]? =some (none,d)):
  lvl prog pr m (.func 174) [.Q p 0,.I i] H=some (.tuple #[pk0.cE,.bool false],H++[pkB pk0]):=by
 refine aS hn' U ?_
 rw[aB2];have hc:=aOz hn (h.app [pkB pk0]) (m:=m-1) U i hi
 simp -implicitDefEqProofs [gsB,xI,hc,aOJ,aCa,Hy,Qs]
theorem aOF (hn:pr (.func 175)=none)(hn':pr (.func 174)=none)(h:IsPool H p s l top free){m:Nat}(hm:1<m)(i q:Nat)(x:Pkt)(d:Int)(hi:l[i]? =some (some (q,x),d)):
  lvl prog pr m (.func 174) [.Q p 0,.I i] H=some (.tuple #[x.cE,.bool true],H++[pkB x]):=by
 refine aS hn' U ?_
 rw[aB2];have h':=h.app [pkB pk0];have hc:=aB5 hn h' (m:=m-1) U i _ d hi
 have hs:=h'.hs;have hq:=h'.hq i q x d hi;simp -implicitDefEqProofs [gsB,xI,hc,n73,hs,hq,hi,xJ,Hy,Qs]
theorem IsPool.ps (h:IsPool H p s l top free):p≠s:=by
 intro e;have h1:=h.hp;have h2:=h.hs;rw[e,h2] at h1;simp[kL,mZ] at h1
theorem IsPool.Qp (h:IsPool H p s l top free):p<H.length:=(aUd.mp h.hp).1
theorem IsPool.sl (h:IsPool H p s l top free):s<H.length:=(aUd.mp h.hs).1
theorem IsPool.qs (h:IsPool H p s l top free){q:Nat}{x:Pkt}(hq:H[q]? =some (pkB x)):q≠p/\q≠s:=by
 constructor
 ·intro e
  have h1:=h.hp;rw[<-e,hq] at h1;simp[pkB,mZ] at h1
 ·intro e
  have h1:=h.hs;rw[<-e,hq] at h1;simp[pkB,kL] at h1
theorem IsPool.aB4 (h:IsPool H p s l top free)(l':List fL)(hl:l'.length=l.length)(top' free':Int)
  (hq: ∀(i q:Nat)(x:Pkt)(d:Int),l'[i]? =some (some (q,x),d)->H[q]? =some (pkB x)):IsPool ((H.set s (kL l')).set p (mZ s l.length top' free')) p s l' top' free':=by
 have h1:=h.ps;have h2:=h.Qp;have h3:=h.sl;refine⟨?_,?_,?_⟩
 ·rw[hl,aUj (by simpa using h2)]
 ·rw[aUe U,aUj U]
 ·intro i q x d hi
  have hb:=hq i q x d hi;obtain⟨h4,h5⟩:=h.qs hb;rw[aUe U,aUe U,hb]
theorem aOA (hn:pr (.func 175)=none)(hn':pr (.func 156)=none)(h:IsPool H p s l top free){m:Nat}(hm:1<m)(i:Nat)(q:Nat×Pkt)(d:Int)(hi:l[i]? =some (some q,d))(hf0:0<=free)(hf1:free<1000):
  lvl prog pr m (.func 156) [.Q p 0,.I i] H=some (.bool true,(H.set s (kL (l.set i (none,top)))).set p (mZ s l.length i (free+1))):=by
 refine aS hn' U ?_
 rw[aOx];have hc:=aB5 hn h (m:=m-1) U i q d hi
 have hp:=h.hp;have hs:=h.hs;have h1:=h.ps;have h2:=h.Qp;have h3:=h.sl;have hl:i<l.length:=(aUd.mp hi).1;have w:IntKind.i64.wrap (free+1)=free+1:=bJ U U
 have s0:=λH=>aCg (H:=H) (l:=l) s i none (some q,d) none hi rfl
 have s1:=λH=>Qt (H:=H) (l:=l.set i (none,d)) s i top (none,d) (by simp[hl])
 simp -implicitDefEqProofs (disch:=first|omega|(simp;omega)) only[gsB,hc,e73,hp,hs,s0,s1,w,aV,List.set_set,ob_some,iteV_false,iteV_true,r_opt,r_nil,r_fAddr,fI,aB7,aB8,Eo,Wo,aUy,Nat.add_zero,aUj,aUe,ne_eq,aCe,aCf,oneOf_one]
theorem aOM (hn:pr (.func 148)=none)(h:IsPool H p s l (-1) free){m:Nat}(hm:0<m)(x:Pkt):
  lvl prog pr m (.func 148) [.Q p 0,x.cE] H=some (.tuple #[.I 0,.bool false],H++[pkB x]):=by
 refine aS hn U ?_
 rw[aB0];have hp:=(h.app [pkB x]).hp;have e:Blk.cells (Value.cells x.cE).toList 31 .fix=pkB x:=rfl;simp -implicitDefEqProofs [gsB,e,hp]
theorem aON (hn:pr (.func 148)=none)(k:Nat)(h:IsPool H p s l k free){m:Nat}(hm:0<m)(x:Pkt)(q:Option (Nat×Pkt))(d:Int)(hk:l[k]? =some (q,d))(hf0: -10<=free)(hf1:free<1000):
  lvl prog pr m (.func 148) [.Q p 0,x.cE] H=
   some (.tuple #[.I k,.bool true],((H++[pkB x]).set s (kL (l.set k (some (H.length,x),d)))).set p (mZ s l.length d (free-1))):=by
 refine aS hn U ?_
 rw[aB0];have h':=h.app [pkB x];have hp:=h'.hp;have hs:=h'.hs;have h1:=h'.ps;have h2:=h'.Qp;have h3:=h'.sl;have h4:p<H.length+1:=by simpa using h2
 have h5:s<H.length+1:=by simpa using h3
 have hl:k<l.length:=(aUd.mp hk).1;have w:IntKind.i64.wrap (free-1)=free-1:=bJ U U
 have e:Blk.cells (Value.cells x.cE).toList 31 .fix=pkB x:=rfl;have e2:((k:Int)== -1)=false:=by simp
 have e3:((l[k]?).map λx=>Value.I x.2)=some (.I d):=by rw[hk];rfl
 have s0:=λH'=>aCg (H:=H') (l:=l) s k (some ⟨H.length,0,none⟩) (q,d) (some (H.length,x)) hk rfl
 simp -implicitDefEqProofs (disch:=first|omega|(simp;omega)) only[gsB,e,e2,e3,hp,hs,s0,w,b_eql,eM,x_newB,List.set_set,ob_some,iteV_false,iteV_true,r_opt,r_nil,r_fAddr,mP,fI,Hu,aB7,aB8,aOH,rU,Eo,Wo,aUy,Nat.add_zero,aUj,aUe,ne_eq,aCe,aCf,oneOf_two,aUF]
def fM (n i:Nat):List fL:=(List.range n).map λj=>(none,if j<i then(j:Int)+1 else 0)
def gN (n:Nat):List fL:=(List.range n).map λj=>(none,if j+1<n then(j:Int)+1 else -1)
theorem zY (n i j:Nat)(h:j<n):(fM n i)[j]? =some (none,if j<i then(j:Int)+1 else 0):=by simp[fM,h]
theorem aOE (n i:Nat):(fM n i).set i (none,(i:Int)+1)=fM n (i+1):=by
 apply aUO;intro j;by_cases hj:j<n
 ·by_cases e:i=j
  ·subst e
   rw[aUj (by simpa[fM] using hj),zY _ _ _ hj,if_pos U]
  ·rw[aUe e,zY _ _ _ hj,zY _ _ _ hj]
   by_cases h:j<i
   ·rw[if_pos h,if_pos U]
   ·rw[if_neg h,if_neg U]
 ·rw[aUo (by simp[fM];omega),aUo (by simp[fM];omega)]
theorem aOD (n:Nat)(h:0<n):(fM n n).set (n-1) (none, -1)=gN n:=by
 apply aUO;intro j;by_cases hj:j<n
 ·have e2:(gN n)[j]? =some (none,if j+1<n then(j:Int)+1 else -1):=by simp[gN,hj]
  by_cases e:n-1=j
  ·subst e
   rw[aUj (by simpa[fM] using hj),e2,if_neg U]
  ·rw[aUe e,zY _ _ _ hj,e2,if_pos hj,if_pos U]
 ·rw[aUo (by simp[fM];omega),aUo (by simp[gN];omega)]
def iI (H:aF)(l:List fL):aF:=H++[kL l,mZ H.length l.length 0 l.length]
theorem Ht (l:List fL):(iI H l)[H.length+1]? =some (mZ H.length l.length 0 l.length):=by simp[iI]
theorem Qq (l:List fL):(iI H l)[H.length]? =some (kL l):=by simp[iI]
theorem aB6 (l l':List fL)(h:l'.length=l.length):(iI H l).set H.length (kL l')=iI H l':=by simp[iI,h]
theorem aOK (n:Nat)(h200:n<=200)(h1:0<n)(O:aH)(L:aI (Value×aF)): ∀(r i m:Nat),n-i=r->i<=n->r<m-> ∀(x2:Value),
  aL m (aO prog O L Qj) (Qk O L) (some (.I n)::aG 1 (x2::some (.Q (H.length+1) 0)::aG 16 (some (.I n)::some (.I i)::aG 21 []))) (iI H (fM n i))=some (.Q (H.length+1) 0,iI H (gN n)):=by
 intro r;induction r with
 |zero=>
  intro i m hr hi hm;intros;obtain⟨m,rfl⟩: ∃k,m=k+1:=⟨m-1,by omega⟩
  obtain rfl:i=n:=U
  rw[bS,aBY];have e:decide ((i:Int)<i)=false:=by simp
  have s1:=λH'=>Qt (H:=H') (l:=fM i i) H.length (i-1) (-1) (none,((i-1:Nat):Int)+1) (by rw[zY _ _ _ U,if_pos U])
  have w:IntKind.i64.wrap ((i:Int)-1)=((i-1:Nat):Int):=by rw[bJ U U];omega
  have hl:(fM i i).length=i:=by simp[fM]
  simp -implicitDefEqProofs only[gsB,b_lss,e,r_opt,ob_some,iteV_false,again_exit];rw[aOv];simp -implicitDefEqProofs (disch:=first|omega|(simp[fM];omega)|simp[fM,gN]) only[gsB,r_opt,ob_some,r_nil,r_fAddr,fI,Ht,Hu,eM,w,mP,aUy,Nat.add_zero,Eo,Qq,s1,aUF,aOD,hl,aB6,oneOf_one]
 |succ r ih=>
  intro i m hr hi hm;intros;obtain⟨m,rfl⟩: ∃k,m=k+1:=⟨m-1,by omega⟩
  rw[bS,aBY];have e:decide ((i:Int)<n)=true:=by simp;omega
  have s1:=λH'=>Qt (H:=H') (l:=fM n i) H.length i ((i:Int)+1) (none,0) (by rw[zY _ _ _ U,if_neg U])
  have w:=aA (i:=i) U
  have w':((i+1:Nat):Int)=(i:Int)+1:=U
  have hl:(fM n i).length=n:=by simp[fM]
  simp -implicitDefEqProofs (disch:=first|omega|(simp[fM];omega)|simp[fM]) only[gsB,b_lss,e,r_opt,ob_some,iteV_true,again_normal,r_nil,r_fAddr,fI,Ht,Hu,aV,w,mP,aUy,Nat.add_zero,Eo,Qq,w',s1,aUF,aOE,hl,aB6,oneOf_one]
  rw[<-w'];exact ih (i+1) m U U U ..
theorem Hv (n:Nat):(gN n).length=n:=by simp[gN]
theorem Qr (n j:Nat)(h:j<n):(gN n)[j]? =some (none,if j+1<n then(j:Int)+1 else -1):=by simp[gN,h]
theorem aB9 (hn:pr (.func 118)=none)(n:Nat)(h1:0<n)(h200:n<=200){m:Nat}(hm:210<m):
  lvl prog pr m (.func 118) [.I n] H=some (.Q (H.length+1) 0,iI H (gN n)):=by
 refine aS hn U ?_
 rw[aBZ];have e1:decide ((n:Int)<1)=false:=by simp;omega
 have e2:decide ((200:Int)<n)=false:=by simp;omega
 have e3:bld prog 234 [(0,.slice (some ⟨H.length,0,none⟩) n n),(2,.I n)]=some (.agg #[.slice (some ⟨H.length,0,none⟩) n n,.I 0,.I n]):=by kernel_rfl
 have e4:H++[Blk.cells (List.replicate n [.pointer none,.int .i64 0]).flatten 237 .row]++[Blk.cells [.slice (some ⟨H.length,0,none⟩) n n,.int .i64 0,.int .i64 n] 234 .fix]=iI H (fM n 0):=by
  have:(fM n 0).map qX=List.replicate n [.pointer none,.I 0]:=by
   apply aUO;intro j;by_cases hj:j<n
   ·simp -implicitDefEqProofs [gsB,fM,hj,qX,xJ]
   ·rw[aUo (by simp[fM];omega),aUo (by simp;omega)]
  have hl:(fM n 0).length=n:=by simp[fM]
  simp -implicitDefEqProofs [gsB,iI,kL,this,mZ,hl]
 have e5:(Value.agg #[Value.slice (some ⟨H.length,0,none⟩) n n,.int .i64 0,.int .i64 n]).cells.toList=[Value.slice (some ⟨H.length,0,none⟩) n n,.int .i64 0,.int .i64 n]:=rfl;have e6: ∀b c:Blk,(H++[b]++[c])[H.length+1]? =some c:=λb c=>by simp
 have hl:(fM n 0).length=n:=by simp[fM]
 have ms:=uQ (H:=H) 237 2 16 [.pointer none,.I 0] .i64 .i64 n U U U rfl
 rw[aUF] at ms;simp -implicitDefEqProofs (disch:=first|omega|rfl) only[gsB,b_lss,b_gtr,e1,e2,r_opt,ob_some,r_gdff,r_ret,pick_f,iteV_false,ms,aUF,e3,e5,x_newB,aUp,aUz,List.length_nil,aUy,r_nil,r_fAddr,fI,e4,Ht,Hu,hl,tI]
 exact aOK n h200 h1 _ _ n 0 (m-1) U U U ..
theorem aOL (hn:pr (.func 118)=none)(n:Int)(h:n<1∨200<n){m:Nat}(hm:0<m):
  lvl prog pr m (.func 118) [.I n] H=some (.pointer none,H):=by
 refine aS hn U ?_
 rw[aBZ];by_cases e1:n<1
 ·simp -implicitDefEqProofs [gsB,e1]
 ·have e2:200<n:=U
  simp -implicitDefEqProofs [gsB,e1,e2]
theorem aOI (n:Nat):IsPool (iI H (gN n)) (H.length+1) H.length (gN n) 0 n:=by
 refine⟨?_,Qq _,λi q x d hi=> ?_⟩
 ·rw[Ht,Hv]
 ·by_cases hl:i<n
  ·rw[Qr n i hl] at hi
   simp at hi
  ·rw[aUo (by simp[gN];omega)] at hi
   cases hi
structure More (p s:Nat)(H H':aF):Prop where
 len:H.length<=H'.length
 same: ∀b,b<H.length->b≠p->b≠s->H'[b]? =H[b]?
theorem aOR {pr:eK}{H:aF}{p s:Nat}{l:List fL}{top free:Int}(hn:pr (.func 175)=none)(hn':pr (.func 156)=none)(h:IsPool H p s l top free){m:Nat}(hm:1<m)(i:Nat)(q:Nat×Pkt)(d:Int)(hi:l[i]? =some (some q,d))(hf0:0<=free)(hf1:free<1000):
  ∃H',lvl prog pr m (.func 156) [.Q p 0,.I i] H=some (.bool true,H')/\IsPool H' p s (l.set i (none,top)) i (free+1)/\More p s H H':=by
 refine⟨_,aOA hn hn' h hm i q d hi hf0 hf1,?_,by simp,?_⟩
 ·refine h.aB4 _ (by simp) _ _ λj q y d hj=> ?_
  by_cases ej:i=j
  ·subst ej
   have hl:i<l.length:=(aUd.mp hi).1;rw[aUj hl] at hj;simp at hj
  ·rw[aUe ej] at hj
   exact h.hq j q y d hj
 ·intro b hb h1 h2
  rw[aUe U,aUe U]
theorem aCj: ∀(n:Nat)(l:List Nat),l.Nodup->(∀x∈l,x<n)->l.length<=n
 |0,l,_,h=>by
  cases l with
  |nil=>exact aUi _
  |cons a _=>exact absurd (h a (by simp)) U
 |n+1,l,hd,h=>by
  have:=aCj n (l.erase n) (hd.erase n) λx hx=>by
   rw[hd.mem_erase_iff] at hx;have:=h x hx.2;have:=hx.1;omega
  rw[List.length_erase] at this
  split at this<;>omega
def FreeL (l:List fL):Int->List Nat->Prop
 |top,[]=>top= -1
 |top,k::ks=>top=(k:Int)/\ ∃d,l[k]? =some (none,d)/\FreeL l d ks
theorem FreeL.Qu {l:List fL}{i:Nat}{x:fL}: ∀(fl:List Nat)(top:Int),FreeL l top fl->i∉fl->FreeL (l.set i x) top fl
 |[],_,h,_=>h
 |k::ks,top,⟨h1,d,h2,h3⟩,hi=>by
  simp only[aUw,not_or] at hi
  exact⟨h1,d,by rw[aUe hi.1];exact h2,FreeL.Qu ks d h3 hi.2⟩
structure Model (H:aF)(p s:Nat)(l:List fL)(top free:Int)(fl:List Nat):Prop where
 pool:IsPool H p s l top free
 chain:FreeL l top fl
 nodup:fl.Nodup
 full: ∀i,i∈fl↔ ∃d,l[i]? =some (none,d)
 cnt:free=fl.length
 len:l.length<=200
section
variable {pr : eK} {H : aF} {p s : Nat} {l : List fL} {top free : Int} {fl : List Nat}
theorem Model.aCh (h:Model H p s l top free fl):fl.length<=200:=by
 refine aUt (aCj l.length fl h.nodup λx hx=> ?_) h.len
 obtain⟨d,hd⟩:=(h.full x).mp hx
 exact(aUd.mp hd).1
theorem Model.app (h:Model H p s l top free fl)(G:aF):Model (H++G) p s l top free fl:=⟨h.pool.app G,h.chain,h.nodup,h.full,h.cnt,h.len⟩
theorem Model.aOO (hn:pr (.func 175)=none)(hn':pr (.func 156)=none)(h:Model H p s l top free fl){m:Nat}(hm:1<m)(i:Nat)(q:Nat×Pkt)(d:Int)(hi:l[i]? =some (some q,d)):
  ∃H',lvl prog pr m (.func 156) [.Q p 0,.I i] H=some (.bool true,H')/\Model H' p s (l.set i (none,top)) i (free+1) (i::fl)/\More p s H H':=by
 have hl:=h.aCh;have hc:=h.cnt;obtain⟨H',e,hp,hm'⟩:=aOR hn hn' h.pool hm i q d hi U U
 have hlt:i<l.length:=(aUd.mp hi).1;have hni:i∉fl:=λhh=>by
  obtain⟨d',hd⟩:=(h.full i).mp hh;rw[hi] at hd;simp at hd
 refine⟨H',e,⟨hp,⟨rfl,top,aUj hlt,h.chain.Qu _ _ hni⟩,List.nodup_cons.mpr ⟨hni,h.nodup⟩,λj=> ?_,by rw[hc];simp,by simpa using h.len⟩,hm'⟩
 by_cases ej:i=j
 ·subst ej
  rw[aUj hlt];simp
 ·rw[aUe ej,aUw,<-h.full j]
  constructor
  ·rintro (h1|h1)
   ·exact absurd h1.symm ej
   ·exact h1
  ·exact .inr
theorem Model.aOP (hn:pr (.func 148)=none){k:Nat}{ks:List Nat}(h:Model H p s l top free (k::ks)){m:Nat}(hm:0<m)(x:Pkt):
  ∃H' q d,lvl prog pr m (.func 148) [.Q p 0,x.cE] H=some (.tuple #[.I k,.bool true],H')/\Model H' p s (l.set k (some (q,x),d)) d (free-1) ks/\k<l.length/\
   H.length<=H'.length/\ ∀b,b<H.length->b≠p->b≠s->H'[b]? =H[b]? :=by
 obtain⟨ht,d,hk,hc⟩:=h.chain;have hp:=h.pool;have hcnt:=h.cnt;have hfl:=h.aCh;simp only[aUz] at hcnt hfl;rw[ht] at hp;have hlt:k<l.length:=(aUd.mp hk).1;have hnd:=List.nodup_cons.mp h.nodup;have e:=aON hn k hp hm x none d hk U U
 refine⟨_,H.length,d,e,⟨?_,hc.Qu _ _ hnd.1,hnd.2,λj=> ?_,by omega,by simpa using h.len⟩,hlt,by simp,?_⟩
 ·have h':=hp.app [pkB x]
  refine h'.aB4 _ (by simp) _ _ λj q y d' hj=> ?_
  by_cases ej:k=j
  ·subst ej
   rw[aUj hlt] at hj;simp only[aUE,Prod.mk.injEq] at hj;obtain⟨⟨rfl,rfl⟩,_⟩:=hj;simp
  ·rw[aUe ej] at hj
   exact h'.hq j q y d' hj
 ·by_cases ej:k=j
  ·subst ej
   rw[aUj hlt];simp[hnd.1]
  ·rw[aUe ej,<-h.full j,aUw]
   constructor
   ·exact .inr
   ·rintro (h1|h1)
    ·exact absurd h1.symm ej
    ·exact h1
 ·intro b hb h1 h2
  rw[aUe U,aUe U,aUg hb]
theorem Model.aOQ (hn:pr (.func 148)=none)(h:Model H p s l top free []){m:Nat}(hm:0<m)(x:Pkt):
  lvl prog pr m (.func 148) [.Q p 0,x.cE] H=some (.tuple #[.I 0,.bool false],H++[pkB x]):=by
 have ht:top= -1:=h.chain;have hp:=h.pool;rw[ht] at hp;exact aOM hn hp hm x
end
theorem aCi (n:Nat): ∀(r k:Nat),k+r=n->FreeL (gN n) (if k<n then(k:Int) else -1) (List.range' k r)
 |0,k,h=>by
  rw[if_neg U]
  rfl
 |r+1,k,h=>by
  rw[if_pos U,List.range'_succ]
  refine⟨rfl,_,Qr n k U,?_⟩
  exact aCi n r (k+1) U
theorem aOS {H:aF}(n:Nat)(h0:0<n)(hn:n<=200):Model (iI H (gN n)) (H.length+1) H.length (gN n) 0 n (List.range n):=by
 refine⟨aOI n,?_,List.nodup_range,λi=> ?_,by simp,by rw[Hv];exact hn⟩
 ·have:=aCi n n 0 U
  rw[<-List.range_eq_range'] at this;rw[if_pos h0] at this;exact this
 ·rw[aUR]
  constructor
  ·intro h
   exact⟨_,Qr n i h⟩
  ·rintro ⟨d,hd⟩
   have:=(aUd.mp hd).1;rw[Hv] at this;exact this
end Go.Proofs.YtciiopkbmjppfaaGreatDoor.Rg
namespace Go.Abs
open M
section
variable {κ : Type} [DecidableEq κ]
theorem aCn {α β:Type}(g:α->β): ∀(l:List α)(i:Nat),(l.map g).eraseIdx i=(l.eraseIdx i).map g
 |[],_=>rfl
 |a::l,0=>rfl
 |a::l,i+1=>by simp[aCn g l i]
structure KeyC (kt:KeyT)(enc:κ->Value):Prop where
 eq: ∀a b:κ,fT kt (enc a) (enc b)=some (decide (a=b))
def fX (enc:κ->Value)(e:κ×Value×Nat):Ent:=⟨enc e.1,e.2.1,e.2.2⟩
def upd (f:κ->Option Value)(k:κ)(v:Option Value):κ->Option Value:=λk'=>if k'=k then v else f k'
structure MapI (enc:κ->Value)(es:List (κ×Value×Nat))(clock:Nat)(f:κ->Option Value):Prop where
 keys:(es.map (·.1)).Nodup
 born:(es.map (·.2.2)).Nodup
 lt: ∀e∈es,e.2.2<clock
 no: ∀k,f k=none↔ ∀e∈es,e.1≠k
 yes: ∀(e:κ×Value×Nat),e∈es->f e.1=some e.2.1
def IsMap (enc:κ->Value)(H:aF)(mb:Nat)(f:κ->Option Value):Prop:= ∃es clock,H[mb]? =some (.map (es.map (fX enc)) clock)/\MapI enc es clock f
variable {kt : KeyT} {enc : κ → Value} {H : aF} {mb : Nat} {f : κ → Option Value}
theorem MapI.Ia {es:List (κ×Value×Nat)}{clock:Nat}(h:MapI enc es clock f){k:κ}{v:Value}(hf:f k=some v): ∃(i:Nat)(b:Nat),es[i]? =some (k,v,b):=by
 by_cases hx: ∀e∈es,e.1≠k
 ·rw[(h.no k).mpr hx] at hf
  cases hf
 ·simp only[Classical.not_forall] at hx
  obtain⟨e,he,hk⟩:=hx;have hk:e.1=k:=Classical.not_not.mp hk;have:=h.yes e he;rw[hk,hf] at this;cases this;obtain⟨i,hi⟩:=List.getElem?_of_mem he
  exact⟨i,e.2.2,by rw[hi,<-hk]⟩
theorem Ct (hk:KeyC kt enc)(k:κ): ∀(es:List (κ×Value×Nat))(j:Nat),(∀e∈es,e.1≠k)->jD kt (enc k) (es.map (fX enc)) j=some none
 |[],j,_=>rfl
 |e::es,j,h=>by
  have h1:fT kt (enc k) (fX enc e).key=some false:=by
   show fT kt (enc k) (enc e.1)=some false
   rw[hk.eq,aUY (λhh=>h e (by simp) hh.symm)]
  simp only[aUI,jD,h1];exact Ct hk k es (j+1) λe' he'=>h e' (by simp[he'])
theorem zZ (hk:KeyC kt enc): ∀(es:List (κ×Value×Nat))(i j:Nat)(e:κ×Value×Nat),(es.map (·.1)).Nodup->es[i]? =some e->jD kt (enc e.1) (es.map (fX enc)) j=some (some (j+i,fX enc e))
 |[],i,j,e,_,h=>by simp at h
 |x::es,i,j,e,hn,h=>by
  simp only[aUI,List.nodup_cons] at hn;cases i with
  |zero=>
   simp only[List.getElem?_cons_zero,aUE] at h;subst h;have h1:fT kt (enc x.1) (fX enc x).key=some true:=by
    show fT kt (enc x.1) (enc x.1)=some true
    rw[hk.eq,aUX rfl]
   simp only[aUI,jD,h1,Nat.add_zero]
  |succ i=>
   simp only[List.getElem?_cons_succ] at h;have hne:e.1≠x.1:=λhh=>hn.1 (by rw[<-hh];exact List.mem_map_of_mem (aUn h))
   have h1:fT kt (enc e.1) (fX enc x).key=some false:=by
    show fT kt (enc e.1) (enc x.1)=some false
    rw[hk.eq,aUY hne]
   simp only[aUI,jD,h1];rw[zZ hk es i (j+1) e hn.2 h]
   congr 3
   omega
theorem vI (hk:KeyC kt enc)(k:κ):fT kt (enc k) (enc k)=some true:=by rw[hk.eq,aUX rfl]
theorem IsMap.xL {H':aF}(h:IsMap enc H mb f)(hk:H'[mb]? =H[mb]?):IsMap enc H' mb f:=by
 obtain⟨es,c,h1,h2⟩:=h
 exact⟨es,c,by rw[hk,h1],h2⟩
theorem IsMap.xK (hk:KeyC kt enc)(h:IsMap enc H mb f)(k:κ)(z:Value):jE kt z false (.map (some mb)) (enc k) H=some ((f k).getD z,H):=by
 obtain⟨es,c,h1,h2⟩:=h;unfold jE;rw[if_pos (vI hk k)];simp only;rw[h1];simp only;cases hf:f k with
 |none=>
  rw[Ct hk k es 0 ((h2.no k).mp hf)];rfl
 |some v=>
  obtain⟨i,b,hi⟩:=h2.Ia hf;rw[zZ hk es i 0 _ h2.keys hi];rfl
theorem MapI.Qv {es:List (κ×Value×Nat)}{clock:Nat}(h:MapI enc es clock f){k:κ}{v0 v:Value}{i b:Nat}(hi:es[i]? =some (k,v0,b)):MapI enc (es.set i (k,v,b)) clock (upd f k (some v)):=by
 have hlt:=(aUd.mp hi).1;have hmap1:(es.set i (k,v,b)).map (·.1)=es.map (·.1):=by
  rw[List.map_set];apply aUO;intro j;by_cases hj:i=j
  ·subst hj
   rw[aUj (by simpa using hlt),aUq,hi]
   rfl
  ·rw[aUe hj]
 have hmap2:(es.set i (k,v,b)).map (·.2.2)=es.map (·.2.2):=by
  rw[List.map_set];apply aUO;intro j;by_cases hj:i=j
  ·subst hj
   rw[aUj (by simpa using hlt),aUq,hi]
   rfl
  ·rw[aUe hj]
 refine⟨by rw[hmap1];exact h.keys,by rw[hmap2];exact h.born,λe he=> ?_,λk'=> ?_,λe he=> ?_⟩
 ·rcases List.mem_or_eq_of_mem_set he with he|rfl
  ·exact h.lt e he
  ·have:=h.lt _ (aUn hi)
   exact this
 ·unfold upd
  by_cases hk:k'=k
  ·rw[if_pos hk]
   constructor
   ·intro hh;cases hh
   ·intro hh
    exact absurd hk.symm (hh (k,v,b) (aUn (aUj hlt)))
  ·rw[if_neg hk,h.no k']
   have key: ∀e,e∈es.map (·.1)↔e∈(es.set i (k,v,b)).map (·.1):=λe=>by rw[hmap1]
   constructor
   ·intro hh e he hek
    have:=(key e.1).mpr (List.mem_map_of_mem he);obtain⟨e',he',hee⟩:=aUQ.mp this;exact hh e' he' (by rw[hee,hek])
   ·intro hh e he hek
    have:=(key e.1).mp (List.mem_map_of_mem he);obtain⟨e',he',hee⟩:=aUQ.mp this;exact hh e' he' (by rw[hee,hek])
 ·unfold upd
  obtain⟨j,hj⟩:=List.getElem?_of_mem he;by_cases hij:i=j
  ·subst hij
   rw[aUj hlt] at hj;cases hj;rw[if_pos rfl]
  ·rw[aUe hij] at hj
   have hne:e.1≠k:=λhh=>by
    have h1:(es.map (·.1))[i]? =some k:=by rw[aUq,hi];rfl
    have h2:(es.map (·.1))[j]? =some k:=by rw[aUq,hj,<-hh];rfl
    have l1:=(aUd.mp h1);have l2:=(aUd.mp h2);exact hij ((List.getElem_inj h.keys).mp (l1.2.trans l2.2.symm))
   rw[if_neg hne];exact h.yes e (aUn hj)
theorem MapI.aCl {es:List (κ×Value×Nat)}{clock:Nat}(h:MapI enc es clock f){k:κ}(v:Value)(hf:f k=none):MapI enc (es++[(k,v,clock)]) (clock+1) (upd f k (some v)):=by
 have hno:=(h.no k).mp hf;refine⟨?_,?_,λe he=> ?_,λk'=> ?_,λe he=> ?_⟩
 ·rw[List.map_append,List.nodup_append]
  refine⟨h.keys,by simp,λa ha b hb hab=> ?_⟩
  obtain⟨e,he,rfl⟩:=aUQ.mp ha;simp at hb;exact hno e he (hab.trans hb)
 ·rw[List.map_append,List.nodup_append]
  refine⟨h.born,by simp,λa ha b hb hab=> ?_⟩
  obtain⟨e,he,rfl⟩:=aUQ.mp ha;have:=h.lt e he;simp at hb;omega
 ·rcases List.mem_append.mp he with he|he
  ·have:=h.lt e he
   omega
  ·rw[List.mem_singleton] at he
   subst he;simp
 ·unfold upd
  by_cases hk:k'=k
  ·rw[if_pos hk]
   constructor
   ·intro hh;cases hh
   ·intro hh
    exact absurd hk.symm (hh (k,v,clock) (by simp))
  ·rw[if_neg hk,h.no k']
   constructor
   ·intro hh e he hek
    rcases List.mem_append.mp he with he|he
    ·exact hh e he hek
    ·rw[List.mem_singleton] at he
     subst he;exact hk hek.symm
   ·intro hh e he
    exact hh e (by simp[he])
 ·unfold upd
  rcases List.mem_append.mp he with he|he
  ·rw[if_neg (hno e he)]
   exact h.yes e he
  ·rw[List.mem_singleton] at he
   subst he;rw[if_pos rfl]
theorem MapI.aOW {es:List (κ×Value×Nat)}{clock:Nat}(h:MapI enc es clock f){k:κ}{v0:Value}{i b:Nat}(hi:es[i]? =some (k,v0,b)):MapI enc (es.eraseIdx i) clock (upd f k none):=by
 have hsub:=List.eraseIdx_sublist es i;have hlt:=(aUd.mp hi).1;have hin: ∀e,e∈es.eraseIdx i↔e∈es/\e.1≠k:=by
  intro e;constructor
  ·intro he
   refine⟨hsub.subset he,λhek=> ?_⟩
   obtain⟨j,hj⟩:=List.getElem?_of_mem he;rw[List.getElem?_eraseIdx] at hj;obtain⟨j',hj',hne⟩: ∃j':Nat,es[j']? =some e/\j'≠i:=by
    by_cases hji:j<i
    ·rw[if_pos hji] at hj
     exact⟨j,hj,by omega⟩
    ·rw[if_neg hji] at hj
     exact⟨j+1,hj,by omega⟩
   have h1:(es.map (·.1))[i]? =some k:=by rw[aUq,hi];rfl
   have h2:(es.map (·.1))[j']? =some k:=by rw[aUq,hj',<-hek];rfl
   have l1:=(aUd.mp h1);have l2:=(aUd.mp h2);exact hne ((List.getElem_inj h.keys).mp (l2.2.trans l1.2.symm))
  ·rintro ⟨he,hek⟩
   obtain⟨j,hj⟩:=List.getElem?_of_mem he;have hne:j≠i:=by
    rintro rfl
    rw[hi] at hj;cases hj;exact hek rfl
   by_cases hji:j<i
   ·exact aUn (i:=j) (by rw[List.getElem?_eraseIdx,if_pos hji,hj])
   ·refine aUn (i:=j-1) ?_
    rw[List.getElem?_eraseIdx,if_neg U,show j-1+1=j by omega,hj]
 refine⟨(hsub.map _).nodup h.keys,(hsub.map _).nodup h.born,λe he=>h.lt e ((hin e).mp he).1,λk'=> ?_,λe he=> ?_⟩
 ·unfold upd
  by_cases hk:k'=k
  ·rw[if_pos hk]
   exact⟨λ_ e he hek=>((hin e).mp he).2 (hek.trans hk),λ_=>rfl⟩
  ·rw[if_neg hk,h.no k']
   constructor
   ·intro hh e he
    exact hh e ((hin e).mp he).1
   ·intro hh e he hek
    exact hh e ((hin e).mpr ⟨he,by rw[hek];exact hk⟩) hek
 ·unfold upd
  rw[if_neg ((hin e).mp he).2];exact h.yes e ((hin e).mp he).1
theorem Cu (es:List (κ×Value×Nat))(i:Nat)(e:κ×Value×Nat):(es.map (fX enc)).set i (fX enc e)=(es.set i e).map (fX enc):=by rw[List.map_set]
theorem IsMap.aOV (hk:KeyC kt enc)(h:IsMap enc H mb f)(k:κ)(v:Value)(hf:f k≠none): ∃X,kS kt (.map (some mb)) (enc k) v H=some (undef,H.set mb X)/\IsMap enc (H.set mb X) mb (upd f k (some v))/\ ∃es c,X= .map es c:=by
 obtain⟨es,c,h1,h2⟩:=h;obtain⟨v0,hv0⟩:=Option.ne_none_iff_exists'.mp hf;obtain⟨i,b,hi⟩:=h2.Ia hv0;have hlt:=(aUd.mp h1).1;refine⟨.map ((es.set i (k,v,b)).map (fX enc)) c,?_,⟨_,c,by rw[aUj hlt],h2.Qv hi⟩,_,_,rfl⟩
 unfold kS;rw[if_pos (vI hk k)];simp only;rw[h1];simp only;have:=zZ hk es i 0 _ h2.keys hi;simp only at this;rw[this];simp only[aUy];rw[<-Cu];rfl
theorem IsMap.aOT (hk:KeyC kt enc)(h:IsMap enc H mb f)(k:κ)(hf:f k≠none): ∃X,rO kt (.map (some mb)) (enc k) H=some (.tuple #[],H.set mb X)/\IsMap enc (H.set mb X) mb (upd f k none)/\ ∃es c,X= .map es c:=by
 obtain⟨es,c,h1,h2⟩:=h;obtain⟨v0,hv0⟩:=Option.ne_none_iff_exists'.mp hf;obtain⟨i,b,hi⟩:=h2.Ia hv0;have hlt:=(aUd.mp h1).1;refine⟨.map ((es.eraseIdx i).map (fX enc)) c,?_,⟨_,c,by rw[aUj hlt],h2.aOW hi⟩,_,_,rfl⟩
 unfold rO;rw[if_pos (vI hk k)];simp only;rw[h1];simp only;have:=zZ hk es i 0 _ h2.keys hi;simp only at this;rw[this];simp only[aUy];rw[aCn]
theorem aCm (es:List (κ×Value×Nat))(hn:(es.map (·.2.2)).Nodup){i:Nat}{e:κ×Value×Nat}(hi:es[i]? =some e):(es.map (fX enc)).findIdx? (λx=>(x.born:Int)==(e.2.2:Int))=some i:=by
 have hlt:=(aUd.mp hi).1;have he:=(aUd.mp hi).2;rw[List.findIdx?_eq_some_iff_getElem];refine⟨by simpa using hlt,?_,λj hji=> ?_⟩
 ·simp[fX,he]
 ·have hne:es[j].2.2≠e.2.2:=λhh=>by
   have h1:(es.map (·.2.2))[i]'(by simpa using hlt)=e.2.2:=by simp[he]
   have h2:(es.map (·.2.2))[j]'(by simp;omega)=e.2.2:=by simp[hh]
   have:=(List.getElem_inj hn).mp (h1.trans h2.symm);omega
  simp[fX];omega
theorem IsMap.aOU (hk:KeyC kt enc)(h:IsMap enc H mb f)(k:κ)(z:Value): ∃(b:Nat)(X:Blk),qO kt z (.map (some mb)) (enc k) H=some (.tuple #[(f k).getD z,.int .i64 b],H.set mb X)/\(∃es c,X= .map es c)/\
  ∀(H2:aF)(v:Value),H2[mb]? =some X-> ∃X',qM (.map (some mb)) (.int .i64 b) v H2=some (undef,H2.set mb X')/\IsMap enc (H2.set mb X') mb (upd f k (some v))/\ ∃es c,X'= .map es c:=by
 obtain⟨es,c,h1,h2⟩:=h;cases hf:f k with
 |none=>
  refine⟨c,.map ((es++[(k,z,c)]).map (fX enc)) (c+1),?_,⟨_,_,rfl⟩,λH2 v hX=> ?_⟩
  ·unfold qO
   rw[if_pos (vI hk k)];simp only;rw[h1];simp only;rw[Ct hk k es 0 ((h2.no k).mp hf)];simp[fX]
  ·have hp:=h2.aCl z hf
   have hi:(es++[(k,z,c)])[es.length]? =some (k,z,c):=by simp
   have hlt:=(aUd.mp hX).1;have hs:=hp.Qv (v:=v) hi;have hup:upd (upd f k (some z)) k (some v)=upd f k (some v):=by
    funext k'
    unfold upd
    split<;>rfl
   rw[hup] at hs;refine⟨.map (((es++[(k,z,c)]).set es.length (k,v,c)).map (fX enc)) (c+1),?_,⟨_,_,by rw[aUj hlt],hs⟩,_,_,rfl⟩
   unfold qM;simp only;rw[hX];simp only;have:=aCm (enc:=enc) (es++[(k,z,c)]) hp.born hi;simp only at this;rw[this];simp only;rw[aUq,hi];simp only[Option.map_some];rw[<-Cu];rfl
 |some v0=>
  obtain⟨i,b,hi⟩:=h2.Ia hf;have hset:es.set i (k,v0,b)=es:=by
   apply aUO;intro j;by_cases hj:i=j
   ·subst hj
    rw[aUj (aUd.mp hi).1,hi]
   ·rw[aUe hj]
  refine⟨b,.map (es.map (fX enc)) c,?_,⟨_,_,rfl⟩,λH2 v hX=> ?_⟩
  ·unfold qO
   rw[if_pos (vI hk k)];simp only;rw[h1];simp only;have:=zZ hk es i 0 _ h2.keys hi;simp only at this;rw[this];simp only[aUy];have e1:(⟨enc k,(fX enc (k,v0,b)).val,(fX enc (k,v0,b)).born⟩:Ent)=fX enc (k,v0,b):=rfl;rw[e1,Cu,hset];rfl
  ·have hlt:=(aUd.mp hX).1
   refine⟨.map ((es.set i (k,v,b)).map (fX enc)) c,?_,⟨_,c,by rw[aUj hlt],h2.Qv hi⟩,_,_,rfl⟩
   unfold qM;simp only;rw[hX];simp only;have:=aCm (enc:=enc) es h2.born hi;simp only at this;rw[this];simp only;rw[aUq,hi];simp only[Option.map_some];rw[<-Cu];rfl
theorem IsMap.aCk (H:aF):IsMap enc (H++[.map [] 0]) H.length (λ_=>none):=
 ⟨[],0,by simp,⟨by simp,by simp,by simp,λk=>by simp,λe he=>by simp at he⟩⟩
end
end Go.Abs
namespace Go.Proofs.YtciiopkbmjppfaaGreatDoor.Rg
open Go.Proofs.Tryz
open Go.Abs Go.Abs.M
abbrev gP:=Int×Int×Int
def kM (w:gP):Value:= .agg #[.I w.1,.I w.2.1,.I w.2.2]
abbrev kW:KeyT:= .str [true,true,true]
theorem vJ:KeyC kW kM:=⟨λa b=>by
 obtain⟨a1,a2,a3⟩:=a;obtain⟨b1,b2,b3⟩:=b;have h:((a1,a2,a3)=(b1,b2,b3))=(a1=b1/\a2=b2/\a3=b3):=by simp
 simp[fT,kM,eqT];by_cases h1:a1=b1<;>by_cases h2:a2=b2<;>by_cases h3:a3=b3<;>simp[h1,h2,h3]⟩
theorem bW (a b c:Int):bld prog 189 [(0,.I a),(1,.I b),(2,.I c)]=some (kM (a,b,c)):=rfl
theorem szI:prog.cellsOf 3=1:=by kernel_rfl
def AR (x:Blk):Prop:=match x with
 | .map _ _=>True
 | .dead=>True
 | .cells _ e k=>(e=234/\k= .fix)∨(e=237/\k= .row)∨(e=3/\k= .row)
def AS (x:Blk):Prop:=AR x∨match x with
 | .cells _ e k=>(e=31/\k= .fix)∨(e=187/\k= .fix)
 |_=>False
abbrev En:=gP×Nat×Pkt
def qOf (L:List En)(w:gP):List Nat:=(L.filter λe=>decide (e.1=w)).map (·.2.1)
def lS (L:List En)(w:gP):List Pkt:=(L.filter λe=>decide (e.1=w)).map (·.2.2)
def jV (k:Nat):Value:= .I k
theorem Qz (L:List En)(w:gP):(qOf L w).length=(lS L w).length:=by simp[qOf,lS]
structure RI (H:aF)(a:Nat)(L:List En)(n ports lanes:Nat)(p s mb:Nat)(l:List fL)(top free:Int)(fl:List Nat)(f:gP->Option Value):Prop where
 hd:H[a]? =some (.cells [.Q p 0,.map (some mb),.I ports,.I lanes] 187 .fix)
 pool:Model H p s l top free fl
 len:l.length=n
 cnt:L.length+fl.length=n
 nd:(L.map (·.2.1)).Nodup
 full: ∀e∈L,∃q d,l[e.2.1]? =some (some (q,e.2.2),d)
 mp:IsMap kM H mb f
 no: ∀w,f w=none->qOf L w=[]
 yes: ∀w v,f w=some v->RowO 3 H v ((qOf L w).map jV)/\qOf L w≠[]
 sep: ∀w w' v v' b,f w=some v->f w'=some v'->w≠w'->aT v b-> ¬aT v' b
 b1:1<=n/\n<=200
 b2:ports<=16/\lanes<=3
def IsRings (H:aF)(a:Nat)(L:List En)(n ports lanes:Nat):Prop:= ∃p s mb l top free fl f,RI H a L n ports lanes p s mb l top free fl f
section
variable {H H' : aF} {a n ports lanes p s mb : Nat} {L : List En} {l : List fL} {top free : Int} {fl : List Nat} {f : gP → Option Value}
theorem RI.Ib (h:RI H a L n ports lanes p s mb l top free fl f)(hk: ∀(b:Nat)(x:Blk),H[b]? =some x->AS x->H'[b]? =some x):RI H' a L n ports lanes p s mb l top free fl f:=by
 refine⟨hk _ _ h.hd (.inr (.inr ⟨rfl,rfl⟩)),⟨⟨hk _ _ h.pool.pool.hp (.inl (.inl ⟨rfl,rfl⟩)),hk _ _ h.pool.pool.hs (.inl (.inr (.inl ⟨rfl,rfl⟩))),λi q x d hi=>hk _ _ (h.pool.pool.hq i q x d hi) (.inr (.inl ⟨rfl,rfl⟩))⟩,h.pool.chain,h.pool.nodup,h.pool.full,h.pool.cnt,h.pool.len⟩,
  h.len,h.cnt,h.nd,h.full,?_,h.no,λw v hv=>⟨?_,(h.yes w v hv).2⟩,h.sep,h.b1,h.b2⟩
 ·obtain⟨es,c,h1,h2⟩:=h.mp
  exact⟨es,c,hk _ _ h1 (.inl trivial),h2⟩
 ·refine(h.yes w v hv).1.sH λb hb=> ?_
  obtain⟨xs,hx⟩:=(h.yes w v hv).1.blk hb;rw[hx];exact hk _ _ hx (.inl (.inr (.inr ⟨rfl,rfl⟩)))
theorem RI.app (h:RI H a L n ports lanes p s mb l top free fl f)(G:aF):RI (H++G) a L n ports lanes p s mb l top free fl f:=h.Ib λb x hx _=>(Ch.app (λ_=>False) H G).2 b x hx id
theorem IsRings.app (h:IsRings H a L n ports lanes)(G:aF):IsRings (H++G) a L n ports lanes:=by
 obtain⟨p,s,mb,l,top,free,fl,f,hi⟩:=h
 exact⟨p,s,mb,l,top,free,fl,f,hi.app G⟩
theorem RI.ld0 (h:RI H a L n ports lanes p s mb l top free fl f):ld1 (.Q a 0) H=some (.Q p 0,H):=by rw[fI,h.hd];rfl
theorem RI.ld1 (h:RI H a L n ports lanes p s mb l top free fl f):ld1 (.Q a 1) H=some (.map (some mb),H):=by rw[fI,h.hd];rfl
theorem RI.ld2 (h:RI H a L n ports lanes p s mb l top free fl f):Go.Abs.ld1 (.Q a 2) H=some (.I ports,H):=by rw[fI,h.hd];rfl
theorem RI.ld3 (h:RI H a L n ports lanes p s mb l top free fl f):Go.Abs.ld1 (.Q a 3) H=some (.I lanes,H):=by rw[fI,h.hd];rfl
end
theorem Qy (L:List En)(e:En)(w:gP):qOf (e::L) w=if e.1=w then e.2.1::qOf L w else qOf L w:=by
 unfold qOf;by_cases h:e.1=w<;>simp[h]
theorem aCo (L:List En)(e:En)(w:gP):lS (e::L) w=if e.1=w then e.2.2::lS L w else lS L w:=by
 unfold lS;by_cases h:e.1=w<;>simp[h]
theorem Qx (L:List En)(e:En)(w:gP):qOf (L++[e]) w=if e.1=w then qOf L w++[e.2.1] else qOf L w:=by
 unfold qOf;by_cases h:e.1=w<;>simp[List.filter_append,h]
def lC (L:List En)(w:gP):List En:=L.eraseP λe=>decide (e.1=w)
theorem Cv (w w':gP): ∀L:List En,qOf (lC L w) w'=if w=w' then(qOf L w').tail else qOf L w'
 |[]=>by simp[lC,qOf]
 |e::L=>by
  have ih:=Cv w w' L;unfold lC at ih⊢;by_cases h:e.1=w
  ·simp only[List.eraseP_cons,h,decide_true,cond_true,Qy]
   by_cases hw:w=w'
   ·simp[hw]
   ·simp[hw]
  ·simp only[List.eraseP_cons,h,decide_false,cond_false,Qy,ih]
   by_cases hw:w=w'
   ·subst hw
    simp[h]
   ·simp[hw]
theorem Qw {w:gP}: ∀{L:List En}{k:Nat}{ks:List Nat},qOf L w=k::ks-> ∃x xs,lS L w=x::xs/\(w,k,x)∈L/\L.length=(lC L w).length+1/\ ∀e,e∈lC L w->e∈L/\((L.map (·.2.1)).Nodup->e.2.1≠k)
 |[],k,ks,h=>by simp[qOf] at h
 |e::L,k,ks,h=>by
  obtain⟨we,ke,xe⟩:=e;rw[Qy] at h;by_cases hw:we=w
  ·subst hw
   simp only[if_pos] at h;cases h;refine⟨xe,lS L we,by rw[aCo];simp,by simp,by simp[lC],λe he=> ?_⟩
   have he':e∈L:=by simpa[lC] using he
   refine⟨by simp[he'],λhn=> ?_⟩
   simp only[aUI,List.nodup_cons] at hn;intro hh;exact hn.1 (by rw[<-hh];exact List.mem_map_of_mem he')
  ·simp only[hw,if_false] at h
   obtain⟨x,xs,h1,h2,h3,h4⟩:=Qw h;refine⟨x,xs,by rw[aCo];simp[hw,h1],by simp[h2],by simp[lC,hw] at h3 ⊢; omega,λe he=> ?_⟩
   have he':e=(we,ke,xe)∨e∈lC L w:=by
    simp only[lC,List.eraseP_cons,hw,decide_false,cond_false] at he;simpa[lC] using he
   rcases he' with rfl|he'
   ·refine⟨by simp,λhn=> ?_⟩
    simp only[aUI,List.nodup_cons] at hn;intro hh;exact hn.1 (by rw[show ke=k from hh];exact List.mem_map_of_mem h2)
   ·obtain⟨g1,g2⟩:=h4 e he'
    refine⟨by simp[g1],λhn=> ?_⟩
    simp only[aUI,List.nodup_cons] at hn;exact g2 hn.2
abbrev pk8:eK:=pkN
theorem bRg (p mb:Nat)(a b:Int):bld prog 187 [(0,.Q p 0),(1,.map (some mb)),(2,.I a),(3,.I b)]=some (.agg #[.Q p 0,.map (some mb),.I a,.I b]):=rfl
theorem aOY (H:aF):lV H=some (.map (some H.length),H++[.map [] 0]):=rfl
theorem aOX (H:aF)(k:Int):b9 3 1 1 [.I 0] [(0,.I k)] H=some (.slice (some ⟨H.length,0,none⟩) 1 1,H++[.cells [.I k] 3 .row]):=rfl
theorem Q1 (a b c:Int):gJ prog false [.I a,.I b,.I c]=some (.I (min (min a b) c)):=by
 simp[gJ,cL,eN,pur,Builtin.min_,Builtin.min2,pure,bind,Sem.bind]
 split<;>split<;>omega
theorem Q0 (a b:Int):gJ prog true [.I a,.I b]=some (.I (max a b)):=by
 simp[gJ,cL,eN,pur,Builtin.max_,Builtin.max2,pure,bind,Sem.bind]
 split<;>omega
def p8 (w:gP)(ports lanes:Nat):Bool:=decide (0<=min (min w.1 w.2.1) w.2.2)&&decide (max w.1 w.2.1<(ports:Int))&&decide (w.2.2<(lanes:Int))
theorem Model.aCp {H H':aF}{p s:Nat}{l:List fL}{top free:Int}{fl:List Nat}(h:Model H p s l top free fl)
  (hk: ∀(b:Nat)(cs:List Value)(e:TypeId)(k:Kind),H[b]? =some (.cells cs e k)->(e=234/\k= .fix)∨(e=237/\k= .row)∨(e=31/\k= .fix)->H'[b]? =some (.cells cs e k)):Model H' p s l top free fl:=
 ⟨⟨hk _ _ _ _ h.pool.hp (.inl ⟨rfl,rfl⟩),hk _ _ _ _ h.pool.hs (.inr (.inl ⟨rfl,rfl⟩)),λi q x d hi=>hk _ _ _ _ (h.pool.hq i q x d hi) (.inr (.inr ⟨rfl,rfl⟩))⟩,h.chain,h.nodup,h.full,h.cnt,h.len⟩
section
variable {H : aF} {a n ports lanes m : Nat} {L : List En}
theorem aUb (hm:300<m)(po la sl:Int)(h: ¬(1<=po/\po<=16/\1<=la/\la<=3/\1<=sl/\sl<=200)): ∃H',lvl prog pk8 m (.func 86) [.I po,.I la,.I sl] H=some (.pointer none,H')/\Ext H H':=by
 by_cases hs:sl<1∨200<sl
 ·have g:=aOL (H:=H) (pr:=pk8) (aQ rfl) sl hs (m:=m-1) U
  refine⟨H,aS (aQ rfl) U ?_,Fr.dS _ _⟩
  rw[Qo];simp -implicitDefEqProofs only[gsB,g,aOB,r_opt,r_ret,ob_some,r_gdtf,r_gdtf2,r_gdu,r_gdu2,pick_t,iteV_true,oneOf_one]
 ·obtain⟨k,rfl⟩: ∃k:Nat,sl=k:=⟨sl.toNat,by omega⟩
  have g:=aB9 (H:=H) (pr:=pk8) (aQ rfl) k U U (m:=m-1) U
  refine⟨iI H (gN k),aS (aQ rfl) U ?_,Fr.app _ _ _⟩
  rw[Qo];by_cases h1:po<1
  ·have e1:decide (po<1)=true:=aUX h1
   simp -implicitDefEqProofs only[gsB,g,e22,b_lss,e1,r_opt,r_ret,ob_some,r_gdff,r_gdff2,r_gdtf,r_gdtf2,r_gdu,r_gdu2,pick_t,pick_f,iteV_true,oneOf_one]
  ·have e1:decide (po<1)=false:=aUY h1
   by_cases h2:16<po
   ·have e2:decide (16<po)=true:=aUX h2
    simp -implicitDefEqProofs only[gsB,g,e22,b_lss,b_gtr,e1,e2,r_opt,r_ret,ob_some,r_gdff,r_gdff2,r_gdtf,r_gdtf2,r_gdu,r_gdu2,pick_t,pick_f,iteV_true,oneOf_one]
   ·have e2:decide (16<po)=false:=aUY h2
    by_cases h3:la<1
    ·have e3:decide (la<1)=true:=aUX h3
     simp -implicitDefEqProofs only[gsB,g,e22,b_lss,b_gtr,e1,e2,e3,r_opt,r_ret,ob_some,r_gdff,r_gdff2,r_gdtf,r_gdtf2,r_gdu,r_gdu2,pick_t,pick_f,iteV_true,oneOf_one]
    ·have e3:decide (la<1)=false:=aUY h3
     have e4:decide (3<la)=true:=aUX U
     simp -implicitDefEqProofs only[gsB,g,e22,b_lss,b_gtr,e1,e2,e3,e4,r_opt,r_ret,ob_some,r_gdff,r_gdff2,r_gdtf,r_gdtf2,r_gdu,r_gdu2,pick_t,pick_f,iteV_true,oneOf_one]
theorem aO0 (hm:300<m)(po la sl:Nat)(h:1<=po/\po<=16/\1<=la/\la<=3/\1<=sl/\sl<=200): ∃a H',lvl prog pk8 m (.func 86) [.I po,.I la,.I sl] H=some (.Q a 0,H')/\Ext H H'/\IsRings H' a [] sl po la/\H.length<=a:=by
 have g:=aB9 (H:=H) (pr:=pk8) (aQ rfl) sl U U (m:=m-1) U
 have hM:=((aOS (H:=H) sl U U).app [Blk.map [] 0]).app [.cells [.pointer (some ⟨H.length+1,0,none⟩),.map (some (iI H (gN sl)).length),.int .i64 po,.int .i64 la] 187 .fix]
 have e1:decide ((po:Int)<1)=false:=aUY U
 have e2:decide (16<(po:Int))=false:=aUY U
 have e3:decide ((la:Int)<1)=false:=aUY U
 have e4:decide (3<(la:Int))=false:=aUY U
 have hl:(iI H (gN sl)).length=H.length+2:=by simp[iI]
 refine⟨(iI H (gN sl)++[Blk.map [] 0]).length,iI H (gN sl)++[Blk.map [] 0]++[Blk.cells [.pointer (some ⟨H.length+1,0,none⟩),.map (some (iI H (gN sl)).length),.int .i64 po,.int .i64 la] 187 .fix],aS (aQ rfl) U ?_,?_,
  ⟨H.length+1,H.length,(iI H (gN sl)).length,gN sl,0,sl,List.range sl,λ_=>none,by simp,hM,Hv sl,by simp,by simp,by simp,?_,λw _=>rfl,by simp,by simp,by omega,by omega⟩,by simp[hl];omega⟩
 ·rw[Qo]
  simp -implicitDefEqProofs only[gsB,g,e22,b_lss,b_gtr,e1,e2,e3,e4,r_opt,r_ret,ob_some,r_gdff,r_gdff2,pick_f,iteV_false,aOY,bRg,x_newB,oneOf_one];rfl
 ·unfold iI
  rw[aUk,aUk];exact Fr.app _ _ _
 ·have h0:=IsMap.aCk (enc:=kM) (iI H (gN sl))
  refine h0.xL ?_;rw[aUg (by simp)]
theorem aCr (h:IsRings H a L n ports lanes)(hm:0<m)(w:gP):lvl prog pk8 m (.func 147) [.Q a 0,kM w] H=some (.bool (p8 w ports lanes),H++[.cells [.I w.1,.I w.2.1,.I w.2.2] 189 .fix]):=by
 obtain⟨p,s,mb,l,top,free,fl,f,hi⟩:=h;have hi':=hi.app [.cells [.I w.1,.I w.2.1,.I w.2.2] 189 .fix];have l2:=hi'.ld2;have l3:=hi'.ld3;have x0:ld1 (.Q H.length 0) (H++[.cells [.I w.1,.I w.2.1,.I w.2.2] 189 .fix])=some (.I w.1,H++[.cells [.I w.1,.I w.2.1,.I w.2.2] 189 .fix]):=by rw[fI,uP];rfl
 have x1:ld1 (.Q H.length 1) (H++[.cells [.I w.1,.I w.2.1,.I w.2.2] 189 .fix])=some (.I w.2.1,H++[.cells [.I w.1,.I w.2.1,.I w.2.2] 189 .fix]):=by rw[fI,uP];rfl
 have x2:ld1 (.Q H.length 2) (H++[.cells [.I w.1,.I w.2.1,.I w.2.2] 189 .fix])=some (.I w.2.2,H++[.cells [.I w.1,.I w.2.1,.I w.2.2] 189 .fix]):=by rw[fI,uP];rfl
 have hc:(Value.cells (kM w)).toList=[.I w.1,.I w.2.1,.I w.2.2]:=rfl;refine aS (aQ rfl) U ?_
 rw[aOw];unfold p8;rw[hc];by_cases h1:0<=min (min w.1 w.2.1) w.2.2
 ·have e1:decide (0<=min (min w.1 w.2.1) w.2.2)=true:=aUX h1
  by_cases h2:max w.1 w.2.1<(ports:Int)
  ·have e2:decide (max w.1 w.2.1<(ports:Int))=true:=aUX h2
   simp -implicitDefEqProofs only[gsB,x_newB,r_fAddr,r_nil,aUy,Nat.add_zero,x0,x1,x2,l2,l3,Q1,Q0,b_geq,b_lss,e1,e2,r_opt,r_ret,ob_some,ifB_true,r_gdt,r_gdt2,pick_t,oneOf_one,aUA]
  ·have e2:decide (max w.1 w.2.1<(ports:Int))=false:=aUY h2
   simp -implicitDefEqProofs only[gsB,x_newB,r_fAddr,r_nil,aUy,Nat.add_zero,x0,x1,x2,l2,l3,Q1,Q0,b_geq,b_lss,e1,e2,r_opt,r_ret,ob_some,ifB_true,r_gdt,r_gdt2,r_gdft,r_gdft2,r_gdu,r_gdu2,pick_t,pick_f,oneOf_one,aUA,Bool.false_and]
 ·have e1:decide (0<=min (min w.1 w.2.1) w.2.2)=false:=aUY h1
  simp -implicitDefEqProofs only[gsB,x_newB,r_fAddr,r_nil,aUy,Nat.add_zero,x0,x1,x2,l2,l3,Q1,Q0,b_geq,b_lss,e1,r_opt,r_ret,ob_some,ifB_true,r_gdft,r_gdft2,r_gdu,r_gdu2,pick_f,oneOf_one,Bool.false_and]
theorem aOZ (h:IsRings H a L n ports lanes)(hm:0<m)(i o k:Int):lvl prog pk8 m (.func 70) [.Q a 0,.I i,.I o,.I k] H=some (.I (qOf L (i,o,k)).length,H):=by
 obtain⟨p,s,mb,l,top,free,fl,f,hi⟩:=h;have l1:=hi.ld1;have g:=hi.mp.xK vJ (i,o,k) (.N);refine aS (aQ rfl) U ?_
 rw[aOy];cases hf:f (i,o,k) with
 |none=>
  rw[hf] at g;simp only[Option.getD_none] at g;rw[hi.no _ hf];simp -implicitDefEqProofs only[gsB,r_nil,r_fAddr,aUy,l1,bW,g,Kx,r_opt,ob_some,oneOf_one];rfl
 |some v=>
  rw[hf] at g;simp only[aUG] at g;have hl:=(hi.yes _ v hf).1.Lo;rw[aUr] at hl;simp -implicitDefEqProofs only[gsB,r_nil,r_fAddr,aUy,l1,bW,g,hl,r_opt,ob_some,oneOf_one]
theorem Q2 (H:aF)(x:Pkt):stN 4 (.Q H.length 0) x.cE (H++[pkB pk0])=some (undef,H++[pkB x]):=by
 rw[Hy,uP,aCd,Qs]
theorem vK {H:aF}{b:Nat}{x:Pkt}(h:H[b]? =some (pkB x)):ldN 4 (.Q b 0) H=some (x.cE,H):=by
 rw[qS,h,aOG]
theorem Q3 {H:aF}{b:Nat}{y x:Pkt}(h:H[b]? =some (pkB y)):stN 4 (.Q b 0) x.cE H=some (undef,H.set b (pkB x)):=by
 rw[Hy,h,aCd]
def tR (ps:List Pkt):Value:= .tuple #[(ps.headD pk0).cE,.bool (!ps.isEmpty)]
theorem aCq (h:IsRings H a L n ports lanes)(hm:10<m)(i o k:Int): ∃H',lvl prog pk8 m (.func 155) [.Q a 0,.I i,.I o,.I k] H=some (tR (lS L (i,o,k)),H')/\Ext H H':=by
 obtain⟨p,s,mb,l,top,free,fl,f,hi⟩:=h;have hi1:=hi.app [pkB pk0];have l1:=hi1.ld1;have l0:=hi1.ld0;have g:=hi1.mp.xK vJ (i,o,k) (.N);cases hf:f (i,o,k) with
 |none=>
  rw[hf] at g;simp only[Option.getD_none] at g;have hq:=hi.no _ hf;have hp:lS L (i,o,k)=[]:=aUv.mp (by rw[<-Qz,hq];rfl)
  rw[hp];refine⟨H++[pkB pk0],aS (aQ rfl) U ?_,Fr.app _ _ _⟩
  rw[aB1];have e1:((0:Int)==0)=true:=rfl;have hl:ldN 4 (.Q H.length 0) (H++[pkB pk0])=some (pk0.cE,H++[pkB pk0]):=vK (by simp)
  simp -implicitDefEqProofs only[gsB,xI,x_newB,r_nil,r_fAddr,aUy,l1,bW,g,Kx,b_eql,e1,aCa,Q2,hl,r_opt,ob_some,iteV_true,oneOf_two];rfl
 |some v=>
  rw[hf] at g;simp only[aUG] at g;obtain⟨hr,hne⟩:=hi1.yes _ v hf;obtain⟨k0,ks,hq⟩: ∃k0 ks,qOf L (i,o,k)=k0::ks:=by
   cases hx:qOf L (i,o,k) with
   |nil=>exact absurd hx hne
   |cons a b=>exact⟨a,b,rfl⟩
  obtain⟨x,xs,hp,hin,hlen,hrest⟩:=Qw hq;rw[hq] at hr;rw[hp];have hl:=hr.Lo;obtain⟨bb,oo,g1,g2,g3⟩:=hr.Xy (i:=0) (x:=jV k0) rfl .i64;obtain⟨q,d,hslot⟩:=hi.full _ hin;have hg:=aOF (pr:=pk8) (aQ rfl) (aQ rfl) hi1.pool.pool (m:=m-1) U k0 q x d hslot
  have e1:((((k0::ks).map jV).length:Int)==0)=false:=by simp;omega
  have hst:stN 4 (.Q H.length 0) x.cE (H++[pkB pk0]++[pkB x])=some (undef,H++[pkB x]++[pkB x]):=by
   rw[Q3 (y:=pk0) (by rw[aUg (by simp)];simp)]
   simp
  have hld:ldN 4 (.Q H.length 0) (H++[pkB x]++[pkB x])=some (x.cE,H++[pkB x]++[pkB x]):=vK (by rw[aUg (by simp)];simp)
  refine⟨H++[pkB x]++[pkB x],aS (aQ rfl) U ?_,by rw[aUk];exact Fr.app _ _ _⟩
  rw[aB1];have g1':cN 1 v (.I 0)=some (.Q bb oo):=g1;have hk0:jV k0= .I k0:=rfl;simp -implicitDefEqProofs only[gsB,xI,x_newB,r_nil,r_fAddr,aUy,Nat.add_zero,l0,l1,bW,g,hl,b_eql,e1,g1',g3 _ rfl,hk0,hg,ext_0,ext_1,hst,hld,r_opt,ob_some,ifB_true,iteV_false,oneOf_two];rfl
end
theorem Q4 (w:gP)(H:aF):stN 3 (.Q H.length 0) (kM w) (H++[.cells [.I 0,.I 0,.I 0] 189 .fix])=some (undef,H++[.cells [.I w.1,.I w.2.1,.I w.2.2] 189 .fix]):=by
 have hc:(Value.cells (kM w)).toList=[.I w.1,.I w.2.1,.I w.2.2]:=rfl;rw[fV 3 _ _ _ rfl,uP,hc,iW _ _ _ _ _ _ aC (by simp) rfl]
 simp[cU]
theorem Aa {H:aF}{b:Nat}{w:gP}(h:H[b]? =some (.cells [.I w.1,.I w.2.1,.I w.2.2] 189 .fix)):ldN 3 (.Q b 0) H=some (kM w,H):=by
 rw[qS,h,rW _ _ _ _ _ (by simp)]
 rfl
section
variable {H : aF} {a n ports lanes m : Nat} {L : List En}
theorem RI.aCs {H1:aF}{p s mb:Nat}{l:List fL}{top free:Int}{fl:List Nat}{f:gP->Option Value}(hi:RI H a L n ports lanes p s mb l top free fl f)(hs: ∀b,b<H.length->b≠p->b≠s->H1[b]? =H[b]?):
  (∀(b:Nat)(x:Blk),H[b]? =some x->(∀cs,x≠ .cells cs 234 .fix)->(∀cs,x≠ .cells cs 237 .row)->H1[b]? =some x):=by
 intro b x hx h1 h2;have hlt:=(aUd.mp hx).1;have hp:b≠p:=λhh=>by
  subst hh;rw[hi.pool.pool.hp] at hx;cases hx;exact h1 _ rfl
 have hss:b≠s:=λhh=>by
  subst hh;rw[hi.pool.pool.hs] at hx;cases hx;exact h2 _ rfl
 rw[hs b hlt hp hss,hx]
theorem aO1 (h:IsRings H a L n ports lanes)(hm:100<m)(w:gP)(x:Pkt)(hno:p8 w ports lanes=false∨n<=L.length):
  ∃H',lvl prog pk8 m (.func 124) [.Q a 0,.I w.1,.I w.2.1,.I w.2.2,x.cE] H=some (.bool false,H')/\Ext H H':=by
 obtain⟨hw,hH⟩: ∃WB:Blk,WB= .cells [.int .i64 w.1,.int .i64 w.2.1,.int .i64 w.2.2] 189 .fix:=⟨_,rfl⟩;have h2:=(h.app [pkB x]).app [hw];have hr:=aCr h2 (m:=m-1) U w
 have hx:Blk.cells (Value.cells x.cE).toList 31 .fix=pkB x:=rfl;have hb:=bW w.1 w.2.1 w.2.2;have hst:=Q4 w (H++[pkB x]);rw[<-hH] at hst hr;have hld:ldN 3 (.pointer (some ⟨(H++[pkB x]).length,0,none⟩)) (H++[pkB x]++[hw])=some (kM w,H++[pkB x]++[hw]):=Aa (by rw[uP,hH])
 cases hv:p8 w ports lanes with
 |false=>
  rw[hv] at hr;refine⟨H++[pkB x]++[hw]++[hw],aS (aQ rfl) U ?_,by rw[aUk,aUk];exact Fr.app _ _ _⟩
  rw[Ql];simp -implicitDefEqProofs only[gsB,x_newB,hx,hb,hst,hld,hr,u_not,Bool.not_false,r_opt,ob_some,iteV_true,oneOf_one]
 |true=>
  have hcnt:n<=L.length:=by
   rcases hno with hno|hno
   ·rw[hv] at hno;cases hno
   ·exact hno
  rw[hv] at hr;obtain⟨p,s,mb,l,top,free,fl,f,hi⟩:=h2.app [hw];have hfl:fl=[]:=by
   have:=hi.cnt;exact aUv.mp U
  subst hfl;have hp:=hi.pool.aOQ (pr:=pk8) (aQ rfl) (m:=m-1) U x
  have l0:=hi.ld0;have hldx:ldN 4 (.Q H.length 0) (H++[pkB x]++[hw]++[hw])=some (x.cE,H++[pkB x]++[hw]++[hw]):=vK (by rw[aUk,aUk,aUx (aUi _)];simp)
  refine⟨H++[pkB x]++[hw]++[hw]++[pkB x],aS (aQ rfl) U ?_,by rw[aUk,aUk,aUk];exact Fr.app _ _ _⟩
  rw[Ql];simp -implicitDefEqProofs only[gsB,x_newB,hx,hb,hst,hld,hr,u_not,Bool.not_true,r_opt,ob_some,ifB_true,iteV_false,r_nil,r_fAddr,aUy,l0,hldx,hp,ext_0,ext_1,oneOf_one]
theorem aO2 (h:IsRings H a L n ports lanes)(hm:100<m)(w:gP)(x:Pkt)(hv:p8 w ports lanes=true)(hn:L.length<n):
  ∃H' k,lvl prog pk8 m (.func 124) [.Q a 0,.I w.1,.I w.2.1,.I w.2.2,x.cE] H=some (.bool true,H')/\Ch AR H H'/\IsRings H' a (L++[(w,k,x)]) n ports lanes:=by
 obtain⟨hw,hH⟩: ∃WB:Blk,WB= .cells [.int .i64 w.1,.int .i64 w.2.1,.int .i64 w.2.2] 189 .fix:=⟨_,rfl⟩;have h2:=(h.app [pkB x]).app [hw];have hr:=aCr h2 (m:=m-1) U w
 have hx:Blk.cells (Value.cells x.cE).toList 31 .fix=pkB x:=rfl;have hb:=bW w.1 w.2.1 w.2.2;have hst:=Q4 w (H++[pkB x]);rw[<-hH] at hst hr;have hld:ldN 3 (.pointer (some ⟨(H++[pkB x]).length,0,none⟩)) (H++[pkB x]++[hw])=some (kM w,H++[pkB x]++[hw]):=Aa (by rw[uP,hH])
 rw[hv] at hr;obtain⟨H0,hH0⟩:=aD (H++[pkB x]++[hw]++[hw]);have hc0:Ch AR H H0:=by rw[hH0,aUk,aUk];exact Ch.app _ _ _
 have h3:=h2.app [hw];rw[<-hH0] at h3 hr;obtain⟨p,s,mb,l,top,free,fl,f,hi⟩:=h3;have hWat:H0[(H++[pkB x]).length]? =some hw:=by rw[hH0,aUg (by simp),aUx (aUi _)];simp
 obtain⟨k,ks,rfl⟩: ∃k ks,fl=k::ks:=by
  cases fl with
  |nil=>have:=hi.cnt;simp at this;omega
  |cons k ks=>exact⟨k,ks,rfl⟩
 obtain⟨H1,q,d,hp,hM1,hkl,hlen1,hsame⟩:=hi.pool.aOP (pr:=pk8) (aQ rfl) (m:=m-1) U x
 have keep1:=hi.aCs hsame;have l0:=hi.ld0;have hldx:ldN 4 (.Q H.length 0) H0=some (x.cE,H0):=vK (by rw[hH0,aUk,aUk,aUx (aUi _)];simp)
 have hd1:=keep1 _ _ hi.hd (λcs hh=>by cases hh) (λcs hh=>by cases hh)
 have l1:ld1 (.Q a 1) H1=some (.map (some mb),H1):=by rw[fI,hd1];rfl
 have hW1:H1[(H++[pkB x]).length]? =some hw:=keep1 _ _ hWat (λcs hh=>by rw[hH] at hh;cases hh) (λcs hh=>by rw[hH] at hh;cases hh)
 have hld1:ldN 3 (.Q ((H++[pkB x]).length) 0) H1=some (kM w,H1):=Aa (by rw[hW1,hH])
 have hm1:IsMap kM H1 mb f:=by
  obtain⟨es,c,e1,e2⟩:=hi.mp
  exact⟨es,c,keep1 _ _ e1 (λcs hh=>by cases hh) (λcs hh=>by cases hh),e2⟩
 have hq1: ∀w' v,f w'=some v->RowO 3 H1 v ((qOf L w').map jV):=λw' v hf=>by
  have:=(hi.yes w' v hf).1;refine this.sH λb hb=> ?_
  obtain⟨xs,hxs⟩:=this.blk hb;rw[hxs,keep1 _ _ hxs (λcs hh=>by cases hh) (λcs hh=>by cases hh)]
 have hc1:Ch AR H0 H1:=⟨hlen1,λb y hy hn'=>keep1 b y hy (λcs hh=>hn' (by rw[hh];exact .inl ⟨rfl,rfl⟩)) (λcs hh=>hn' (by rw[hh];exact .inr (.inl ⟨rfl,rfl⟩)))⟩
 obtain⟨H2,hH2⟩:=aD (H1++[Blk.cells [jV k] 3 .row]);have hbi:b9 3 1 1 [.int .i64 0] [(0,.int .i64 (k:Nat))] H1=some (.slice (some ⟨H1.length,0,none⟩) 1 1,H2):=by rw[hH2];exact aOX H1 k
 have hm2:IsMap kM H2 mb f:=hm1.xL (by
  obtain⟨es,c,e1,e2⟩:=hm1;rw[hH2,aUg (aUd.mp e1).1])
 obtain⟨born,X,hent,⟨xe,xc,hX⟩,hstore⟩:=hm2.aOU vJ w (.N);obtain⟨H3,hH3⟩:=aD (H2.set mb X);rw[<-hH3] at hent;have hmblk: ∃es c,H2[mb]? =some (.map es c):=by
  obtain⟨es,c,e1,e2⟩:=hm2
  exact⟨_,_,e1⟩
 have hmlt:mb<H2.length:=by
  obtain⟨es,c,e1⟩:=hmblk
  exact(aUd.mp e1).1
 have hlen2:H2.length=H1.length+1:=by rw[hH2];simp
 have hlen3:H3.length=H1.length+1:=by rw[hH3];simp[hlen2]
 have k13: ∀(b:Nat)(cs:List Value)(e:TypeId)(kk:Kind),H1[b]? =some (.cells cs e kk)->H3[b]? =some (.cells cs e kk):=by
  intro b cs e kk hb;have hlt:=(aUd.mp hb).1;have hb2:H2[b]? =some (.cells cs e kk):=by rw[hH2,aUg hlt,hb]
  have hne:b≠mb:=λhh=>by
   subst hh;obtain⟨es,c,e1⟩:=hmblk;rw[hb2] at e1;cases e1
  rw[hH3,j9 hne,hb2]
 have hX3:H3[mb]? =some X:=by rw[hH3,aUj hmlt]
 have hsrcb:H3[H1.length]? =some (.cells [jV k] 3 .row):=by
  have hb2:H2[H1.length]? =some (.cells [jV k] 3 .row):=by rw[hH2];simp
  have hne:H1.length≠mb:=λhh=>by
   obtain⟨es,c,e1⟩:=hmblk;rw[<-hh,hb2] at e1;cases e1
  rw[hH3,j9 hne,hb2]
 have hsl:iN (.slice (some ⟨H1.length,0,none⟩) 1 1)=some 1:=rfl;have hsc:dY 1 (.slice (some ⟨H1.length,0,none⟩) 1 1) 1 H3=some [jV k]:=by simp[dY,hsrcb]
 have hall:cA [jV k]=true:=rfl;have hqlen:(qOf L w).length<=200:=by
  have h1:(qOf L w).length<=L.length:=by simp[qOf,List.length_filter_le]
  have:=hi.cnt;have:=hi.b1;omega
 obtain⟨v',H4,happ,hrow,hl4,hsame4,hhome,hnew⟩: ∃v' H4,app 3 1 8 ((f w).getD (.N)) (.slice (some ⟨H1.length,0,none⟩) 1 1) H3=some (v',H4)/\RowO 3 H4 v' ((qOf L w).map jV++[jV k])/\H3.length<=H4.length/\
   (∀b,b<H3.length-> ¬(∃v,f w=some v/\aT v b)->H4[b]? =H3[b]?)/\(∀b,aT v' b->(∃v,f w=some v/\aT v b)∨(H3.length<=b/\b<H4.length))/\True:=by
  cases hf:f w with
  |none=>
   obtain⟨g1,g2⟩:=aIk (e:=3) (H:=H3) (by':=8) hsl hsc aC
   refine⟨_,_,g1,by rw[hi.no w hf];exact g2,by simp,λb hb _=>aUg hb,?_,trivial⟩
   rintro b ⟨oo,nn,cc,hh⟩
   cases hh;exact .inr ⟨aUi _,by simp⟩
  |some v=>
   have hr3:RowO 3 H3 v ((qOf L w).map jV):=(hq1 w v hf).sH λb hb=>by
    obtain⟨xs,hxs⟩:=(hq1 w v hf).blk hb;rw[hxs,k13 _ _ _ _ hxs]
   obtain⟨v',H4,g1,g2,g3,g4,g5,g6⟩:=hr3.aIi (by':=8) hsl hsc (by simp[eH];omega) hall
   exact⟨v',H4,g1,g2,g3,λb hb hn=>g4 b hb λhh=>hn ⟨v,rfl,hh⟩,λb hb=>(g5 b hb).imp (λhh=>⟨v,rfl,hh⟩) id,trivial⟩
 have hnomb: ¬ ∃v,f w=some v/\aT v mb:=by
  rintro ⟨v,hf,hh⟩
  obtain⟨xs,hxs⟩:=(hq1 w v hf).blk hh;obtain⟨es,c,e1,e2⟩:=hm1;rw[hxs] at e1;cases e1
 have hX4:H4[mb]? =some X:=by rw[hsame4 mb U hnomb,hX3]
 obtain⟨X',hset,hm5,⟨ye,yc,hX'⟩⟩:=hstore H4 v' hX4;have k15: ∀(b:Nat)(cs:List Value)(e:TypeId)(kk:Kind),H1[b]? =some (.cells cs e kk)->(∀v,f w=some v-> ¬aT v b)->(H4.set mb X')[b]? =some (.cells cs e kk):=by
  intro b cs e kk hb hh;have hlt:=(aUd.mp hb).1;have h3:=k13 b cs e kk hb;have hne:b≠mb:=λhx=>by
   subst hx;rw[hX3,hX] at h3;cases h3
  rw[j9 hne,hsame4 b U (λ⟨v,hf,hv⟩=>hh v hf hv),h3]
 have k15': ∀(b:Nat)(cs:List Value)(e:TypeId)(kk:Kind),H1[b]? =some (.cells cs e kk)-> ¬(e=3/\kk= .row)->(H4.set mb X')[b]? =some (.cells cs e kk):=λb cs e kk hb hne=>k15 b cs e kk hb λv hf hh=>by
  obtain⟨xs,hxs⟩:=(hq1 w v hf).blk hh;rw[hb] at hxs;cases hxs;exact hne ⟨rfl,rfl⟩
 refine⟨H4.set mb X',k,aS (aQ rfl) U ?_,?_,⟨p,s,mb,l.set k (some (q,x),d),d,free-1,ks,upd f w (some v'),?_⟩⟩
 ·rw[Ql]
  simp -implicitDefEqProofs only[gsB,x_newB,hx,hb,hst,hld,hr,u_not,Bool.not_true,r_opt,ob_some,ifB_true,iteV_false,iteV_true,r_nil,r_fAddr,aUy,l0,hldx,hp,ext_0,ext_1,l1,hld1,hbi,hent,happ,hset,oneOf_one]
 ·refine(hc0.wJ hc1).wJ ⟨by simp;omega,λb y hy hn'=> ?_⟩
  cases y with
  |map es c=>exact absurd trivial hn'
  |dead=>exact absurd trivial hn'
  |cells cs e kk=>exact k15' b cs e kk hy λhh=>hn' (.inr (.inr hh))
 ·refine⟨k15' _ _ _ _ hd1 (by rintro ⟨hh,_⟩;revert hh;decide),hM1.aCp λb cs e kk hb hh=>k15' b cs e kk hb (by
   rintro ⟨h1,h2⟩
   subst h1 h2;rcases hh with⟨h1,_⟩|⟨h1,_⟩|⟨h1,_⟩<;>revert h1<;>decide),by simp[hi.len],by have:=hi.cnt;simp at this ⊢; omega,?_,?_,hm5,?_,?_,?_,hi.b1,hi.b2⟩
  ·rw[List.map_append,List.nodup_append]
   refine⟨hi.nd,by simp,λy hy z hz hyz=> ?_⟩
   simp at hz;obtain⟨e,he,rfl⟩:=aUQ.mp hy;obtain⟨q',d',hs⟩:=hi.full e he;obtain⟨d'',hf⟩:=(hi.pool.full k).mp (by simp)
   rw[hyz,hz,hf] at hs;cases hs
  ·intro e he
   rcases List.mem_append.mp he with he|he
   ·obtain⟨q',d',hs⟩:=hi.full e he
    have hne:k≠e.2.1:=λhh=>by
     obtain⟨d'',hf⟩:=(hi.pool.full k).mp (by simp)
     rw[hh,hs] at hf;cases hf
    exact⟨q',d',by rw[aUe hne,hs]⟩
   ·rw[List.mem_singleton] at he
    subst he
    exact⟨q,d,aUj hkl⟩
  ·intro w' hw'
   unfold upd at hw';by_cases hww:w'=w
   ·rw[if_pos hww] at hw'
    cases hw'
   ·rw[if_neg hww] at hw'
    rw[Qx,if_neg (λhh=>hww hh.symm)]
    exact hi.no w' hw'
  ·intro w' v hw'
   unfold upd at hw';by_cases hww:w'=w
   ·rw[if_pos hww] at hw'
    cases hw';subst hww;rw[Qx,if_pos rfl];refine⟨?_,by simp⟩
    rw[List.map_append];refine hrow.sH λb hb=>j9 λhh=> ?_
    subst hh;obtain⟨xs,hxs⟩:=hrow.blk hb;rw[hX4,hX] at hxs;cases hxs
   ·rw[if_neg hww] at hw'
    rw[Qx,if_neg (λhh=>hww hh.symm)]
    refine⟨(hq1 w' v hw').sH λb hb=> ?_,(hi.yes w' v hw').2⟩
    obtain⟨xs,hxs⟩:=(hq1 w' v hw').blk hb;rw[hxs,k15 b _ _ _ hxs λv2 hf2 hh=>hi.sep w' w v v2 b hw' hf2 hww hb hh]
  ·intro w1 w2 v1 v2 b hf1 hf2 hne hh1 hh2
   have old: ∀w' v,f w'=some v->aT v b->b<H1.length:=λw' v hf hh=>by
    obtain⟨xs,hxs⟩:=(hq1 w' v hf).blk hh
    exact(aUd.mp hxs).1
   unfold upd at hf1 hf2;by_cases e1:w1=w
   ·rw[if_pos e1] at hf1
    cases hf1;rw[if_neg (λhh=>hne (e1.trans hh.symm))] at hf2
    rcases hhome b hh1 with⟨v,hf,hh⟩|hh
    ·exact hi.sep w w2 v v2 b hf hf2 (by rw[<-e1];exact hne) hh hh2
    ·have:=old w2 v2 hf2 hh2
     omega
   ·rw[if_neg e1] at hf1
    by_cases e2:w2=w
    ·rw[if_pos e2] at hf2
     cases hf2;rcases hhome b hh2 with⟨v,hf,hh⟩|hh
     ·exact hi.sep w1 w v1 v b hf1 hf e1 hh1 hh
     ·have:=old w1 v1 hf1 hh1
      omega
    ·rw[if_neg e2] at hf2
     exact hi.sep w1 w2 v1 v2 b hf1 hf2 hne hh1 hh2
end
end Go.Proofs.YtciiopkbmjppfaaGreatDoor.Rg
