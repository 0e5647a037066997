/-
  PARTS OF THIS CLAIM'S PROOF, laid together by a program of mine.
-/
import Derived.Test.YtndnnndnhnlkdaaGreatDoorAbsM4
set_option linter.unusedVariables false
set_option linter.unusedSimpArgs false
set_option linter.unusedSectionVars false
set_option maxRecDepth 100000
namespace Go.Proofs.YtndnnndnhnlkdaaGreatDoor
open Go.Proofs.Tryz
open Go.Abs Go.Abs.M
def u9:Nat->List (List Int)
 |0=>[[]]
 |k+1=>(u9 k).flatMap λt=>(List.range (k+1)).map λx:Nat=>t++[(x:Int)]
theorem aJZ {t:List Int}{x:Int}(h:jY (t++[x])=true):jY t=true/\0<=x/\x<=t.length:=by
 have hx:=Y0 h (i:=t.length) (x:=x) (by simp)
 refine⟨?_,hx.1,hx.2.1⟩;unfold jY at h⊢;rw[aRi,aRP] at h⊢;refine⟨λj hj=> ?_,?_⟩
 ·have hjl:=aRO.mp hj
  have:=h.1 j (aRO.mpr (by simp;omega))
  rw[aRe,aRd hjl] at this;rw[aRe];exact this
 ·have h2:=of_decide_eq_true h.2
  simp at h2;exact aRU U
theorem Y3: ∀(k:Nat)(t:List Int),t.length=k->jY t=true->t∈u9 k
 |0,t,hl,_=>by
  rw[aRs.mp hl];simp[u9]
 |k+1,t,hl,h=>by
  obtain⟨s,x,rfl⟩: ∃s x,t=s++[x]:=by
   refine⟨t.dropLast,t.getLast (λhh=>by rw[hh] at hl;simp at hl),?_⟩
   exact(List.dropLast_concat_getLast _).symm
  obtain⟨h1,h2,h3⟩:=aJZ h;have hsl:s.length=k:=by simpa using hl
  unfold u9;rw[List.mem_flatMap];refine⟨s,Y3 k s hsl h1,aRN.mpr ⟨x.toNat,aRO.mpr U,?_⟩⟩
  rw[show((x.toNat:Nat):Int)=x by omega]
def Ac (t:List Int):PlanD:=cpP (t.length+1) (Ab t) (nZ t)
def yG (t:List Int):Bool:=gS (Ac t)&&(decide (nO (Ac t)=0)&&(List.range (t.length+1)).all λv=>(List.range (t.length+1)).all λw=>decide (wK (Ac t) v w=o9 t v w)&&(decide (v=w)||decide (2<=(o9 t v w).length)))
theorem aJU:(u9 1).all yG=true:=by decide+kernel
theorem aJV:(u9 2).all yG=true:=by decide+kernel
theorem aJW:(u9 3).all yG=true:=by decide+kernel
theorem aJX:(u9 4).all yG=true:=by decide+kernel
theorem aJY:(u9 5).all yG=true:=by decide+kernel
theorem aJ8 {t:List Int}(hr:jY t=true)(h1:1<=t.length):yG t=true:=by
 have h5:t.length<=5:=by
  unfold jY at hr;rw[aRi] at hr;have:=of_decide_eq_true hr.2;omega
 have hm:=Y3 t.length t rfl hr;have hc:t.length=1∨t.length=2∨t.length=3∨t.length=4∨t.length=5:=U
 rcases hc with h|h|h|h|h<;>rw[h] at hm
 ·exact aRP.mp aJU t hm
 ·exact aRP.mp aJV t hm
 ·exact aRP.mp aJW t hm
 ·exact aRP.mp aJX t hm
 ·exact aRP.mp aJY t hm
def Gr (t:List Int)(v:Nat):List Int:=(List.range (t.length+1)).map λw:Nat=>if v=w then(v:Int) else(o9 t v w).getD 1 0
structure TG (t:List Int):Prop where
 ok:gS (Ac t)=true
 er:nO (Ac t)=0
 pa: ∀v w:Nat,v<=t.length->w<=t.length->wK (Ac t) v w=o9 t v w
 l2: ∀v w:Nat,v<=t.length->w<=t.length->v≠w->2<=(o9 t v w).length
theorem Y4 {t:List Int}(hr:jY t=true)(h1:1<=t.length):TG t:=by
 have h:=aJ8 hr h1;unfold yG at h;simp only[aRi,decide_eq_true_eq,aRP,aRO,Bool.or_eq_true] at h;obtain⟨h1,h2,h3⟩:=h
 exact⟨h1,h2,λv w hv hw=>(h3 v U w U).1,λv w hv hw hne=>((h3 v U w U).2).resolve_left hne⟩
theorem aJ7 {p:PlanD}{t:List Int}(hp:gS p=true)(hg:TG t):gS (rY p t)=true:=by
 have h:=hg.ok;unfold gS qW yB wI at*;simp only[aRi] at*
 exact⟨⟨h.1.1,hp.1.2⟩,h.2.1,hp.2.2.1,hp.2.2.2.1,h.2.2.2.2⟩
theorem aJ3 {p:PlanD}{t:List Int}(hp:gS p=true)(hg:TG t):nO (rY p t)=0/\ ∀v w:Nat,v<=t.length->w<=t.length->wK (rY p t) v w=o9 t v w:=by
 obtain⟨_,c2,_,c4⟩:=aJM (aJ7 hp hg) hg.ok rfl rfl rfl
 exact⟨by rw[c4];exact hg.er,λv w hv hw=>by rw[c2];exact hg.pa v w hv hw⟩
section
variable {H : aE} {m : Nat} {p : PlanD} {ev wv nv : Value}
theorem aJ1 {α:Type}{el:α->List Value}{e e':TypeId}{sz by':Nat}(hsz: ∀x,(el x).length=sz)(hall: ∀x,dX (el x)=true)(h0:0<sz){H0:aE}{v w:Value}{xs ys:List α}{b j:Nat}{cs:List Value}
  (hb:H[b]? =some (.cells cs 30 .fix))(hj:j<cs.length)(hv:Rw el e sz H v xs)(hw:Rs el e' H w ys)(hn:New H0 v)(hbn:H0.length<=b)(he:Ext H0 H)(hr:hP (xs.length+ys.length) by'=true):
  ∃v' H1 H',app e sz by' v w H=some (v',H1)/\stN 1 (.Q b j) v' H1=some (undef,H')/\
   Rw el e sz H' v' (xs++ys)/\New H0 v'/\Ext H0 H'/\H'[b]? =some (.cells (cs.set j v') 30 .fix)/\Fx b e H H':=by
 obtain⟨v',H1,g1,g2,g3,g4,g5⟩:=hv.xT hsz hall h0 (by':=by') hw hr;have hbl:=(aRa.mp hb).1;have hl:=he.1;have hnh: ¬cP v b:=λhh=>by
  obtain⟨c',hc'⟩:=hv.blk hh;rw[hb] at hc';simp at hc'
 have hb1:H1[b]? =some (.cells cs 30 .fix):=by rw[g4 b hbl hnh,hb]
 obtain⟨s1,s2⟩:=g2.tW;have hb1l:=(aRa.mp hb1).1;refine⟨v',H1,H1.set b (.cells (cs.set j v') 30 .fix),g1,?_,g2.eX λc hc=> ?_,λc hc=> ?_,⟨by rw[List.length_set];omega,λc hc _=> ?_⟩,aRg hb1l,λc y hcb hA hy=> ?_⟩
 ·rw[mE 1 _ _ _ (by rw[s1];rfl),hb1,s1,nX _ _ _ _ _ _ aC (by simp;omega) s2]
  rfl
 ·refine aRb λhh=> ?_
  subst hh;obtain⟨c',hc'⟩:=g2.blk hc;rw[hb1] at hc';simp at hc'
 ·rcases g5 c hc with h|⟨h,_⟩
  ·exact hn c h
  ·omega
 ·rw[aRb U,g4 c U (λh=>by have:=hn c h;omega),he.2 c hc id]
 ·have hch: ¬cP v c:=λhh=>by
   obtain⟨c',hc'⟩:=hv.blk hh;rw[hy] at hc';cases hc';exact hA _ rfl
  rw[aRb (Ne.symm hcb),g4 c (aRa.mp hy).1 hch,hy]
structure LA (H0 H1:aE)(pb rb:Nat)(q:PlanD)(ev wv nv:Value):Prop where
 ext:Ext H0 H1
 blk:H1[pb]? =some (plB q ev wv nv)
 res:H1[rb]? =some plZ
 ne:rb≠pb
 lp:H0.length<=pb
 lr:H0.length<=rb
theorem LA.aJ0 {H0 H1 H2:aE}{pb rb:Nat}{q:PlanD}(h:LA H0 H1 pb rb q ev wv nv)(he:Ext H1 H2):LA H0 H2 pb rb q ev wv nv:=⟨h.ext.tr he,eU h.blk he,eU h.res he,h.ne,h.lp,h.lr⟩
theorem Nf {H0 H1:aE}{b rb:Nat}{e:TypeId}(hk:Fx b e H0 H1)(hr:H0[rb]? =some plZ)(hne:rb≠b):H1[rb]? =some plZ:=hk rb _ hne (λcs hh=>by simp[plZ] at hh) hr
def Gq (H0:aE)(q:PlanD)(H':aE)(r:Value):Prop:= ∃ev wv nv,r= .tuple #[plV q ev wv nv,.I 0]/\Ext H0 H'/\PV H' q ev wv nv
variable {t : List Int} {tv : Value} {H0 : aE} {pb rb : Nat}
theorem aJ6 {Hb:aE}{v:Nat}(hr:jY t=true)(hg:TG t)(ht:Is Hb tv t)(hv:v<t.length+1)(hm:400<m)(hm2:m<=72057594037927936){K:Ex->K (Value×aE)}{Q:aE->Value->Prop}
  (hK: ∀(H':aE)(u:Value),Ext Hb H'->Iw H' u ((List.range (t.length+1)).map λw=>if v=w then(v:Int) else(o9 t v w).getD 1 0)->New Hb u-> ∀(x0 x3 x5 x7 x8 cG aS aP aQ aO bB bI aR bJ bM bT bN bP aU aV aW aX aY aZ bA bH bO bV cH cJ bX cC bY b9 cA cD cF cM cN cO cQ cW cX cY cS cT cZ dA dE dB dC dF dL dM dN dQ dZ eA eE eF eG eH eK eN eO eZ fA fB fC fD fE fI fJ fK fL fM fN:Value),∃H2 r,Md (lvl prog cR m) (aK m) K x0 tv (.Q pb 0) x3 (.Q rb 0) x5 (.I (t.length+1:Nat)) x7 x8 (.I (v:Nat)) u cG aS aP aQ aO bB bI aR bJ bM bT bN bP aU aV aW aX aY aZ bA bH bO bV cH cJ bX cC bY b9 cA cD cF cM cN cO cQ cW cX cY cS cT cZ dA dE dB dC dF dL dM dN dQ dZ eA eE eF eG eH eK eN eO eZ fA fB fC fD fE fI fJ fK fL fM fN H'=some (r,H2)/\Q H2 r):
  ∀(k0 w k:Nat)(H1:aE)(acc:Value),t.length+1-w=k0->w<=t.length+1->k0<k->Ext Hb H1->Iw H1 acc ((List.range w).map λw=>if v=w then(v:Int) else(o9 t v w).getD 1 0)->New Hb acc-> ∀(x0 x3 x5 x7 x8 aS aP aQ aO bB bI aR bJ bM bT bN bP aU aV aW aX aY aZ bA bH bO bV cH cJ bX cC bY b9 cA cD cF cM cN cO cQ cW cX cY cS cT cZ dA dE dB dC dF dL dM dN dQ dZ eA eE eF eG eH eK eN eO eZ fA fB fC fD fE fI fJ fK fL fM fN:Value),
  ∃H' r,aK k (aM prog (lvl prog cR m) (aK m) Mc) (Mg (lvl prog cR m) (aK m) K) [x0,tv,(.Q pb 0),x3,(.Q rb 0),x5,(.I (t.length+1:Nat)),x7,x8,(.I (v:Nat)),acc,(.I (w:Nat)),aS,aP,aQ,aO,bB,bI,aR,bJ,bM,bT,bN,bP,aU,aV,aW,aX,aY,aZ,bA,bH,bO,bV,cH,cJ,bX,cC,bY,b9,cA,cD,cF,cM,cN,cO,cQ,cW,cX,cY,cS,cT,cZ,dA,dE,dB,dC,dF,dL,dM,dN,dQ,dZ,eA,eE,eF,eG,eH,eK,eN,eO,eZ,fA,fB,fC,fD,fE,fI,fJ,fK,fL,fM,fN] H1=some (r,H')/\Q H' r:=by
 intro k0;have h5:t.length<=5:=by
  unfold jY at hr;rw[aRi] at hr;have:=of_decide_eq_true hr.2;omega
 induction k0 with
 |zero=>
  intro w k H1 acc hq hi hk he ha hnew;intros;obtain⟨k,rfl⟩:=aB k U
  obtain rfl:w=t.length+1:=U
  have e:decide (((t.length+1:Nat):Int)<((t.length+1:Nat):Int))=false:=by simp
  rw[dG,Xy];simp only[gsR,e];rw[aIF];exact hK H1 acc he ha hnew ..
 |succ k0 ih=>
  intro w k H1 acc hq hi hk he ha hnew;intros;obtain⟨k,rfl⟩:=aB k U
  have e:decide ((w:Int)<((t.length+1:Nat):Int))=true:=aRU U
  have e3:=aA (i:=w) U
  have hrow: ∀x:Int,(if v=w then(v:Int) else(o9 t v w).getD 1 0)=x->((List.range (w+1)).map λw=>if v=w then(v:Int) else(o9 t v w).getD 1 0)=((List.range w).map λw=>if v=w then(v:Int) else(o9 t v w).getD 1 0)++[x]:=λx hx=>by
   rw[aRJ,List.map_append];simp only[aRF,List.map_nil];rw[hx]
  rw[dG,Xy];by_cases hvw:v=w
  ·have d:((v:Int)!=(w:Int))=false:=by simp[hvw]
   obtain⟨acc2,H2,t1,t2,t3,t4⟩:=ha.rU (by':=8) gW o5 aC (v:Int) hnew he (gX (n:=1000) aC (by simp;omega))
   simp only[gsR,e,d,o7,t1,cU,e3];exact ih (w+1) k H2 acc2 U U U t4 (by rw[hrow v (if_pos hvw)];exact t2) t3 ..
  ·have d:((v:Int)!=(w:Int))=true:=by simp;omega
   obtain⟨H2,u,g1,x2,q2,_⟩:=aJQ (ht.ext he) hr (v:=v) (w:=w) U U (m:=m) U U
   obtain⟨x,hx⟩: ∃x,(o9 t v w)[1]? =some x:=by
    have:=hg.l2 v w U U hvw
    exact⟨_,aRc U⟩
   obtain⟨c,o,k1,_,k3⟩:=q2.rs.fV gW hx .i64;have k1:bS 1 u (.int .i64 1)=some (.pointer (some ⟨c,o,none⟩)):=k1;have k4:ld1 (.pointer (some ⟨c,o,none⟩)) H2=some (.int .i64 x,H2):=(k3 H2 rfl).2.1 0 _ rfl;have ha2:=ha.eX (H':=H2) λb hb=>x2.2 b (ha.gM hb) id
   obtain⟨acc2,H3,t1,t2,t3,t4⟩:=ha2.rU (by':=8) gW o5 aC x hnew (he.tr x2) (gX (n:=1000) aC (by simp;omega))
   simp only[gsR,e,d,g1,k1,k4,o7,t1,cU,e3];exact ih (w+1) k H3 acc2 U U U t4 (by rw[hrow x (by rw[if_neg hvw,wN hx])];exact t2) t3 ..
theorem aJ5 {q:PlanD}{ev1 wv1:Value}(hr:jY t=true)(hg:TG t)(ht:Is H0 tv t)(hm:500<m)(hm2:m<=72057594037927936)(hqe:q.edges=Ab t)(hqw:q.weights.length<=1000):
  ∀(k0 v k:Nat)(H1:aE)(nv1:Value)(us:List SV),t.length+1-v=k0->v<=t.length+1->k0<k->LA H0 H1 pb rb q ev1 wv1 nv1->Ew H1 ev1 q.edges->Iw H1 wv1 q.weights->Rw sC 27 1 H1 nv1 us->New H0 nv1->WR H1 us ((List.range v).map (Gr t))-> ∀(x0 x3 x5 x7 x8 bQ cG aS aP aQ aO bB bI aR bJ bM bT bN bP aU aV aW aX aY aZ bA bH bO bV cH cJ bX cC bY b9 cA cD cF cM cN cO cQ cW cX cY cS cT cZ dA dE dB dC dF dL dM dN dQ dZ eA eE eF eG eH eK eN eO eZ fA fB fC fD fE fI fJ fK fL fM fN:Value),
  ∃H' r,aK k (aM prog (lvl prog cR m) (aK m) Mb) (Mf (lvl prog cR m) (aK m)) [x0,tv,(.Q pb 0),x3,(.Q rb 0),x5,(.I (t.length+1:Nat)),x7,x8,(.I (v:Nat)),bQ,cG,aS,aP,aQ,aO,bB,bI,aR,bJ,bM,bT,bN,bP,aU,aV,aW,aX,aY,aZ,bA,bH,bO,bV,cH,cJ,bX,cC,bY,b9,cA,cD,cF,cM,cN,cO,cQ,cW,cX,cY,cS,cT,cZ,dA,dE,dB,dC,dF,dL,dM,dN,dQ,dZ,eA,eE,eF,eG,eH,eK,eN,eO,eZ,fA,fB,fC,fD,fE,fI,fJ,fK,fL,fM,fN] H1=some (r,H')/\Gq H0 {q with next:=nZ t} H' r:=by
 intro k0;have h5:t.length<=5:=by
  unfold jY at hr;rw[aRi] at hr;have:=of_decide_eq_true hr.2;omega
 induction k0 with
 |zero=>
  intro v k H1 nv1 us hq hi hk hL he1 hw1 hn1 hnew hwr;intros;obtain⟨k,rfl⟩:=aB k U
  obtain rfl:v=t.length+1:=U
  have e:decide (((t.length+1:Nat):Int)<((t.length+1:Nat):Int))=false:=by simp
  have hrows:Rows H1 nv1 (nZ t):=hwr.M2 hn1.rs;have hb':H1[pb]? =some (plB {q with next:=nZ t} ev1 wv1 nv1):=hL.blk
  have l11:=kE hb';have hqel:q.edges.length<=5:=by rw[hqe];simp[Ab];exact h5
  have hpv:PV H1 {q with next:=nZ t} ev1 wv1 nv1:=⟨he1.rs,hw1.rs,hrows,by show q.edges.length<=_;omega,by show q.weights.length<=_;omega,by show(nZ t).length<=_;unfold nZ;rw[aJL];omega⟩
  have hrl:=(aRa.mp hL.res).1;have hall:=hpv.Ci;have st:stN 11 (.Q rb 0) (plV {q with next:=nZ t} ev1 wv1 nv1) H1=some (undef,H1.set rb (plB {q with next:=nZ t} ev1 wv1 nv1)):=by
   have e1:(plV {q with next:=nZ t} ev1 wv1 nv1).cells.toList=plC {q with next:=nZ t} ev1 wv1 nv1:=rfl
   rw[mE 11 _ _ _ rfl,hL.res,e1];unfold plZ;exact nX _ _ _ _ _ _ aC (by simp[plC]) hall
  have l2:=kE (aRg (a:=plB {q with next:=nZ t} ev1 wv1 nv1) hrl)
  have kp: ∀(b:Nat)(cs:List Value)(e:TypeId),H1[b]? =some (.cells cs e .row)->(H1.set rb (plB {q with next:=nZ t} ev1 wv1 nv1))[b]? =H1[b]? :=λb cs e hb=>by
   refine aRb λhh=> ?_
   subst hh;rw[hL.res] at hb;simp[plZ] at hb
  have x2:Ext H0 (H1.set rb (plB {q with next:=nZ t} ev1 wv1 nv1)):=nM hL.ext hL.lr
  have hpv2:PV (H1.set rb (plB {q with next:=nZ t} ev1 wv1 nv1)) {q with next:=nZ t} ev1 wv1 nv1:=by
   refine⟨(he1.eX λb hb=> ?_).rs,(hw1.eX λb hb=> ?_).rs,(hwr.Cm λb cs hb=>kp b cs _ hb).M2 (hn1.eX λb hb=> ?_).rs,hpv.be,hpv.bw,hpv.bn⟩
   ·obtain⟨cs,hc⟩:=he1.blk hb
    exact kp b cs _ hc
   ·obtain⟨cs,hc⟩:=hw1.blk hb
    exact kp b cs _ hc
   ·obtain⟨cs,hc⟩:=hn1.blk hb
    exact kp b cs _ hc
  rw[dG,Xx];simp only[gsR,e];rw[aIE];simp only[gsR,l11,st,l2]
  exact⟨_,_,rfl,ev1,wv1,nv1,rfl,x2,hpv2⟩
 |succ k0 ih=>
  intro v k H1 nv1 us hq hi hk hL he1 hw1 hn1 hnew hwr;intros;obtain⟨k,rfl⟩:=aB k U
  have e:decide ((v:Int)<((t.length+1:Nat):Int))=true:=aRU U
  have e3:=aA (i:=v) U
  rw[dG,Xx];simp only[gsR,e];refine aJ6 (pb:=pb) (rb:=rb) (Q:=Gq H0 {q with next:=nZ t}) hr hg (ht.ext hL.ext) (v:=v) U U hm2 (λH2 u x2 hu hun=> ?_) (t.length+1) 0 m H1 _ U U U (Fr.gR _ _) (Rw.kL (el:=inC)) (New.mN _) ..
  intros;have hL2:=hL.aJ0 x2;have l10:=eP hL2.blk 10 _ rfl;have hn2:Rw sC 27 1 H2 nv1 us:=hn1.eX λb hb=>x2.2 b (hn1.gM hb) id
  have hwr2:=hwr.Cm (H':=H2) λb cs hb=>x2.2 b (aRa.mp hb).1 id
  have he2:=he1.eX (H':=H2) λb hb=>x2.2 b (he1.gM hb) id
  have hw2:=hw1.eX (H':=H2) λb hb=>x2.2 b (hw1.gM hb) id
  have hul:us.length<=10:=by have:=hwr.len;simp at this;omega
  obtain⟨nv2,H3,H4,r1,r2,r3,r4,r5,r6,r7⟩:=Ce (by':=24) (H0:=H0) (b:=pb) (j:=10) Cf F7 aC (qZ hu) hL2.blk (by show 10<11;omega) hn2 hnew hL.lp hL2.ext (gX (n:=1000) aC U)
  have bl:dR 27 1 1 [.slice none 0 0] [(0,u)] H2=some (.slice (some ⟨H2.length,0,none⟩) 1 1,H2++[.cells (sC (qZ hu)) 27 .row]):=by
   have h0:u.cells= #[u]:=(qZ hu).2.2;unfold dR;have:Instr.fill (λi=>some (i*1,1)) (List.replicate 1 [Value.slice none 0 0]).flatten.toArray [(0,u)]=some #[u]:=by
    simp[Instr.fill,h0]
   rw[this];rfl
  have hL4:LA H0 H4 pb rb q ev1 wv1 nv2:=⟨r5,r6,Nf r7 hL2.res hL.ne,hL.ne,hL.lp,hL.lr⟩;have w4:=(hwr2.Yg (s:=qZ hu) hu).Cm (H':=H4) λb cs hb=>by
   have hbp:b≠pb:=λhh=>by
    subst hh;rw[hL2.blk] at hb;simp[plB] at hb
   rw[hb];exact r7 b _ hbp (λcs' hh=>by cases hh) hb
  unfold Md;simp only[gsR,l10,bl,r1,r2,cU,e3];refine ih (v+1) k H4 nv2 _ U U U hL4 (Rw.zY he2 r7 hL2.blk aC) (Rw.zY hw2 r7 hL2.blk aC) r3 r4 ?_ ..
  have hrs:(List.range (v+1)).map (Gr t)=(List.range v).map (Gr t)++[Gr t v]:=by rw[aRJ,List.map_append];rfl
  exact hrs▸w4
theorem aJ4 {q:PlanD}{ws:List Int}{nv0:Value}(hr:jY t=true)(hg:TG t)(ht:Is H0 tv t)(hw0:Is H0 wv ws)(hwl:ws.length<=1000)(hm:500<m)(hm2:m<=72057594037927936)(hqe:q.edges=Ab t)(hqw:q.weights=ws):
  ∀(k0 v k:Nat)(H1:aE)(ev1:Value),t.length-v=k0->v<=t.length->k0<k->LA H0 H1 pb rb q ev1 wv nv0->Ew H1 ev1 ((List.range v).map λi=>(t.getD i 0,((i+1:Nat):Int)))->New H0 ev1-> ∀(x0 x3 x5 x8 x9 bQ cG aS aP aQ aO bB bI aR bJ bM bT bN bP aU aV aW aX aY aZ bA bH bO bV cH cJ bX cC bY b9 cA cD cF cM cN cO cQ cW cX cY cS cT cZ dA dE dB dC dF dL dM dN dQ dZ eA eE eF eG eH eK eN eO eZ fA fB fC fD fE fI fJ fK fL fM fN:Value),
  ∃H' r,aK k (aM prog (lvl prog cR m) (aK m) Ma) (Me (lvl prog cR m) (aK m)) [x0,tv,(.Q pb 0),x3,(.Q rb 0),x5,(.I (t.length+1:Nat)),(.I (v+1:Nat)),x8,x9,bQ,cG,aS,aP,aQ,aO,bB,bI,aR,bJ,bM,bT,bN,bP,aU,aV,aW,aX,aY,aZ,bA,bH,bO,bV,cH,cJ,bX,cC,bY,b9,cA,cD,cF,cM,cN,cO,cQ,cW,cX,cY,cS,cT,cZ,dA,dE,dB,dC,dF,dL,dM,dN,dQ,dZ,eA,eE,eF,eG,eH,eK,eN,eO,eZ,fA,fB,fC,fD,fE,fI,fJ,fK,fL,fM,fN] H1=some (r,H')/\Gq H0 {q with next:=nZ t} H' r:=by
 intro k0;have h5:t.length<=5:=by
  unfold jY at hr;rw[aRi] at hr;have:=of_decide_eq_true hr.2;omega
 induction k0 with
 |zero=>
  intro v k H1 ev1 hq hi hk hL he1 hen;intros;obtain⟨k,rfl⟩:=aB k U
  obtain rfl:v=t.length:=U
  have e:decide (((t.length+1:Nat):Int)<((t.length+1:Nat):Int))=false:=by simp
  have l8:=eP hL.blk 8 _ rfl;obtain⟨wv1,H2,H3,r1,r2,r3,r4,r5,r6,r7⟩:=aJ1 (by':=8) (H0:=H0) gW o5 aC hL.blk (show 8<11 by omega) (Rw.kL (el:=inC) (e:=3) (sz:=1)) (hw0.ext hL.ext) (New.mN _) hL.lp hL.ext (gX (n:=100000) aC (by simp;omega))
  rw[List.nil_append] at r3;have hL3:LA H0 H3 pb rb q ev1 wv1 nv0:=⟨r5,r6,Nf r7 hL.res hL.ne,hL.ne,hL.lp,hL.lr⟩;have he3:=Rw.zY he1 r7 hL.blk aC
  have st:=L9 (q':=q) (ev':=ev1) (wv':=wv1) (nv':= .slice none 0 0) (j:=10) (v:= .slice none 0 0) hL3.blk rfl rfl U rfl
  obtain⟨H4,hH4⟩:=aD (H3.set pb (plB q ev1 wv1 (.slice none 0 0)));rw[<-hH4] at st;have other: ∀b,b≠pb->H4[b]? =H3[b]? :=λb hb=>by rw[hH4];exact aRb (Ne.symm hb)
  have nrow: ∀(b:Nat)(cs:List Value)(e:TypeId),H3[b]? =some (.cells cs e .row)->b≠pb:=λb cs e hb hh=>by
   subst hh;rw[hL3.blk] at hb;simp[plB] at hb
  have hL4:LA H0 H4 pb rb q ev1 wv1 (.slice none 0 0):=⟨by rw[hH4];exact nM r5 hL.lp,by rw[hH4];exact aRg (aRa.mp hL3.blk).1,by rw[other rb hL.ne];exact hL3.res,hL.ne,hL.lp,hL.lr⟩
  have he4:Ew H4 ev1 (Ab t):=he3.eX λb hb=>by
   obtain⟨cs,hc⟩:=he3.blk hb;exact other b (nrow b cs _ hc)
  have hw4:Iw H4 wv1 ws:=r3.eX λb hb=>by
   obtain⟨cs,hc⟩:=r3.blk hb;exact other b (nrow b cs _ hc)
  rw[dG,Xw];simp only[gsR,e];rw[aID];simp only[gsR,l8,r1,r2,st];exact aJ5 hr hg ht hm hm2 hqe (by rw[hqw];omega) (t.length+1) 0 m H4 (.slice none 0 0) [] U U U hL4 (by rw[hqe];exact he4) (by rw[hqw];exact hw4) Rw.kL (New.mN _) ⟨rfl,λj s xs h=>by simp at h⟩ ..
 |succ k0 ih=>
  intro v k H1 ev1 hq hi hk hL he1 hen;intros;obtain⟨k,rfl⟩:=aB k U
  have e:decide (((v+1:Nat):Int)<((t.length+1:Nat):Int))=true:=aRU U
  have e3:IntKind.i64.wrap (((v+1:Nat):Int)+1)=((v+1+1:Nat):Int):=by rw[dJ U U];omega
  have e4:IntKind.i64.wrap (((v+1:Nat):Int)-1)=((v:Nat):Int):=by rw[dJ U U];omega
  have l1:=eP hL.blk 1 _ rfl;obtain⟨x,hx⟩: ∃x,t[v]? =some x:=⟨_,aRc U⟩
  obtain⟨b,o,g1,_,g3⟩:=(ht.ext hL.ext).fV gW hx .i64;have g4:ld1 (.Q b o) H1=some (.I x,H1):=(g3 H1 rfl).2.1 0 _ rfl;have be:=bEd x ((v+1:Nat):Int);obtain⟨ev2,H2,H3,r1,r2,r3,r4,r5,r6,r7⟩:=Ce (by':=16) (H0:=H0) (b:=pb) (j:=1) p8 yA aC (x,((v+1:Nat):Int)) hL.blk (by show 1<11;omega) he1 hen hL.lp hL.ext (gX (n:=1000) aC (by simp;omega))
  have hL3:LA H0 H3 pb rb q ev2 wv nv0:=⟨r5,r6,Nf r7 hL.res hL.ne,hL.ne,hL.lp,hL.lr⟩;rw[dG,Xw];simp only[gsR,e,l1,j8,e4,g1,g4,be,aIB,r1,r2,cU,e3];refine ih (v+1) k H3 ev2 U U U hL3 ?_ r4 ..
  rw[aRJ,List.map_append];simp only[aRF,List.map_nil];rw[wN hx];exact r3
theorem aJ2 (hp:PV H p ev wv nv)(hwl:p.weights.length<=1000)(ht:Is H tv t)(hr:jY t=true)(h1:1<=t.length)(hm:600<m)(hm2:m<=72057594037927936):
  ∃H' r,lvl prog cR m (.func 13) [plV p ev wv nv,tv] H=some (r,H')/\Gq H (rY p t) H' r:=by
 have hg:=Y4 hr h1;have h5:t.length<=5:=by
  unfold jY at hr;rw[aRi] at hr;have:=of_decide_eq_true hr.2;omega
 obtain⟨Ha,hHa⟩:=aD (H++[plB p ev wv nv]);have xa:Ext H Ha:=by rw[hHa];exact Fr.app _ _ _
 have ba:Ha[H.length]? =some (plB p ev wv nv):=by rw[hHa];exact eY _ _
 obtain⟨Hb,hHb⟩:=aD (Ha++[plZ]);have xb:Ext Ha Hb:=by rw[hHb];exact Fr.app _ _ _
 have bb:Hb[Ha.length]? =some plZ:=by rw[hHb];exact eY _ _
 have xab:=xa.tr xb;have hra:=Y1 (ht.ext xab) (m:=m-1) U U
 rw[hr] at hra;have hlen:=(ht.ext xab).jX;have d0:((t.length:Int)==0)=false:=by simp;exact λh=>by rw[h] at h1;simp at h1
 have e1:IntKind.i64.wrap ((t.length:Int)+1)=((t.length+1:Nat):Int):=by rw[dJ U U];omega
 have bpl:=eU ba xb;have s1:=L9 (q':={p with nodes:=((t.length+1:Nat):Int)}) (ev':=ev) (wv':=wv) (nv':=nv) (j:=0) (v:= .I (t.length+1:Nat)) bpl rfl rfl U rfl
 obtain⟨Hc,hHc⟩: ∃Hc,Hc=Hb.set H.length (plB {p with nodes:=((t.length+1:Nat):Int)} ev wv nv):=⟨_,rfl⟩;rw[<-hHc] at s1;have bc:Hc[H.length]? =some (plB {p with nodes:=((t.length+1:Nat):Int)} ev wv nv):=by rw[hHc];exact aRg (aRa.mp bpl).1
 have s2:=L9 (q':=rY p t) (ev':= .slice none 0 0) (wv':=wv) (nv':=nv) (j:=1) (v:= .slice none 0 0) bc rfl rfl U rfl
 obtain⟨Hd,hHd⟩:=aD (Hc.set H.length (plB (rY p t) (.slice none 0 0) wv nv));rw[<-hHd] at s2;have bd:Hd[H.length]? =some (plB (rY p t) (.slice none 0 0) wv nv):=by rw[hHd];exact aRg (aRa.mp bc).1
 have hne:Ha.length≠H.length:=by rw[hHa];simp
 have hL:LA H Hd H.length Ha.length (rY p t) (.slice none 0 0) wv nv:=by
  refine⟨?_,bd,?_,hne,aRf _,xa.1⟩
  ·rw[hHd,hHc];exact nM (nM xab (aRf _)) (aRf _)
  ·rw[hHd,aRb (Ne.symm hne),hHc,aRb (Ne.symm hne)]
   exact bb
 refine iB (gN rfl rfl) U ?_
 rw[aIG];simp only[gsR,k9,<-hHa,yE,<-hHb,hra,hlen,d0,cU,e1,s1,s2];have:=aJ4 (q:=rY p t) (nv0:=nv) hr hg ht hp.w hwl (m:=m-1) U U rfl rfl t.length 0 (m-1) Hd (.slice none 0 0) U U U hL Rw.kL (New.mN _)
 exact this ..
end
end Go.Proofs.YtndnnndnhnlkdaaGreatDoor
noncomputable section
namespace Go.Proofs.YtndnnndnhnlkdaaGreatDoor
open Go.Proofs.Tryz
open Go.Abs Go.Abs.M
variable (O:aG)(L:LV)(k:KV)(N P Q R S T U V W X Y Z a b c d e f g i j l m n o p q r s t u v w x y z A B C D E F G H I J zz zy zx zw zv zu zt zs zr zq zp zo zn zm zl zk zj zi zh zg zf ze zd zc zb za yz yy yx yw yv yu yt ys yr yq yp yo yn ym yl yk yj yi yh yg yf ye yd yc yb ya xz xy xx xw xv xu xt xs xr xq xp xo xn xm xl xk xj xi xh xg xf xe xd xc xb xa wz wy wx ww wv wu wt ws wr wq wp wo wn wm wl wk wj wi wh wg wf we wd wc wb wa vz:Value)(h:aE)
def Nq:Code:=bU [1,1,1,1,0,1,0,0,1,1,0,0,1,1,0,1,0,0] (cE prog 19)
def Nu:KV:=(dP 2 (dY prog O L (bU [1,1,1,1,0,1,0,0,1,1,0,0,1,1,1] (cE prog 19)) (dP 1 (dY prog O L (bU [1,1,1,1,0,1,0,0,1,1,1] (cE prog 19)) k))))
def Ns (O:aG)(L:LV) (k:KV) (a b c d e f g i j l m n o p q r s t u v w x y z A B C D E F G H I J zz zy zx zw zv zu zt zs zr zq zp zo zn zm zl zk zj zi zh zg zf ze zd zc zb za yz yy yx yw yv yu yt ys yr yq yp yo yn ym yl yk yj yi yh yg yf ye yd yc yb ya xz xy xx xw xv xu xt xs xr xq xp xo xn xm xl xk xj xi xh xg xf xe xd xc xb xa wz wy wx ww wv wu wt ws wr wq wp wo:Value) (h:aE):OV:=ob (aF (aT f) h) λaa h=>ob (aF (aJ 13 aa) h) λab h=>ob (ld1 ab h) λac h=>ifB (true) (ob (ldN 3 j h) λad h=>ifB (true) (ob (dR 114 3 1 [(.I 0),(.slice none 0 0),(.pointer none)] [(0,ad)] h) λae h=>ob (app 114 3 40 ac ae h) λaf h=>ifB (true) (ob (aF (aT f) h) λag h=>ob (aF (aJ 13 ag) h) λah h=>ob (stN 1 ah af h) λai h=>ifB (true) (ob (aF (bin prog .add 3 zk (.I 1)) h) λaj h=>k .normal [a,b,c,d,e,f,g,i,j,l,m,n,o,p,q,r,s,t,u,v,w,x,y,z,A,B,C,D,E,F,G,H,I,J,zz,zy,zx,zw,zv,zu,zt,zs,zr,zq,zp,zo,zn,zm,zl,aj,zj,zi,zh,zg,zf,ze,zd,zc,zb,za,yz,yy,yx,yw,yv,yu,yt,ys,yr,yq,yp,yo,yn,ym,yl,yk,yj,yi,yh,yg,yf,f,f,aa,ab,ac,ad,ae,af,ag,ah,aj,xt,xs,xr,xq,xp,xo,xn,xm,xl,xk,xj,xi,xh,xg,xf,xe,xd,xc,xb,xa,wz,wy,wx,ww,wv,wu,wt,ws,wr,wq,wp,wo] h))))
theorem aKv:Nu O L k (.exit 2) [a,b,c,d,e,f,g,i,j,l,m,n,o,p,q,r,s,t,u,v,w,x,y,z,A,B,C,D,E,F,G,H,I,J,zz,zy,zx,zw,zv,zu,zt,zs,zr,zq,zp,zo,zn,zm,zl,zk,zj,zi,zh,zg,zf,ze,zd,zc,zb,za,yz,yy,yx,yw,yv,yu,yt,ys,yr,yq,yp,yo,yn,ym,yl,yk,yj,yi,yh,yg,yf,ye,yd,yc,yb,ya,xz,xy,xx,xw,xv,xu,xt,xs,xr,xq,xp,xo,xn,xm,xl,xk,xj,xi,xh,xg,xf,xe,xd,xc,xb,xa,wz,wy,wx,ww,wv,wu,wt,ws,wr,wq,wp,wo] h=Ns O L k a b c d e f g i j l m n o p q r s t u v w x y z A B C D E F G H I J zz zy zx zw zv zu zt zs zr zq zp zo zn zm zl zk zj zi zh zg zf ze zd zc zb za yz yy yx yw yv yu yt ys yr yq yp yo yn ym yl yk yj yi yh yg yf ye yd yc yb ya xz xy xx xw xv xu xt xs xr xq xp xo xn xm xl xk xj xi xh xg xf xe xd xc xb xa wz wy wx ww wv wu wt ws wr wq wp wo h:=by kernel_rfl
theorem Zb:aM prog O L Nq k [a,b,c,d,e,f,g,i,j,l,m,n,o,p,q,r,s,t,u,v,w,x,y,z,A,B,C,D,E,F,G,H,I,J,zz,zy,zx,zw,zv,zu,zt,zs,zr,zq,zp,zo,zn,zm,zl,zk,zj,zi,zh,zg,zf,ze,zd,zc,zb,za,yz,yy,yx,yw,yv,yu,yt,ys,yr,yq,yp,yo,yn,ym,yl,yk,yj,yi,yh,yg,yf,ye,yd,yc,yb,ya,xz,xy,xx,xw,xv,xu,xt,xs,xr,xq,xp,xo,xn,xm,xl,xk,xj,xi,xh,xg,xf,xe,xd,xc,xb,xa,wz,wy,wx,ww,wv,wu,wt,ws,wr,wq,wp,wo] h=ob (aF (bin prog .lss 3 yz za) h) λaa h74=>aN aa (ob (aF (aJ 1 j) h74) λab h75=>ob (ld1 ab h75) λac h76=>ifB (true) (ob (aF (aJ 9 c) h76) λad h77=>ob (ld1 ad h77) λae h78=>ifB (true) (ob (eI prog 23 82 ae h78) λaf h79=>ob (aF (aJ 3 c) h79) λag h80=>ob (ld1 ag h80) λah h81=>ifB (true) (ob (O (.func 52) [af,ah] h81) λai h82=>ifB (chk ((ld1 ab) h82) ac&&(true)) (ob (aF (aJ 9 c) h82) λaj h83=>ob (ld1 aj h83) λak h84=>ifB (chk ((ld1 aj) h81) ak&&(true)) (ob (eI prog 23 82 ak h84) λal h85=>ob (aF (aJ 3 c) h85) λam h86=>ob (ld1 am h86) λan h87=>ifB (chk ((ld1 am) h81) an&&(true)) (ob (O (.func 53) [al,an] h87) λao h88=>ifB (chk ((ld1 ab) h88) ac&&(true)) (ob (aF (bld prog 118 [(0,ai),(1,ao)]) h88) λap h89=>ob (dR 118 2 1 [(.pointer none),(.pointer none)] [(0,ap)] h89) λaq h90=>ob (app 118 2 16 ac aq h90) λar h91=>ifB (true) (ob (aF (aJ 1 j) h91) λau h92=>ob (stN 1 au ar h92) λav h93=>ifB (true) (ob (aF (bin prog .add 3 yz (.I 1)) h93) λaw h94=>k .normal [a,b,c,d,e,f,g,i,j,l,m,n,o,p,q,r,s,t,u,v,w,x,y,z,A,B,C,D,E,F,G,H,I,J,zz,zy,zx,zw,zv,zu,zt,zs,zr,zq,zp,zo,zn,zm,zl,zk,zj,zi,zh,zg,zf,ze,zd,zc,zb,za,aw,aa,ab,ac,ad,ae,af,ag,ah,ai,aj,ak,al,am,an,ao,ap,aq,ar,au,aw,ye,yd,yc,yb,ya,xz,xy,xx,xw,xv,xu,xt,xs,xr,xq,xp,xo,xn,xm,xl,xk,xj,xi,xh,xg,xf,xe,xd,xc,xb,xa,wz,wy,wx,ww,wv,wu,wt,ws,wr,wq,wp,wo] h94)))))))))) (k (.exit 2) [a,b,c,d,e,f,g,i,j,l,m,n,o,p,q,r,s,t,u,v,w,x,y,z,A,B,C,D,E,F,G,H,I,J,zz,zy,zx,zw,zv,zu,zt,zs,zr,zq,zp,zo,zn,zm,zl,zk,zj,zi,zh,zg,zf,ze,zd,zc,zb,za,yz,aa,yx,yw,yv,yu,yt,ys,yr,yq,yp,yo,yn,ym,yl,yk,yj,yi,yh,yg,yf,ye,yd,yc,yb,ya,xz,xy,xx,xw,xv,xu,xt,xs,xr,xq,xp,xo,xn,xm,xl,xk,xj,xi,xh,xg,xf,xe,xd,xc,xb,xa,wz,wy,wx,ww,wv,wu,wt,ws,wr,wq,wp,wo] h74):=by kernel_rfl
def Np:Code:=bU [1,1,1,1,0,1,0,0] (cE prog 19)
def Nt:KV:=(dP 0 (dY prog O L (bU [1,1,1,1,1] (cE prog 19)) (eQ prog Tryz.f19)))
def Nr (O:aG)(L:LV) (a b c d e f g i j l m n o p q r s t u v w x y z A B C D E F G H I J zz zy zx zw zv zu zt zs zr zq zp zo zn zm zl zk zj zi zh zg zf ze zd zc zb za yz yy yx yw yv yu yt ys yr yq yp yo yn ym yl yk yj yi yh yg yf ye yd yc yb ya xz xy xx xw xv xu xt xs xr xq xp xo xn xm xl xk xj xi xh xg xf xe xd xc xb xa wz wy wx ww wv wu wt ws wr wq wp wo:Value) (h:aE):OV:=ob (aF (aT f) h) λaa h=>ob (aF (aJ 13 aa) h) λab h=>ob (ld1 ab h) λac h=>ob (aF (cK ac) h) λad h=>ob (O (.func 54) [ad] h) λae h=>ob (aF (aT f) h) λaf h=>ob (aF (aJ 0 af) h) λag h=>ob (stN 1 ag ae h) λah h=>ob (aF (aT f) h) λai h=>ob (aF (aJ 13 ai) h) λaj h=>ob (ld1 aj h) λak h=>ifB (true) (ob (aF (cK ak) h) λal h=>ob (aF (aJ 2 c) h) λam h=>ob (ld1 am h) λan h=>ifB (true) (ob (aF (aT f) h) λao h=>ob (aF (aJ 13 ao) h) λap h=>ob (ld1 ap h) λaq h=>ifB (true) (ob (aF (cK aq) h) λar h=>ob (aF (aJ 2 c) h) λau h=>ob (ld1 au h) λav h=>ifB (true) (ob (aF (bin prog .mul 3 ar av) h) λaw h=>ob (aF (aJ 3 c) h) λax h=>ob (ld1 ax h) λay h=>ifB (true) (ob (aF (bin prog .mul 3 aw ay) h) λaz h=>ob (O (.func 55) [al,an,az] h) λba h=>ifB (true) (ob (aF (aT f) h) λbb h=>ob (aF (aJ 15 bb) h) λbc h=>ob (stN 1 bc ba h) λbd h=>ifB (true) (some (aL [f],h))))))))
theorem aKu:Nt O L (.exit 0) [a,b,c,d,e,f,g,i,j,l,m,n,o,p,q,r,s,t,u,v,w,x,y,z,A,B,C,D,E,F,G,H,I,J,zz,zy,zx,zw,zv,zu,zt,zs,zr,zq,zp,zo,zn,zm,zl,zk,zj,zi,zh,zg,zf,ze,zd,zc,zb,za,yz,yy,yx,yw,yv,yu,yt,ys,yr,yq,yp,yo,yn,ym,yl,yk,yj,yi,yh,yg,yf,ye,yd,yc,yb,ya,xz,xy,xx,xw,xv,xu,xt,xs,xr,xq,xp,xo,xn,xm,xl,xk,xj,xi,xh,xg,xf,xe,xd,xc,xb,xa,wz,wy,wx,ww,wv,wu,wt,ws,wr,wq,wp,wo] h=Nr O L a b c d e f g i j l m n o p q r s t u v w x y z A B C D E F G H I J zz zy zx zw zv zu zt zs zr zq zp zo zn zm zl zk zj zi zh zg zf ze zd zc zb za yz yy yx yw yv yu yt ys yr yq yp yo yn ym yl yk yj yi yh yg yf ye yd yc yb ya xz xy xx xw xv xu xt xs xr xq xp xo xn xm xl xk xj xi xh xg xf xe xd xc xb xa wz wy wx ww wv wu wt ws wr wq wp wo h:=by kernel_rfl
theorem Za:aM prog O L Np k [a,b,c,d,e,f,g,i,j,l,m,n,o,p,q,r,s,t,u,v,w,x,y,z,A,B,C,D,E,F,G,H,I,J,zz,zy,zx,zw,zv,zu,zt,zs,zr,zq,zp,zo,zn,zm,zl,zk,zj,zi,zh,zg,zf,ze,zd,zc,zb,za,yz,yy,yx,yw,yv,yu,yt,ys,yr,yq,yp,yo,yn,ym,yl,yk,yj,yi,yh,yg,yf,ye,yd,yc,yb,ya,xz,xy,xx,xw,xv,xu,xt,xs,xr,xq,xp,xo,xn,xm,xl,xk,xj,xi,xh,xg,xf,xe,xd,xc,xb,xa,wz,wy,wx,ww,wv,wu,wt,ws,wr,wq,wp,wo] h=ob (aF (bin prog .lss 3 zk zl) h) λaa h=>aN aa (ob (aF (bS 1 zm zk) h) λab h=>ob (ld1 ab h) λac h=>ob (aF (aJ 8 c) h) λad h=>ob (ld1 ad h) λae h=>ob (O (.func 51) [ae] h) λaf h=>ob (aF (bld prog 114 [(0,ac),(2,af)]) h) λag h=>ob (dD 114 [(.I 0),(.slice none 0 0),(.pointer none)] .fix h) λah h=>ob (stN 3 ah ag h) λai h=>ob (aF (aJ 2 c) h) λaj h=>ob (ld1 aj h) λak h=>L (aM prog O L Nq) (Nu O L k) [a,b,c,d,e,f,g,ac,ah,l,m,n,o,p,q,r,s,t,u,v,w,x,y,z,A,B,C,D,E,F,G,H,I,J,zz,zy,zx,zw,zv,zu,zt,zs,zr,zq,zp,zo,zn,zm,zl,zk,aa,ab,ac,ac,ad,ae,af,ag,aj,ak,(.I 0),yy,yx,yw,yv,yu,yt,ys,yr,yq,yp,yo,yn,ym,yl,yk,yj,yi,yh,yg,yf,ye,yd,yc,yb,ya,xz,xy,xx,xw,xv,xu,xt,xs,xr,xq,xp,xo,xn,xm,xl,xk,xj,xi,xh,xg,xf,xe,xd,xc,xb,xa,wz,wy,wx,ww,wv,wu,wt,ws,wr,wq,wp,wo] h) (k (.exit 0) [a,b,c,d,e,f,g,i,j,l,m,n,o,p,q,r,s,t,u,v,w,x,y,z,A,B,C,D,E,F,G,H,I,J,zz,zy,zx,zw,zv,zu,zt,zs,zr,zq,zp,zo,zn,zm,zl,zk,aa,zi,zh,zg,zf,ze,zd,zc,zb,za,yz,yy,yx,yw,yv,yu,yt,ys,yr,yq,yp,yo,yn,ym,yl,yk,yj,yi,yh,yg,yf,ye,yd,yc,yb,ya,xz,xy,xx,xw,xv,xu,xt,xs,xr,xq,xp,xo,xn,xm,xl,xk,xj,xi,xh,xg,xf,xe,xd,xc,xb,xa,wz,wy,wx,ww,wv,wu,wt,ws,wr,wq,wp,wo] h):=by kernel_rfl
theorem aKw:cL prog O L 19 [N,P] h=ob (dD 30 (Value.cells N).toList .fix h) λaa h=>ob (ldN 11 aa h) λab h=>ob (O (.func 16) [ab] h) λac h=>ob (aF (bin prog .neq 33 ac (.int .u16 0)) h) λad h=>ob (gd ad false (c9 P) h) λae h=>ob (gd ad false (aF (bin prog .lss 3 ae (.I 0))) h) λaf h=>ob (aF (dO ad (.bool true) af) h) λag h=>ob (gd ag false (c9 P) h) λah h=>ob (gd ag false (aF (aJ 0 aa)) h) λai h=>ob (gd ag false (ld1 ai) h) λaj h=>ob (gd ag false (aF (bin prog .geq 3 ah aj)) h) λak h=>ob (aF (dO ag (.bool true) ak) h) λal h=>aN al (some (aL [(.pointer none)],h)) (ob (ldN 11 aa h) λam h=>ifB (true) (ob (aF (aJ 2 aa) h) λan h=>ob (ld1 an h) λao h=>ifB (true) (ob (aF (aJ 4 aa) h) λap h=>ob (ld1 ap h) λaq h=>ifB (true) (ob (O (.func 50) [ao,aq] h) λar h=>ifB (chk ((ldN 11 aa) h) am&&(true)) (ob (aF (bld prog 109 [(1,am),(2,P),(4,ar)]) h) λau h=>ob (dD 109 (Value.cells au).toList .fix h) λav h=>ob (aF (aT av) h) λaw h=>ob (aF (aJ 13 aw) h) λax h=>ob (ld1 ax h) λay h=>ifB (true) (ob (aF (aJ 8 aa) h) λaz h=>ob (ld1 az h) λba h=>ifB (true) (ob (O (.func 51) [ba] h) λbb h=>ifB (chk ((ld1 ax) h) ay&&(true)) (ob (aF (bld prog 114 [(0,P),(2,bb)]) h) λbc h=>ob (dR 114 3 1 [(.I 0),(.slice none 0 0),(.pointer none)] [(0,bc)] h) λbd h=>ob (app 114 3 40 ay bd h) λbe h=>ifB (true) (ob (aF (aT av) h) λbf h=>ob (aF (aJ 13 bf) h) λbg h=>ob (stN 1 bg be h) λbh h=>ifB (true) (ob (ldN 11 aa h) λbi h=>ob (O (.func 48) [bi,P] h) λbj h=>ob (aF (cK bj) h) λbk h=>L (aM prog O L Np) (Nt O L) [N,P,aa,undef,(.pointer none),av,undef,undef,undef,ab,ac,ad,ad,ae,af,ag,ag,ah,ai,aj,ak,al,am,P,an,ao,ap,aq,ar,au,av,av,av,aw,ax,ay,P,az,ba,bb,bc,bd,be,bf,bg,bi,P,bj,bk,(.I 0),undef,undef,undef,undef,undef,undef,undef,undef,undef,undef,undef,undef,undef,undef,undef,undef,undef,undef,undef,undef,undef,undef,undef,undef,undef,undef,undef,undef,undef,undef,undef,undef,undef,undef,undef,undef,undef,undef,undef,undef,undef,undef,undef,undef,undef,undef,undef,undef,undef,undef,undef,undef,undef,undef,undef,undef,undef,undef,undef,undef,undef,undef,undef,undef,undef,undef,undef,undef,undef,undef,undef,undef,undef,undef] h)))))))))):=by kernel_rfl
theorem Zc:cL prog O L 22 [N,P] h=ob (dD 39 (Value.cells P).toList .fix h) λaa h=>ob (aF (aJ 0 aa) h) λab h=>ob (ld1 ab h) λac h=>ifB (true) (ob (aF (aT N) h) λad h=>ob (aF (aJ 12 ad) h) λae h=>ob (ld1 ae h) λaf h=>ifB (true) (ob (aF (bin prog .neq 3 ac af) h) λag h=>ob (gd ag false (aF (aJ 1 aa)) h) λah h=>ob (gd ag false (ld1 ah) h) λai h=>ifB (true) (ob (gd ag false (aF (bin prog .lss 3 ai (.I 0))) h) λaj h=>ob (aF (dO ag (.bool true) aj) h) λak h=>ob (gd ak false (aF (aJ 1 aa)) h) λal h=>ob (gd ak false (ld1 al) h) λam h=>ifB (true) (ob (gd ak false (c9 N) h) λan h=>ob (gd ak false (aF (aT an)) h) λao h=>ob (gd ak false (aF (aJ 1 ao)) h) λap h=>ob (gd ak false (aF (aJ 0 ap)) h) λaq h=>ob (gd ak false (ld1 aq) h) λar h=>ifB (true) (ob (gd ak false (aF (bin prog .geq 3 am ar)) h) λau h=>ob (aF (dO ak (.bool true) au) h) λav h=>ob (gd av false (aF (aJ 1 aa)) h) λaw h=>ob (gd av false (ld1 aw) h) λax h=>ifB (true) (ob (gd av false (c9 N) h) λay h=>ob (gd av false (aF (aT ay)) h) λaz h=>ob (gd av false (aF (aJ 12 az)) h) λba h=>ob (gd av false (ld1 ba) h) λbb h=>ifB (true) (ob (gd av false (aF (bin prog .eql 3 ax bb)) h) λbc h=>ob (aF (dO av (.bool true) bc) h) λbd h=>aN bd (some (aL [(.int .u16 1)],h)) (ob (aF (aT N) h) λbe h=>ob (aF (aJ 14 be) h) λbf h=>ob (ld1 bf h) λbg h=>ifB (true) (ob (ldN 4 aa h) λbh h=>ifB (true) (ob (O (.func 57) [bg,bh] h) λbi h=>ifB (true) (some (aL [bi],h)))))))))))):=by kernel_rfl
theorem aKL:cL prog O L 59 [N] h=ob (aF (aT N) h) λaa h=>ob (aF (aJ 14 aa) h) λab h=>ob (ld1 ab h) λac h=>some (aL [ac],h):=by kernel_rfl
theorem aKM:cL prog O L 60 [N,P] h=ob (O (.func 88) [N,P] h) λaa h=>ob (aF (un prog .not aa) h) λab h=>aN ab (some (aL [(.I 0)],h)) (ob (aF (aT N) h) λac h=>ob (aF (aJ 0 ac) h) λad h=>ob (aF (rF 3 1 ad P) h) λae h=>ob (ld1 ae h) λaf h=>ob (aF (cK af) h) λag h=>some (aL [ag],h)):=by kernel_rfl
def Nv:Code:=bU [1,1,1,1,0,1,0,0] (cE prog 26)
def Nx:KV:=(dP 0 (dY prog O L (bU [1,1,1,1,1] (cE prog 26)) (eQ prog Tryz.f26)))
def Gt (O:aG)(L:LV) (a b c d e f g i j l m n o p q r s t u v w x y z A B C D E F G H I J zz zy zx zw zv zu zt zs zr zq zp zo zn zm zl zk zj zi zh zg zf ze zd zc:Value) (h:aE):OV:=ob (ld1 b h) λaa h=>ob (aF (aT aa) h) λab h=>ob (aF (aJ 16 ab) h) λac h=>ob (ld1 ac h) λad h=>ob (aF (bin prog .add 3 ad (.I 1)) h) λae h=>ob (aF (aT aa) h) λaf h=>ob (aF (aJ 16 af) h) λag h=>ob (stN 1 ag ae h) λah h=>ob (ld1 b h) λai h=>ifB (true) (ob (aF (aT ai) h) λaj h=>ob (aF (aJ 16 aj) h) λak h=>ob (ld1 ak h) λal h=>ifB (true) (ob (ld1 b h) λam h=>ifB (true) (ob (aF (aT am) h) λan h=>ob (aF (aJ 1 an) h) λao h=>ob (aF (aJ 6 ao) h) λap h=>ob (ld1 ap h) λaq h=>ifB (true) (ob (aF (bin prog .rem 3 al aq) h) λar h=>ob (aF (bin prog .eql 3 ar (.I 0)) h) λau h=>aN au (ob (ld1 b h) λav h=>ob (O (.func 69) [av,e] h) λaw h=>ob (ld1 d h) λax h=>some (aL [ax],h)) (ob (ld1 d h) λay h=>some (aL [ay],h))))))
theorem aKx:Nx O L (.exit 0) [a,b,c,d,e,f,g,i,j,l,m,n,o,p,q,r,s,t,u,v,w,x,y,z,A,B,C,D,E,F,G,H,I,J,zz,zy,zx,zw,zv,zu,zt,zs,zr,zq,zp,zo,zn,zm,zl,zk,zj,zi,zh,zg,zf,ze,zd,zc] h=Gt O L a b c d e f g i j l m n o p q r s t u v w x y z A B C D E F G H I J zz zy zx zw zv zu zt zs zr zq zp zo zn zm zl zk zj zi zh zg zf ze zd zc h:=by kernel_rfl
theorem Zd:aM prog O L Nv k [a,b,c,d,e,f,g,i,j,l,m,n,o,p,q,r,s,t,u,v,w,x,y,z,A,B,C,D,E,F,G,H,I,J,zz,zy,zx,zw,zv,zu,zt,zs,zr,zq,zp,zo,zn,zm,zl,zk,zj,zi,zh,zg,zf,ze,zd,zc] h=ob (aF (bin prog .lss 3 z y) h) λaa h=>aN aa (ob (aF (bS 1 x z) h) λab h=>ob (ld1 ab h) λac h=>ob (aF (bin prog .geq 3 ac (.I 0)) h) λad h=>aN ad (ob (ld1 b h) λae h=>ob (O (.func 68) [ae,z,ac,e] h) λaf h=>ob (aF (bin prog .add 3 z (.I 1)) h) λag h=>k .normal [a,b,c,d,e,z,ac,i,j,l,m,n,o,p,q,r,s,t,u,v,w,x,y,ag,aa,z,ab,ac,ac,ad,ae,z,ac,e,af,ag,zx,zw,zv,zu,zt,zs,zr,zq,zp,zo,zn,zm,zl,zk,zj,zi,zh,zg,zf,ze,zd,zc] h) (ob (aF (bin prog .add 3 z (.I 1)) h) λah h=>k .normal [a,b,c,d,e,z,ac,i,j,l,m,n,o,p,q,r,s,t,u,v,w,x,y,ah,aa,z,ab,ac,ac,ad,G,H,I,J,zz,ah,zx,zw,zv,zu,zt,zs,zr,zq,zp,zo,zn,zm,zl,zk,zj,zi,zh,zg,zf,ze,zd,zc] h)) (k (.exit 0) [a,b,c,d,e,f,g,i,j,l,m,n,o,p,q,r,s,t,u,v,w,x,y,z,aa,B,C,D,E,F,G,H,I,J,zz,zy,zx,zw,zv,zu,zt,zs,zr,zq,zp,zo,zn,zm,zl,zk,zj,zi,zh,zg,zf,ze,zd,zc] h):=by kernel_rfl
theorem aKy:cL prog O L 26 [N] h=ob (dD 62 (Value.cells N).toList .fix h) λaa h0=>ob (dD 72 [(.slice none 0 0)] .fix h0) λab h1=>ob (ld1 aa h1) λac h2=>ob (O (.func 65) [ac] h2) λad h3=>ob (ld1 aa h3) λae h4=>ifB (true) (ob (aF (aT ae) h4) λaf h5=>ob (aF (aJ 0 af) h5) λag h6=>ob (ld1 ag h6) λah h7=>ifB (true) (ob (ld1 aa h7) λai h8=>ifB (true) (ob (O (.func 67) [ai] h8) λaj h9=>ifB (chk ((ld1 ag) h9) ah&&(chk ((ld1 aa) h9) ae&&(true))) (ob (ld1 aa h9) λak h10=>ifB (chk ((ld1 aa) h8) ak&&(true)) (ob (aF (aT ak) h10) λal h11=>ob (aF (aJ 1 al) h11) λam h12=>ob (aF (aJ 5 am) h12) λan h13=>ob (ld1 an h13) λao h14=>ifB (chk ((ld1 an) h8) ao&&(true)) (ob (O (.func 66) [ah,aj,ao] h14) λap h15=>ifB (true) (ob (aF (cK ap) h15) λaq h16=>L (aM prog O L Nv) (Nx O L) [N,aa,(.slice none 0 0),ab,(.func (.func 63) #[] #[ab,aa]),undef,undef,(.func (.func 63) #[] #[ab,aa]),ac,ad,ae,af,ag,ah,ai,aj,ak,al,am,an,ao,ap,aq,(.I 0),undef,undef,undef,undef,undef,undef,undef,undef,undef,undef,undef,undef,undef,undef,undef,undef,undef,undef,undef,undef,undef,undef,undef,undef,undef,undef,undef,undef,undef,undef,undef,undef,undef,undef] h16))))))):=by kernel_rfl
theorem aKz:cL prog O L 28 [N,P,Q] h=ob (O (.func 71) [N,P,Q] h) λaa h=>ob (aF (ext 0 aa) h) λab h=>ob (aF (ext 1 aa) h) λac h=>ob (dD 118 [(.pointer none),(.pointer none)] .fix h) λad h=>ob (stN 2 ad ab h) λae h=>ob (aF (aJ 0 ad) h) λaf h=>ob (ld1 af h) λag h=>some (aL [ag],h):=by kernel_rfl
theorem aKG:cL prog O L 38 [N] h=ob (aF (aT N) h) λaa h=>ob (aF (aJ 0 aa) h) λab h=>ob (aF (aJ 0 ab) h) λac h=>ob (ld1 ac h) λad h=>some (aL [ad],h):=by kernel_rfl
theorem aKB:cL prog O L 31 [N] h=ob (aF (aT N) h) λaa h=>ob (aF (aJ 0 aa) h) λab h=>ob (ldN 2 ab h) λac h=>ob (O (.func 73) [ac] h) λad h=>some (aL [ad],h):=by kernel_rfl
theorem aKA:cL prog O L 30 [N,P,Q] h=ob (O (.func 71) [N,P,Q] h) λaa h=>ob (aF (ext 0 aa) h) λab h=>ob (aF (ext 1 aa) h) λac h=>ob (dD 118 [(.pointer none),(.pointer none)] .fix h) λad h=>ob (stN 2 ad ab h) λae h=>ob (aF (aJ 1 ad) h) λaf h=>ob (ld1 af h) λag h=>some (aL [ag],h):=by kernel_rfl
theorem aKE:cL prog O L 34 [N] h=ob (aF (aT N) h) λaa h=>ob (aF (aJ 1 aa) h) λab h=>ob (ld1 ab h) λac h=>some (aL [ac],h):=by kernel_rfl
theorem aKH:cL prog O L 50 [N,P] h=ob (aF (bin prog .lss 3 N (.I 1)) h) λaa h=>ob (gd aa false (c9 N) h) λab h=>ob (gd aa false (aF (bin prog .gtr 3 ab (.I 3))) h) λac h=>ob (aF (dO aa (.bool true) ac) h) λad h=>ob (gd ad false (c9 P) h) λae h=>ob (gd ad false (aF (bin prog .lss 3 ae (.I 1))) h) λaf h=>ob (aF (dO ad (.bool true) af) h) λag h=>ob (gd ag false (c9 P) h) λah h=>ob (gd ag false (aF (bin prog .gtr 3 ah (.I 8))) h) λai h=>ob (aF (dO ag (.bool true) ai) h) λaj h=>aN aj (some (aL [(.pointer none)],h)) (ob (aF (bld prog 161 [(2,N),(3,P)]) h) λak h=>ob (dD 161 (Value.cells ak).toList .fix h) λal h=>some (aL [al],h)):=by kernel_rfl
theorem aKI:cL prog O L 52 [N,P] h=ob (aF (bin prog .geq 82 N (.int .u64 4611686018427387904)) h) λaa h=>ob (gd aa false (c9 P) h) λab h=>ob (gd aa false (aF (bin prog .lss 3 ab (.I 1))) h) λac h=>ob (aF (dO aa (.bool true) ac) h) λad h=>ob (gd ad false (c9 P) h) λae h=>ob (gd ad false (aF (bin prog .gtr 3 ae (.I 8))) h) λaf h=>ob (aF (dO ad (.bool true) af) h) λag h=>aN ag (some (aL [(.pointer none)],h)) (ob (eI prog 3 82 P h) λah h=>ob (aF (bin prog .add 82 N ah) h) λai h=>ob (aF (bld prog 144 [(0,N),(1,ai)]) h) λaj h=>ob (aF (bld prog 146 [(0,aj)]) h) λak h=>ob (dD 146 (Value.cells ak).toList .fix h) λal h=>some (aL [al],h)):=by kernel_rfl
theorem aKJ:cL prog O L 53 [N,P] h=ob (aF (bin prog .geq 82 N (.int .u64 4611686018427387904)) h) λaa h=>ob (gd aa false (c9 P) h) λab h=>ob (gd aa false (aF (bin prog .lss 3 ab (.I 1))) h) λac h=>ob (aF (dO aa (.bool true) ac) h) λad h=>ob (gd ad false (c9 P) h) λae h=>ob (gd ad false (aF (bin prog .gtr 3 ae (.I 8))) h) λaf h=>ob (aF (dO ad (.bool true) af) h) λag h=>aN ag (some (aL [(.pointer none)],h)) (ob (aF (bld prog 148 [(0,N),(2,P)]) h) λah h=>ob (dD 148 (Value.cells ah).toList .fix h) λai h=>some (aL [ai],h)):=by kernel_rfl
theorem aKK:cL prog O L 54 [N] h=ob (aF (bin prog .lss 3 N (.I 1)) h) λaa h=>ob (gd aa false (c9 N) h) λab h=>ob (gd aa false (aF (bin prog .gtr 3 ab (.I 16))) h) λac h=>ob (aF (dO aa (.bool true) ac) h) λad h=>aN ad (some (aL [(.pointer none)],h)) (ob (lD 3 1 8 [(.I 0)] N N h) λae h=>ob (lD 3 1 8 [(.I 0)] N N h) λaf h=>ob (aF (bld prog 166 [(0,ae),(1,af)]) h) λag h=>ob (dD 166 (Value.cells ag).toList .fix h) λah h=>some (aL [ah],h)):=by kernel_rfl
theorem aKN:cL prog O L 61 [N] h=ob (aF (aT N) h) λaa h=>ob (aF (aJ 15 aa) h) λab h=>ob (ld1 ab h) λac h=>some (aL [ac],h):=by kernel_rfl
theorem Ny:cL prog O L 57 [N,P] h=ob (dD 39 (Value.cells P).toList .fix h) λaa h=>ob (aF (aJ 2 aa) h) λab h=>ob (ld1 ab h) λac h=>ob (O (.func 88) [N,ac] h) λad h=>ob (aF (un prog .not ad) h) λae h=>aN ae (some (aL [(.int .u16 1)],h)) (ob (aF (aJ 2 aa) h) λaf h=>ob (ld1 af h) λag h=>ifB (true) (ob (aF (aT N) h) λah h=>ob (aF (aJ 0 ah) h) λai h=>ob (aF (rF 3 1 ai ag) h) λaj h=>ob (ld1 aj h) λak h=>ifB (true) (ob (aF (cK ak) h) λal h=>ob (aF (aT N) h) λam h=>ob (aF (aJ 5 am) h) λan h=>ob (ld1 an h) λao h=>ifB (true) (ob (aF (bin prog .eql 3 al ao) h) λap h=>aN ap (some (aL [(.int .u16 150)],h)) (ob (aF (aJ 2 aa) h) λaq h=>ob (ld1 aq h) λar h=>ifB (true) (ob (aF (aJ 2 aa) h) λau h=>ob (ld1 au h) λav h=>ifB (true) (ob (aF (aT N) h) λaw h=>ob (aF (aJ 0 aw) h) λax h=>ob (aF (rF 3 1 ax av) h) λay h=>ob (ld1 ay h) λaz h=>ifB (true) (ob (ldN 4 aa h) λba h=>ifB (true) (ob (dR 39 4 1 [(.I 0),(.I 0),(.I 0),(.int .u32 0)] [(0,ba)] h) λbb h=>ob (app 39 4 32 az bb h) λbc h=>ifB (chk ((ld1 aq) h) ar&&(true)) (ob (aF (aT N) h) λbd h=>ob (aF (aJ 0 bd) h) λbe h=>ob (aF (rF 3 1 be ar) h) λbf h=>ob (stN 1 bf bc h) λbg h=>ifB (true) (some (aL [(.int .u16 0)],h)))))))))))):=by kernel_rfl
theorem aK2:cL prog O L 88 [N,P] h=ob (aF (bin prog .geq 3 P (.I 0)) h) λaa h=>ob (gd aa true (c9 P) h) λab h=>ob (gd aa true (c9 N) h) λac h=>ob (gd aa true (aF (aT ac)) h) λad h=>ob (gd aa true (aF (aJ 4 ad)) h) λae h=>ob (gd aa true (ld1 ae) h) λaf h=>ob (gd aa true (aF (bin prog .lss 3 ab af)) h) λag h=>ob (aF (dO aa ag (.bool false)) h) λah h=>some (aL [ah],h):=by kernel_rfl
theorem aKO:cL prog O L 63 [N,P,Q,R] h=ob (dD 130 (Value.cells P).toList .fix h) λaa h=>ob (ldN 6 aa h) λab h=>ob (O (.func 64) [ab] h) λac h=>ob (aF (ext 0 ac) h) λad h=>ob (aF (ext 1 ac) h) λae h=>ob (ld1 Q h) λaf h=>ifB (true) (ob (ld1 R h) λag h=>ifB (true) (ob (aF (aT ag) h) λah h=>ob (aF (aJ 13 ah) h) λai h=>ob (ld1 ai h) λaj h=>ifB (true) (ob (aF (bS 3 aj N) h) λak h=>ob (aF (aJ 0 ak) h) λal h=>ob (ld1 al h) λam h=>ifB (true) (ob (aF (bld prog 74 [(0,am),(1,ad)]) h) λan h=>ob (dR 74 2 1 [(.I 0),(.slice none 0 0)] [(0,an)] h) λao h=>ob (app 74 2 32 af ao h) λap h=>ifB (true) (ob (stN 1 Q ap h) λaq h=>ifB (true) (some (aL [],h))))))):=by kernel_rfl
theorem aKP:cL prog O L 64 [N] h=ob (dD 130 (Value.cells N).toList .fix h) λaa h0=>ob (ldN 6 aa h0) λab h1=>ob (O (.func 89) [ab] h1) λac h2=>ob (aF (un prog .not ac) h2) λad h3=>aN ad (some (aL [(.slice none 0 0),(.int .u16 1)],h3)) (ob (aF (aJ 0 aa) h3) λae h4=>ob (ld1 ae h4) λaf h5=>ob (aF (aJ 1 aa) h5) λag h6=>ob (ld1 ag h6) λah h7=>ob (dR 5 1 2 [(.int .u8 0)] [(0,af),(1,ah)] h7) λai h8=>ob (aF (aJ 2 aa) h8) λaj h9=>ob (ld1 aj h9) λak h10=>ob (O (.func 90) [ai,ak] h10) λal h11=>ob (aF (aJ 0 aa) h11) λam h12=>ob (ld1 am h12) λan h13=>ob (aF (bin prog .eql 5 an (.int .u8 1)) h13) λao h14=>aN ao (ob (aF (aJ 3 aa) h14) λap h15=>ob (ld1 ap h15) λaq h16=>ifB (true) (ob (aF (aJ 4 aa) h16) λar h17=>ob (ld1 ar h17) λau h18=>ifB (true) (ob (dR 5 1 2 [(.int .u8 0)] [(0,aq),(1,au)] h18) λav h19=>ob (app 5 1 1 al av h19) λaw h20=>ifB (true) (ob (aF (aJ 5 aa) h20) λax h21=>ob (ld1 ax h21) λay h22=>ifB (chk ((ld1 ax) h19) ay&&(true)) (ob (O (.func 91) [aw,ay] h22) λaz h23=>ifB (true) (ob (O (.func 92) [az] h23) λba h24=>ob (O (.func 90) [az,ba] h24) λbb h25=>some (aL [bb,(.int .u16 0)],h25))))))) (ob (O (.func 92) [al] h14) λbc h26=>ob (O (.func 90) [al,bc] h26) λbd h27=>some (aL [bd,(.int .u16 0)],h27))):=by kernel_rfl
def N0:Code:=bU [1,0,0,1,1,0,0,1,1,0,1,0,0] (cE prog 65)
def N4:KV:=(dP 2 (dY prog O L (bU [1,0,0,1,1,0,0,1,1,1] (cE prog 65)) (dP 1 (dY prog O L (bU [1,0,0,1,1,1] (cE prog 65)) k))))
def Gu (O:aG)(L:LV) (k:KV) (a b c d e f g i j l m n o p q r s t u v w x y z A B C D E F G H I J zz zy zx zw zv zu zt zs zr zq zp zo zn zm zl zk zj zi zh zg zf ze zd zc zb za yz yy:Value) (h:aE):OV:=ob (aF (aT a) h) λaa h16=>ob (aF (aJ 1 aa) h16) λab h17=>ob (aF (aJ 3 ab) h17) λac h18=>ob (ld1 ac h18) λad h19=>ob (aF (bin prog .geq 3 d ad) h19) λae h20=>aN ae (ob (aF (bin prog .add 3 o (.I 1)) h20) λaf h21=>k .normal [a,b,c,d,e,f,g,i,j,l,m,n,af,p,q,r,s,t,u,v,w,x,y,z,A,B,C,D,E,F,G,H,I,d,a,aa,ab,ac,ad,ae,zt,zs,zr,zq,zp,zo,zn,zm,zl,zk,zj,zi,zh,zg,zf,ze,zd,zc,zb,za,yz,af] h21) (ob (aF (aT a) h20) λag h22=>ob (aF (aJ 14 ag) h22) λah h23=>ob (ld1 ah h23) λai h24=>ob (O (.func 93) [ai,c] h24) λaj h25=>ob (aF (ext 0 aj) h25) λak h26=>ob (aF (ext 1 aj) h26) λal h27=>ob (dD 39 [(.I 0),(.I 0),(.I 0),(.int .u32 0)] .fix h27) λam h28=>ob (stN 4 am ak h28) λan h29=>aN al (ob (aF (aT a) h29) λao h30=>ob (aF (aJ 15 ao) h30) λap h31=>ob (ld1 ap h31) λaq h32=>ifB (true) (ob (aF (aJ 1 am) h32) λar h33=>ob (ld1 ar h33) λau h34=>ifB (true) (ob (O (.func 95) [a,au] h34) λav h35=>ifB (chk ((ld1 ap) h35) aq&&(true)) (ob (ldN 4 am h35) λaw h36=>ifB (chk ((ldN 4 am) h34) aw&&(true)) (ob (O (.func 94) [aq,(.I 0),av,c,aw] h36) λax h37=>ifB (true) (ob (aF (bin prog .add 3 o (.I 1)) h37) λay h38=>k .normal [a,b,c,d,e,am,al,i,j,l,m,n,ay,p,q,r,s,t,u,v,w,x,y,z,A,B,C,D,E,F,G,H,I,d,a,aa,ab,ac,ad,ae,aj,a,ag,ah,ai,c,aj,ak,al,al,a,ao,ap,aq,a,ar,au,av,c,aw,ax,ay] h38)))))) (ob (aF (bin prog .add 3 o (.I 1)) h29) λaz h39=>k .normal [a,b,c,d,e,am,al,i,j,l,m,n,az,p,q,r,s,t,u,v,w,x,y,z,A,B,C,D,E,F,G,H,I,d,a,aa,ab,ac,ad,ae,aj,a,ag,ah,ai,c,aj,ak,al,al,zj,zi,zh,zg,zf,ze,zd,zc,zb,za,yz,az] h39))
theorem aKR:N4 O L k (.exit 2) [a,b,c,d,e,f,g,i,j,l,m,n,o,p,q,r,s,t,u,v,w,x,y,z,A,B,C,D,E,F,G,H,I,J,zz,zy,zx,zw,zv,zu,zt,zs,zr,zq,zp,zo,zn,zm,zl,zk,zj,zi,zh,zg,zf,ze,zd,zc,zb,za,yz,yy] h=Gu O L k a b c d e f g i j l m n o p q r s t u v w x y z A B C D E F G H I J zz zy zx zw zv zu zt zs zr zq zp zo zn zm zl zk zj zi zh zg zf ze zd zc zb za yz yy h:=by kernel_rfl
theorem Zf:aM prog O L N0 k [a,b,c,d,e,f,g,i,j,l,m,n,o,p,q,r,s,t,u,v,w,x,y,z,A,B,C,D,E,F,G,H,I,J,zz,zy,zx,zw,zv,zu,zt,zs,zr,zq,zp,zo,zn,zm,zl,zk,zj,zi,zh,zg,zf,ze,zd,zc,zb,za,yz,yy] h=ob (aF (bin prog .lss 3 w v) h) λaa h=>aN aa (ob (aF (aT a) h) λab h=>ob (aF (aJ 15 ab) h) λac h=>ob (ld1 ac h) λad h=>ob (O (.func 62) [ad,(.I 0),w,c] h) λae h=>ob (aF (bin prog .add 3 d ae) h) λaf h=>ob (aF (bin prog .add 3 w (.I 1)) h) λag h=>k .normal [a,b,c,af,w,f,g,i,j,l,m,n,o,p,q,r,s,t,u,v,ag,aa,w,d,a,ab,ac,ad,w,c,ae,af,ag,J,zz,zy,zx,zw,zv,zu,zt,zs,zr,zq,zp,zo,zn,zm,zl,zk,zj,zi,zh,zg,zf,ze,zd,zc,zb,za,yz,yy] h) (k (.exit 2) [a,b,c,d,e,f,g,i,j,l,m,n,o,p,q,r,s,t,u,v,w,aa,y,z,A,B,C,D,E,F,G,H,I,J,zz,zy,zx,zw,zv,zu,zt,zs,zr,zq,zp,zo,zn,zm,zl,zk,zj,zi,zh,zg,zf,ze,zd,zc,zb,za,yz,yy] h):=by kernel_rfl
def Nz:Code:=bU [1,0,0] (cE prog 65)
def N3 (O:aG)(L:LV):KV:=(dP 0 (eQ prog Tryz.f65))
theorem aKQ:N3 O L (.exit 0) [a,b,c,d,e,f,g,i,j,l,m,n,o,p,q,r,s,t,u,v,w,x,y,z,A,B,C,D,E,F,G,H,I,J,zz,zy,zx,zw,zv,zu,zt,zs,zr,zq,zp,zo,zn,zm,zl,zk,zj,zi,zh,zg,zf,ze,zd,zc,zb,za,yz,yy] h=some (aL [],h):=by kernel_rfl
theorem Ze:aM prog O L Nz k [a,b,c,d,e,f,g,i,j,l,m,n,o,p,q,r,s,t,u,v,w,x,y,z,A,B,C,D,E,F,G,H,I,J,zz,zy,zx,zw,zv,zu,zt,zs,zr,zq,zp,zo,zn,zm,zl,zk,zj,zi,zh,zg,zf,ze,zd,zc,zb,za,yz,yy] h=ob (aF (bin prog .lss 3 o n) h) λaa h=>aN aa (ob (aF (aT a) h) λab h=>ob (aF (aJ 13 ab) h) λac h=>ob (ld1 ac h) λad h=>ob (aF (cK ad) h) λae h=>L (aM prog O L N0) (N4 O L k) [a,b,o,(.I 0),e,f,g,i,j,l,m,n,o,aa,o,a,ab,ac,ad,ae,(.I 0),x,y,z,A,B,C,D,E,F,G,H,I,J,zz,zy,zx,zw,zv,zu,zt,zs,zr,zq,zp,zo,zn,zm,zl,zk,zj,zi,zh,zg,zf,ze,zd,zc,zb,za,yz,yy] h) (k (.exit 0) [a,b,c,d,e,f,g,i,j,l,m,n,o,aa,q,r,s,t,u,v,w,x,y,z,A,B,C,D,E,F,G,H,I,J,zz,zy,zx,zw,zv,zu,zt,zs,zr,zq,zp,zo,zn,zm,zl,zk,zj,zi,zh,zg,zf,ze,zd,zc,zb,za,yz,yy] h):=by kernel_rfl
theorem aKS:cL prog O L 65 [N] h=ob (aF (aT N) h) λaa h=>ob (aF (aJ 1 aa) h) λab h=>ob (aF (aJ 2 ab) h) λac h=>ob (ld1 ac h) λad h=>L (aM prog O L Nz) (N3 O L) [N,undef,undef,undef,undef,undef,undef,N,aa,ab,ac,ad,(.I 0),undef,undef,undef,undef,undef,undef,undef,undef,undef,undef,undef,undef,undef,undef,undef,undef,undef,undef,undef,undef,undef,undef,undef,undef,undef,undef,undef,undef,undef,undef,undef,undef,undef,undef,undef,undef,undef,undef,undef,undef,undef,undef,undef,undef,undef,undef,undef,undef,undef] h:=by kernel_rfl
def N6:Code:=bU [1,0,1,1,1,1,1,1,0,1,0,0,1,1,0,0,1,1,0,1,0,0] (cE prog 66)
def Oa:KV:=(dP 2 (dY prog O L (bU [1,0,1,1,1,1,1,1,0,1,0,0,1,1,0,0,1,1,1] (cE prog 66)) (dP 1 (dY prog O L (bU [1,0,1,1,1,1,1,1,0,1,0,0,1,1,1] (cE prog 66)) k))))
def N8 (O:aG)(L:LV) (k:KV) (a b c d e f g i j l m n o p q r s t u v w x y z A B C D E F G H I J zz zy zx zw zv zu zt zs zr zq zp zo zn zm zl zk zj zi zh zg zf ze zd zc zb za yz yy yx yw yv yu yt ys yr yq yp yo yn ym yl yk yj yi yh yg yf ye yd yc yb ya xz xy xx xw xv xu xt xs xr xq xp xo xn xm xl xk xj xi xh xg xf xe xd xc xb xa wz wy wx ww wv wu wt ws wr wq wp wo wn wm wl wk wj wi wh wg wf we wd:Value) (h:aE):OV:=ob (aF (aT l) h) λaa h=>ob (aF (aJ 1 aa) h) λab h=>ob (ld1 ab h) λac h=>ob (aF (bin prog .eql 23 ac o) h) λad h=>aN ad (k (.exit 0) [a,b,c,d,e,f,g,i,j,l,m,n,o,p,q,r,s,t,u,v,w,x,y,z,A,B,C,D,E,F,G,H,I,J,zz,zy,zx,zw,zv,zu,zt,zs,zr,zq,zp,zo,zn,zm,zl,zk,zj,zi,zh,zg,zf,ze,zd,zc,zb,za,yz,yy,yx,yw,yv,yu,yt,ys,yr,yq,yp,yo,yn,ym,yl,yk,yj,yi,yh,yg,yf,ye,yd,yc,yb,ya,xz,xy,xx,xw,xv,xu,xt,xs,xr,xq,xp,xo,xn,xm,xl,xk,xj,xi,xh,xg,xf,xe,xd,xc,xb,xa,wz,wy,wx,ww,wv,wu,wt,ws,wr,wq,wp,wo,l,aa,ab,ac,o,ad,wh,wg,wf,we,wd] h) (ob (aF (bin prog .add 3 zm (.I 1)) h) λae h=>k .normal [a,b,c,d,e,f,g,i,j,l,m,n,o,p,q,r,s,t,u,v,w,x,y,z,A,B,C,D,E,F,G,H,I,J,zz,zy,zx,zw,zv,zu,zt,zs,zr,zq,zp,zo,zn,ae,zl,zk,zj,zi,zh,zg,zf,ze,zd,zc,zb,za,yz,yy,yx,yw,yv,yu,yt,ys,yr,yq,yp,yo,yn,ym,yl,yk,yj,yi,yh,yg,yf,ye,yd,yc,yb,ya,xz,xy,xx,xw,xv,xu,xt,xs,xr,xq,xp,xo,xn,xm,xl,xk,xj,xi,xh,xg,xf,xe,xd,xc,xb,xa,wz,wy,wx,ww,wv,wu,wt,ws,wr,wq,wp,wo,l,aa,ab,ac,o,ad,ae,wg,wf,we,wd] h)
theorem aKT:Oa O L k (.exit 2) [a,b,c,d,e,f,g,i,j,l,m,n,o,p,q,r,s,t,u,v,w,x,y,z,A,B,C,D,E,F,G,H,I,J,zz,zy,zx,zw,zv,zu,zt,zs,zr,zq,zp,zo,zn,zm,zl,zk,zj,zi,zh,zg,zf,ze,zd,zc,zb,za,yz,yy,yx,yw,yv,yu,yt,ys,yr,yq,yp,yo,yn,ym,yl,yk,yj,yi,yh,yg,yf,ye,yd,yc,yb,ya,xz,xy,xx,xw,xv,xu,xt,xs,xr,xq,xp,xo,xn,xm,xl,xk,xj,xi,xh,xg,xf,xe,xd,xc,xb,xa,wz,wy,wx,ww,wv,wu,wt,ws,wr,wq,wp,wo,wn,wm,wl,wk,wj,wi,wh,wg,wf,we,wd] h=N8 O L k a b c d e f g i j l m n o p q r s t u v w x y z A B C D E F G H I J zz zy zx zw zv zu zt zs zr zq zp zo zn zm zl zk zj zi zh zg zf ze zd zc zb za yz yy yx yw yv yu yt ys yr yq yp yo yn ym yl yk yj yi yh yg yf ye yd yc yb ya xz xy xx xw xv xu xt xs xr xq xp xo xn xm xl xk xj xi xh xg xf xe xd xc xb xa wz wy wx ww wv wu wt ws wr wq wp wo wn wm wl wk wj wi wh wg wf we wd h:=by kernel_rfl
theorem Zh:aM prog O L N6 k [a,b,c,d,e,f,g,i,j,l,m,n,o,p,q,r,s,t,u,v,w,x,y,z,A,B,C,D,E,F,G,H,I,J,zz,zy,zx,zw,zv,zu,zt,zs,zr,zq,zp,zo,zn,zm,zl,zk,zj,zi,zh,zg,zf,ze,zd,zc,zb,za,yz,yy,yx,yw,yv,yu,yt,ys,yr,yq,yp,yo,yn,ym,yl,yk,yj,yi,yh,yg,yf,ye,yd,yc,yb,ya,xz,xy,xx,xw,xv,xu,xt,xs,xr,xq,xp,xo,xn,xm,xl,xk,xj,xi,xh,xg,xf,xe,xd,xc,xb,xa,wz,wy,wx,ww,wv,wu,wt,ws,wr,wq,wp,wo,wn,wm,wl,wk,wj,wi,wh,wg,wf,we,wd] h=ob (aF (bin prog .lss 3 za zb) h) λaa h=>aN aa (ob (aF (bS 1 zc za) h) λab h=>ob (ld1 ab h) λac h=>ob (aF (aT a) h) λad h=>ob (aF (aJ 1 ad) h) λae h=>ob (ld1 ae h) λaf h=>ob (aF (bS 1 af za) h) λag h=>ob (ld1 ag h) λah h=>ob (O (.func 99) [ac,ah,i] h) λai h=>ob (aF (bin prog .eql 3 ai (.I (-1))) h) λaj h=>aN aj (ob (aF (bin prog .add 3 za (.I 1)) h) λak h=>k .normal [a,b,c,d,e,f,g,i,j,l,m,n,o,za,ac,ai,s,t,u,v,w,x,y,z,A,B,C,D,E,F,G,H,I,J,zz,zy,zx,zw,zv,zu,zt,zs,zr,zq,zp,zo,zn,zm,zl,zk,zj,zi,zh,zg,zf,ze,zd,zc,zb,ak,aa,za,ab,ac,ac,a,ad,ae,af,za,ag,ah,i,ai,ai,aj,yj,yi,yh,yg,yf,ye,yd,yc,yb,ya,xz,xy,xx,xw,xv,xu,xt,xs,xr,xq,xp,xo,xn,xm,xl,xk,xj,xi,xh,xg,xf,xe,xd,xc,xb,xa,wz,wy,wx,ww,wv,wu,wt,ws,wr,wq,wp,ak,wn,wm,wl,wk,wj,wi,wh,wg,wf,we,wd] h) (ob (aF (aT l) h) λal h=>ob (aF (aJ 0 al) h) λam h=>ob (ld1 am h) λan h=>ob (aF (bS 1 an za) h) λao h=>ob (stN 1 ao ai h) λap h=>ob (aF (aT l) h) λaq h=>ob (aF (aJ 1 aq) h) λar h=>ob (ld1 ar h) λau h=>ifB (true) (ob (aF (bin prog .shl 23 (.int .u16 1) za) h) λav h=>ob (aF (bin prog .andNot 23 au av) h) λaw h=>ob (aF (aT l) h) λax h=>ob (aF (aJ 1 ax) h) λay h=>ob (stN 1 ay aw h) λaz h=>ifB (true) (ob (aF (aT l) h) λba h=>ob (aF (aJ 2 ba) h) λbb h=>ob (ld1 bb h) λbc h=>ifB (true) (ob (aF (bin prog .shl 23 (.int .u16 1) ai) h) λbd h=>ob (aF (bin prog .andNot 23 bc bd) h) λbe h=>ob (aF (aT l) h) λbf h=>ob (aF (aJ 2 bf) h) λbg h=>ob (stN 1 bg be h) λbh h=>ifB (true) (ob (aF (bin prog .eql 3 n (.I 0)) h) λbi h=>aN bi (ob (aF (aT a) h) λbj h=>ob (aF (aJ 0 bj) h) λbk h=>ob (ld1 bk h) λbl h=>ifB (true) (ob (aF (aT a) h) λbm h=>ob (aF (aJ 1 bm) h) λbn h=>ob (ld1 bn h) λbo h=>ifB (true) (ob (aF (bin prog .add 3 za (.I 1)) h) λbp h=>ob (aF (bin prog .rem 3 bp i) h) λbq h=>ob (aF (bin prog .add 3 ai (.I 1)) h) λbr h=>ob (aF (bin prog .rem 3 br i) h) λbs h=>ob (aF (bS 1 bl ai) h) λbt h=>ob (stN 1 bt bq h) λbu h=>ifB (true) (ob (aF (bS 1 bo za) h) λbv h=>ob (stN 1 bv bs h) λbw h=>ifB (true) (ob (aF (bin prog .add 3 za (.I 1)) h) λbx h=>k .normal [a,b,c,d,e,f,g,i,j,l,m,n,o,za,ac,ai,s,t,u,v,w,x,y,z,A,B,C,D,E,F,G,H,I,J,zz,zy,zx,zw,zv,zu,zt,zs,zr,zq,zp,zo,zn,zm,zl,zk,zj,zi,zh,zg,zf,ze,zd,zc,zb,bx,aa,za,ab,ac,ac,a,ad,ae,af,za,ag,ah,i,ai,ai,aj,l,al,am,an,za,ai,ao,l,aq,ar,au,za,av,aw,ax,ay,l,ba,bb,bc,ai,bd,be,bf,bg,n,bi,a,bj,bk,bl,ai,a,bm,bn,bo,za,za,bp,i,bq,ai,br,i,bs,bt,bv,bx,wn,wm,wl,wk,wj,wi,wh,wg,wf,we,wd] h))))) (ob (aF (bin prog .add 3 za (.I 1)) h) λbz h=>k .normal [a,b,c,d,e,f,g,i,j,l,m,n,o,za,ac,ai,s,t,u,v,w,x,y,z,A,B,C,D,E,F,G,H,I,J,zz,zy,zx,zw,zv,zu,zt,zs,zr,zq,zp,zo,zn,zm,zl,zk,zj,zi,zh,zg,zf,ze,zd,zc,zb,bz,aa,za,ab,ac,ac,a,ad,ae,af,za,ag,ah,i,ai,ai,aj,l,al,am,an,za,ai,ao,l,aq,ar,au,za,av,aw,ax,ay,l,ba,bb,bc,ai,bd,be,bf,bg,n,bi,xi,xh,xg,xf,xe,xd,xc,xb,xa,wz,wy,wx,ww,wv,wu,wt,ws,wr,wq,wp,bz,wn,wm,wl,wk,wj,wi,wh,wg,wf,we,wd] h))))))) (k (.exit 2) [a,b,c,d,e,f,g,i,j,l,m,n,o,p,q,r,s,t,u,v,w,x,y,z,A,B,C,D,E,F,G,H,I,J,zz,zy,zx,zw,zv,zu,zt,zs,zr,zq,zp,zo,zn,zm,zl,zk,zj,zi,zh,zg,zf,ze,zd,zc,zb,za,aa,yy,yx,yw,yv,yu,yt,ys,yr,yq,yp,yo,yn,ym,yl,yk,yj,yi,yh,yg,yf,ye,yd,yc,yb,ya,xz,xy,xx,xw,xv,xu,xt,xs,xr,xq,xp,xo,xn,xm,xl,xk,xj,xi,xh,xg,xf,xe,xd,xc,xb,xa,wz,wy,wx,ww,wv,wu,wt,ws,wr,wq,wp,wo,wn,wm,wl,wk,wj,wi,wh,wg,wf,we,wd] h):=by kernel_rfl
def N5:Code:=bU [1,0,1,1,1,1,1,1,0,1,0,0] (cE prog 66)
def N9:KV:=(dP 0 (dY prog O L (bU [1,0,1,1,1,1,1,1,1] (cE prog 66)) (eQ prog Tryz.f66)))
def N7 (O:aG)(L:LV) (a b c d e f g i j l m n o p q r s t u v w x y z A B C D E F G H I J zz zy zx zw zv zu zt zs zr zq zp zo zn zm zl zk zj zi zh zg zf ze zd zc zb za yz yy yx yw yv yu yt ys yr yq yp yo yn ym yl yk yj yi yh yg yf ye yd yc yb ya xz xy xx xw xv xu xt xs xr xq xp xo xn xm xl xk xj xi xh xg xf xe xd xc xb xa wz wy wx ww wv wu wt ws wr wq wp wo wn wm wl wk wj wi wh wg wf we wd:Value) (h:aE):OV:=ob (aF (aT l) h) λaa h=>ob (aF (aJ 0 aa) h) λab h=>ob (ld1 ab h) λac h=>some (aL [ac],h)
theorem Zi:N9 O L (.exit 0) [a,b,c,d,e,f,g,i,j,l,m,n,o,p,q,r,s,t,u,v,w,x,y,z,A,B,C,D,E,F,G,H,I,J,zz,zy,zx,zw,zv,zu,zt,zs,zr,zq,zp,zo,zn,zm,zl,zk,zj,zi,zh,zg,zf,ze,zd,zc,zb,za,yz,yy,yx,yw,yv,yu,yt,ys,yr,yq,yp,yo,yn,ym,yl,yk,yj,yi,yh,yg,yf,ye,yd,yc,yb,ya,xz,xy,xx,xw,xv,xu,xt,xs,xr,xq,xp,xo,xn,xm,xl,xk,xj,xi,xh,xg,xf,xe,xd,xc,xb,xa,wz,wy,wx,ww,wv,wu,wt,ws,wr,wq,wp,wo,wn,wm,wl,wk,wj,wi,wh,wg,wf,we,wd] h=N7 O L a b c d e f g i j l m n o p q r s t u v w x y z A B C D E F G H I J zz zy zx zw zv zu zt zs zr zq zp zo zn zm zl zk zj zi zh zg zf ze zd zc zb za yz yy yx yw yv yu yt ys yr yq yp yo yn ym yl yk yj yi yh yg yf ye yd yc yb ya xz xy xx xw xv xu xt xs xr xq xp xo xn xm xl xk xj xi xh xg xf xe xd xc xb xa wz wy wx ww wv wu wt ws wr wq wp wo wn wm wl wk wj wi wh wg wf we wd h:=by kernel_rfl
theorem Zg:aM prog O L N5 k [a,b,c,d,e,f,g,i,j,l,m,n,o,p,q,r,s,t,u,v,w,x,y,z,A,B,C,D,E,F,G,H,I,J,zz,zy,zx,zw,zv,zu,zt,zs,zr,zq,zp,zo,zn,zm,zl,zk,zj,zi,zh,zg,zf,ze,zd,zc,zb,za,yz,yy,yx,yw,yv,yu,yt,ys,yr,yq,yp,yo,yn,ym,yl,yk,yj,yi,yh,yg,yf,ye,yd,yc,yb,ya,xz,xy,xx,xw,xv,xu,xt,xs,xr,xq,xp,xo,xn,xm,xl,xk,xj,xi,xh,xg,xf,xe,xd,xc,xb,xa,wz,wy,wx,ww,wv,wu,wt,ws,wr,wq,wp,wo,wn,wm,wl,wk,wj,wi,wh,wg,wf,we,wd] h=ob (aF (bin prog .lss 3 zm zn) h) λaa h=>aN aa (ob (aF (aT l) h) λab h=>ob (aF (aJ 1 ab) h) λac h=>ob (ld1 ac h) λad h=>ob (O (.func 98) [a,l,m] h) λae h=>ob (aF (cK ae) h) λaf h=>L (aM prog O L N6) (Oa O L k) [a,b,c,d,e,f,g,i,j,l,m,zm,ad,p,q,r,s,t,u,v,w,x,y,z,A,B,C,D,E,F,G,H,I,J,zz,zy,zx,zw,zv,zu,zt,zs,zr,zq,zp,zo,zn,zm,aa,zm,l,ab,ac,ad,a,l,m,ae,af,(.I 0),yz,yy,yx,yw,yv,yu,yt,ys,yr,yq,yp,yo,yn,ym,yl,yk,yj,yi,yh,yg,yf,ye,yd,yc,yb,ya,xz,xy,xx,xw,xv,xu,xt,xs,xr,xq,xp,xo,xn,xm,xl,xk,xj,xi,xh,xg,xf,xe,xd,xc,xb,xa,wz,wy,wx,ww,wv,wu,wt,ws,wr,wq,wp,wo,wn,wm,wl,wk,wj,wi,wh,wg,wf,we,wd] h) (k (.exit 0) [a,b,c,d,e,f,g,i,j,l,m,n,o,p,q,r,s,t,u,v,w,x,y,z,A,B,C,D,E,F,G,H,I,J,zz,zy,zx,zw,zv,zu,zt,zs,zr,zq,zp,zo,zn,zm,aa,zk,zj,zi,zh,zg,zf,ze,zd,zc,zb,za,yz,yy,yx,yw,yv,yu,yt,ys,yr,yq,yp,yo,yn,ym,yl,yk,yj,yi,yh,yg,yf,ye,yd,yc,yb,ya,xz,xy,xx,xw,xv,xu,xt,xs,xr,xq,xp,xo,xn,xm,xl,xk,xj,xi,xh,xg,xf,xe,xd,xc,xb,xa,wz,wy,wx,ww,wv,wu,wt,ws,wr,wq,wp,wo,wn,wm,wl,wk,wj,wi,wh,wg,wf,we,wd] h):=by kernel_rfl
theorem aKU:cL prog O L 66 [N,P,Q] h=ob (aF (aT N) h) λaa h=>ob (aF (aJ 0 aa) h) λab h=>ob (ld1 ab h) λac h=>ob (aF (cK ac) h) λad h=>ob (aF (cK P) h) λae h=>ob (aF (bin prog .neq 3 ae ad) h) λaf h=>ob (gd af false (c9 Q) h) λag h=>ob (gd af false (aF (bin prog .lss 3 ag (.I 1))) h) λah h=>ob (aF (dO af (.bool true) ah) h) λai h=>ob (gd ai false (c9 Q) h) λaj h=>ob (gd ai false (aF (bin prog .gtr 3 aj (.I 16))) h) λak h=>ob (aF (dO ai (.bool true) ak) h) λal h=>aN al (some (aL [(.slice none 0 0)],h)) (ob (aF (bin prog .shl 23 (.int .u16 1) ad) h) λam h=>ob (aF (bin prog .sub 23 am (.int .u16 1)) h) λan h=>ob (dR 3 1 1 [(.I 0)] [(0,(.I (-1)))] h) λao h=>ob (O (.func 96) [ao,ad] h) λap h=>ob (aF (bld prog 183 [(0,ap),(1,an),(2,an)]) h) λaq h=>ob (dD 183 (Value.cells aq).toList .fix h) λar h=>ob (O (.func 97) [P,ad] h) λau h=>L (aM prog O L N5) (N9 O L) [N,P,Q,undef,undef,undef,(.slice none 0 0),ad,an,ar,au,undef,undef,undef,undef,undef,N,aa,ab,ac,ad,P,ae,ad,af,af,ag,ah,ai,ai,aj,ak,al,ad,am,an,ao,ad,ap,an,an,aq,ar,P,ad,au,Q,(.I 0),undef,undef,undef,undef,undef,undef,undef,undef,undef,undef,undef,undef,undef,undef,undef,undef,undef,undef,undef,undef,undef,undef,undef,undef,undef,undef,undef,undef,undef,undef,undef,undef,undef,undef,undef,undef,undef,undef,undef,undef,undef,undef,undef,undef,undef,undef,undef,undef,undef,undef,undef,undef,undef,undef,undef,undef,undef,undef,undef,undef,undef,undef,undef,undef,undef,undef,undef,undef,undef,undef,undef,undef,undef,undef,undef,undef,undef,undef,undef,undef,undef,undef,undef,undef,undef,undef,undef] h):=by kernel_rfl
def Oc:Code:=bU [1,1,0,1,0,0,1,1,0,0,1,1,0,0] (cE prog 67)
def Of:KV:=(dP 2 (dP 1 (dY prog O L (bU [1,1,0,1,0,0,1,1,1] (cE prog 67)) k)))
def Od (O:aG)(L:LV) (k:KV) (a b c d e f g i j l m n o p q r s t u v w x y z A B C D E F G H I J zz zy zx zw zv zu zt zs zr zq:Value) (h:aE):OV:=ob (aF (bin prog .add 3 t (.I 1)) h) λaa h=>k .normal [a,b,c,d,e,f,g,i,j,l,m,n,o,p,q,r,s,aa,u,v,w,x,y,z,A,B,C,D,E,F,G,H,I,J,zz,zy,zx,zw,zv,zu,zt,zs,aa,zq] h
theorem aKW:Of O L k (.exit 2) [a,b,c,d,e,f,g,i,j,l,m,n,o,p,q,r,s,t,u,v,w,x,y,z,A,B,C,D,E,F,G,H,I,J,zz,zy,zx,zw,zv,zu,zt,zs,zr,zq] h=Od O L k a b c d e f g i j l m n o p q r s t u v w x y z A B C D E F G H I J zz zy zx zw zv zu zt zs zr zq h:=by kernel_rfl
theorem Zk:aM prog O L Oc k [a,b,c,d,e,f,g,i,j,l,m,n,o,p,q,r,s,t,u,v,w,x,y,z,A,B,C,D,E,F,G,H,I,J,zz,zy,zx,zw,zv,zu,zt,zs,zr,zq] h=ob (aF (bin prog .lss 3 B A) h) λaa h=>aN aa (ob (O (.func 100) [a,e,B] h) λab h=>ob (aF (bin prog .neq 23 ab (.int .u16 0)) h) λac h=>aN ac (ob (aF (bS 1 d e) h) λad h=>ob (ld1 ad h) λae h=>ifB (true) (ob (aF (bin prog .shl 23 (.int .u16 1) B) h) λaf h=>ob (aF (bin prog .or 23 ae af) h) λag h=>ob (aF (bS 1 d e) h) λah h=>ob (stN 1 ah ag h) λai h=>ifB (true) (ob (aF (bin prog .add 3 B (.I 1)) h) λaj h=>k .normal [a,b,c,d,e,B,g,i,j,l,m,n,o,p,q,r,s,t,u,v,w,x,y,z,A,aj,aa,B,a,e,B,ab,ac,d,e,ad,ae,B,af,ag,ah,aj,zr,zq] h))) (ob (aF (bin prog .add 3 B (.I 1)) h) λak h=>k .normal [a,b,c,d,e,B,g,i,j,l,m,n,o,p,q,r,s,t,u,v,w,x,y,z,A,ak,aa,B,a,e,B,ab,ac,J,zz,zy,zx,zw,zv,zu,zt,ak,zr,zq] h)) (k (.exit 2) [a,b,c,d,e,f,g,i,j,l,m,n,o,p,q,r,s,t,u,v,w,x,y,z,A,B,aa,D,E,F,G,H,I,J,zz,zy,zx,zw,zv,zu,zt,zs,zr,zq] h):=by kernel_rfl
def Ob:Code:=bU [1,1,0,1,0,0] (cE prog 67)
def Oe:KV:=(dP 0 (dY prog O L (bU [1,1,1] (cE prog 67)) (eQ prog Tryz.f67)))
theorem aKV:Oe O L (.exit 0) [a,b,c,d,e,f,g,i,j,l,m,n,o,p,q,r,s,t,u,v,w,x,y,z,A,B,C,D,E,F,G,H,I,J,zz,zy,zx,zw,zv,zu,zt,zs,zr,zq] h=some (aL [d],h):=by kernel_rfl
theorem Zj:aM prog O L Ob k [a,b,c,d,e,f,g,i,j,l,m,n,o,p,q,r,s,t,u,v,w,x,y,z,A,B,C,D,E,F,G,H,I,J,zz,zy,zx,zw,zv,zu,zt,zs,zr,zq] h=ob (aF (bin prog .lss 3 t s) h) λaa h=>aN aa (ob (aF (aT a) h) λab h=>ob (aF (aJ 13 ab) h) λac h=>ob (ld1 ac h) λad h=>ob (aF (cK ad) h) λae h=>L (aM prog O L Oc) (Of O L k) [a,b,c,d,t,f,g,i,j,l,m,n,o,p,q,r,s,t,aa,t,a,ab,ac,ad,ae,(.I 0),C,D,E,F,G,H,I,J,zz,zy,zx,zw,zv,zu,zt,zs,zr,zq] h) (k (.exit 0) [a,b,c,d,e,f,g,i,j,l,m,n,o,p,q,r,s,t,aa,v,w,x,y,z,A,B,C,D,E,F,G,H,I,J,zz,zy,zx,zw,zv,zu,zt,zs,zr,zq] h):=by kernel_rfl
theorem aKX:cL prog O L 67 [N] h=ob (aF (aT N) h) λaa h=>ob (aF (aJ 13 aa) h) λab h=>ob (ld1 ab h) λac h=>ob (aF (cK ac) h) λad h=>ob (lD 23 1 2 [(.int .u16 0)] ad ad h) λae h=>ob (aF (aT N) h) λaf h=>ob (aF (aJ 13 af) h) λag h=>ob (ld1 ag h) λah h=>ob (aF (cK ah) h) λai h=>L (aM prog O L Ob) (Oe O L) [N,undef,(.slice none 0 0),ae,undef,undef,N,aa,ab,ac,ad,ae,N,af,ag,ah,ai,(.I 0),undef,undef,undef,undef,undef,undef,undef,undef,undef,undef,undef,undef,undef,undef,undef,undef,undef,undef,undef,undef,undef,undef,undef,undef,undef,undef] h:=by kernel_rfl
theorem Og:cL prog O L 68 [N,P,Q,R] h=ob (aF (aT N) h) λaa h=>ob (aF (aJ 13 aa) h) λab h=>ob (ld1 ab h) λac h=>ifB (true) (ob (aF (bS 3 ac Q) h) λad h=>ob (aF (aJ 2 ad) h) λae h=>ob (ld1 ae h) λaf h=>ifB (true) (ob (O (.func 100) [N,P,Q] h) λag h=>ifB (chk ((ld1 ae) h) af&&(chk ((ld1 ab) h) ac&&(true))) (ob (O (.func 101) [af,ag] h) λah h=>ifB (true) (ob (aF (bin prog .lss 3 ah (.I 0)) h) λai h=>aN ai (some (aL [],h)) (ob (aF (aT N) h) λaj h=>ob (aF (aJ 15 aj) h) λak h=>ob (ld1 ak h) λal h=>ob (O (.func 102) [al,P,Q,ah] h) λam h=>ob (aF (ext 0 am) h) λan h=>ob (aF (ext 1 am) h) λao h=>ob (dD 39 [(.I 0),(.I 0),(.I 0),(.int .u32 0)] .fix h) λap h=>ob (stN 4 ap an h) λaq h=>ob (aF (bin prog .gtr 3 P (.I 0)) h) λar h=>aN ar (ob (aF (aT N) h) λau h=>ob (aF (aJ 13 au) h) λav h=>ob (ld1 av h) λaw h=>ob (aF (bS 3 aw P) h) λax h=>ob (aF (aJ 1 ax) h) λay h=>ob (ld1 ay h) λaz h=>ob (aF (bS 2 az ah) h) λba h=>ob (aF (aJ 1 ba) h) λbb h=>ob (ld1 bb h) λbc h=>ob (O (.func 103) [bc] h) λbd h=>ob (aF (bin prog .eql 3 Q (.I 0)) h) λbe h=>aN be (ob (aF (aT N) h) λbf h=>ob (aF (aJ 14 bf) h) λbg h=>ob (ld1 bg h) λbh h=>ifB (true) (ob (ldN 4 ap h) λbi h=>ifB (true) (ob (O (.func 104) [bh,bi] h) λbj h=>ifB (true) (some (aL [],h))))) (ob (aF (aT N) h) λbk h=>ob (aF (aJ 13 bk) h) λbl h=>ob (ld1 bl h) λbm h=>ob (aF (bS 3 bm Q) h) λbn h=>ob (aF (aJ 1 bn) h) λbo h=>ob (ld1 bo h) λbp h=>ob (aF (bS 2 bp ah) h) λbq h=>ob (aF (aJ 0 bq) h) λbr h=>ob (ld1 br h) λbs h=>ob (O (.func 105) [bs] h) λbt h=>ob (aF (ext 0 bt) h) λbu h=>ob (aF (ext 1 bt) h) λbv h=>ob (eI prog 3 5 ah h) λbw h=>ob (eI prog 82 23 bu h) λbx h=>ob (aF (aJ 0 ap) h) λbz h=>ob (ld1 bz h) λca h=>ob (eI prog 3 5 ca h) λcb h=>ob (aF (aJ 1 ap) h) λcc h=>ob (ld1 cc h) λcd h=>ob (eI prog 3 5 cd h) λce h=>ob (aF (aJ 3 ap) h) λcf h=>ob (ld1 cf h) λcg h=>ob (aF (bld prog 130 [(0,(.int .u8 1)),(1,bw),(2,bx),(3,cb),(4,ce),(5,cg)]) h) λch h=>ob (nT O R [Q,ch] h) λci h=>some (aL [],h))) (ob (aF (bin prog .eql 3 Q (.I 0)) h) λcj h=>aN cj (ob (aF (aT N) h) λck h=>ob (aF (aJ 14 ck) h) λcl h=>ob (ld1 cl h) λcm h=>ifB (true) (ob (ldN 4 ap h) λcn h=>ifB (true) (ob (O (.func 104) [cm,cn] h) λco h=>ifB (true) (some (aL [],h))))) (ob (aF (aT N) h) λcp h=>ob (aF (aJ 13 cp) h) λcq h=>ob (ld1 cq h) λcr h=>ob (aF (bS 3 cr Q) h) λcs h=>ob (aF (aJ 1 cs) h) λct h=>ob (ld1 ct h) λcu h=>ob (aF (bS 2 cu ah) h) λcv h=>ob (aF (aJ 0 cv) h) λcw h=>ob (ld1 cw h) λcx h=>ob (O (.func 105) [cx] h) λcy h=>ob (aF (ext 0 cy) h) λcz h=>ob (aF (ext 1 cy) h) λda h=>ob (eI prog 3 5 ah h) λdb h=>ob (eI prog 82 23 cz h) λdc h=>ob (aF (aJ 0 ap) h) λdd h=>ob (ld1 dd h) λde h=>ob (eI prog 3 5 de h) λdf h=>ob (aF (aJ 1 ap) h) λdg h=>ob (ld1 dg h) λdh h=>ob (eI prog 3 5 dh h) λdi h=>ob (aF (aJ 3 ap) h) λdj h=>ob (ld1 dj h) λdk h=>ob (aF (bld prog 130 [(0,(.int .u8 1)),(1,db),(2,dc),(3,df),(4,di),(5,dk)]) h) λdl h=>ob (nT O R [Q,dl] h) λdm h=>some (aL [],h)))))))):=by kernel_rfl
def Oj:Code:=bU [1,0,0,1,1,0,0,1,1,0,0] (cE prog 69)
def Om:KV:=(dP 2 (dP 1 (dY prog O L (bU [1,0,0,1,1,1] (cE prog 69)) k)))
def Gv (O:aG)(L:LV) (k:KV) (a b c d e f g i j l m n o p q r s t u v w x y z A B C D E F G H I J zz zy zx zw zv zu zt zs zr zq zp zo zn zm:Value) (h:aE):OV:=ob (aF (bin prog .add 3 p (.I 1)) h) λaa h=>k .normal [a,b,c,d,e,f,g,i,j,l,m,n,o,aa,q,r,s,t,u,v,w,x,y,z,A,B,C,D,E,F,G,H,I,J,zz,zy,zx,zw,zv,zu,zt,zs,zr,zq,zp,zo,zn,aa] h
theorem Zm:Om O L k (.exit 2) [a,b,c,d,e,f,g,i,j,l,m,n,o,p,q,r,s,t,u,v,w,x,y,z,A,B,C,D,E,F,G,H,I,J,zz,zy,zx,zw,zv,zu,zt,zs,zr,zq,zp,zo,zn,zm] h=Gv O L k a b c d e f g i j l m n o p q r s t u v w x y z A B C D E F G H I J zz zy zx zw zv zu zt zs zr zq zp zo zn zm h:=by kernel_rfl
theorem Oh:aM prog O L Oj k [a,b,c,d,e,f,g,i,j,l,m,n,o,p,q,r,s,t,u,v,w,x,y,z,A,B,C,D,E,F,G,H,I,J,zz,zy,zx,zw,zv,zu,zt,zs,zr,zq,zp,zo,zn,zm] h=ob (aF (bin prog .lss 3 x w) h) λaa h=>aN aa (ob (aF (bS 2 v x) h) λab h=>ob (ldN 2 ab h) λac h=>ob (dD 118 [(.pointer none),(.pointer none)] .fix h) λad h=>ob (stN 2 ad ac h) λae h=>ob (eI prog 3 5 x h) λaf h=>ob (aF (aJ 0 ad) h) λag h=>ob (ld1 ag h) λah h=>ob (O (.func 38) [ah] h) λai h=>ob (eI prog 82 23 ai h) λaj h=>ob (aF (bld prog 130 [(0,(.int .u8 3)),(1,af),(2,aj)]) h) λak h=>ob (nT O b [e,ak] h) λal h=>ob (eI prog 3 5 x h) λam h=>ob (aF (aJ 1 ad) h) λan h=>ob (ld1 an h) λao h=>ob (O (.func 32) [ao] h) λap h=>ob (eI prog 82 23 ap h) λaq h=>ob (aF (bld prog 130 [(0,(.int .u8 2)),(1,am),(2,aq)]) h) λar h=>ob (nT O b [e,ar] h) λau h=>ob (aF (bin prog .add 3 x (.I 1)) h) λav h=>k .normal [a,b,c,d,e,f,x,ad,j,l,m,n,o,p,q,r,s,t,u,v,w,av,aa,x,ab,ac,b,e,x,af,ag,ah,ai,aj,ak,al,b,e,x,am,an,ao,ap,aq,ar,au,av,zm] h) (k (.exit 2) [a,b,c,d,e,f,g,i,j,l,m,n,o,p,q,r,s,t,u,v,w,x,aa,z,A,B,C,D,E,F,G,H,I,J,zz,zy,zx,zw,zv,zu,zt,zs,zr,zq,zp,zo,zn,zm] h):=by kernel_rfl
def Oi:Code:=bU [1,0,0] (cE prog 69)
def Ol (O:aG)(L:LV):KV:=(dP 0 (eQ prog Tryz.f69))
theorem aKY:Ol O L (.exit 0) [a,b,c,d,e,f,g,i,j,l,m,n,o,p,q,r,s,t,u,v,w,x,y,z,A,B,C,D,E,F,G,H,I,J,zz,zy,zx,zw,zv,zu,zt,zs,zr,zq,zp,zo,zn,zm] h=some (aL [],h):=by kernel_rfl
theorem Zl:aM prog O L Oi k [a,b,c,d,e,f,g,i,j,l,m,n,o,p,q,r,s,t,u,v,w,x,y,z,A,B,C,D,E,F,G,H,I,J,zz,zy,zx,zw,zv,zu,zt,zs,zr,zq,zp,zo,zn,zm] h=ob (aF (bin prog .lss 3 p o) h) λaa h=>aN aa (ob (aF (bS 3 n p) h) λab h=>ob (ldN 3 ab h) λac h=>ob (dD 114 [(.I 0),(.slice none 0 0),(.pointer none)] .fix h) λad h=>ob (stN 3 ad ac h) λae h=>ob (aF (aJ 1 ad) h) λaf h=>ob (ld1 af h) λag h=>ob (aF (cK ag) h) λah h=>L (aM prog O L Oj) (Om O L k) [a,b,c,d,p,ad,g,i,j,l,m,n,o,p,aa,p,ab,ac,af,ag,ah,(.I 0),y,z,A,B,C,D,E,F,G,H,I,J,zz,zy,zx,zw,zv,zu,zt,zs,zr,zq,zp,zo,zn,zm] h) (k (.exit 0) [a,b,c,d,e,f,g,i,j,l,m,n,o,p,aa,r,s,t,u,v,w,x,y,z,A,B,C,D,E,F,G,H,I,J,zz,zy,zx,zw,zv,zu,zt,zs,zr,zq,zp,zo,zn,zm] h):=by kernel_rfl
theorem aKZ:cL prog O L 69 [N,P] h=ob (aF (aT N) h) λaa h=>ob (aF (aJ 13 aa) h) λab h=>ob (ld1 ab h) λac h=>ob (aF (cK ac) h) λad h=>L (aM prog O L Oi) (Ol O L) [N,P,undef,undef,undef,undef,undef,undef,N,aa,ab,ac,ad,(.I 0),undef,undef,undef,undef,undef,undef,undef,undef,undef,undef,undef,undef,undef,undef,undef,undef,undef,undef,undef,undef,undef,undef,undef,undef,undef,undef,undef,undef,undef,undef,undef,undef,undef,undef] h:=by kernel_rfl
theorem Zn:cL prog O L 71 [N,P,Q] h=ob (dD 118 [(.pointer none),(.pointer none)] .fix h) λaa h=>ob (aF (bin prog .lss 3 P (.I 1)) h) λab h=>ob (gd ab false (c9 P) h) λac h=>ob (gd ab false (c9 N) h) λad h=>ob (gd ab false (aF (aT ad)) h) λae h=>ob (gd ab false (aF (aJ 13 ae)) h) λaf h=>ob (gd ab false (ld1 af) h) λag h=>ob (gd ab false (aF (cK ag)) h) λah h=>ob (gd ab false (aF (bin prog .geq 3 ac ah)) h) λai h=>ob (aF (dO ab (.bool true) ai) h) λaj h=>ob (gd aj false (c9 Q) h) λak h=>ob (gd aj false (aF (bin prog .lss 3 ak (.I 0))) h) λal h=>ob (aF (dO aj (.bool true) al) h) λam h=>ob (gd am false (c9 Q) h) λan h=>ob (gd am false (c9 N) h) λao h=>ob (gd am false (aF (aT ao)) h) λap h=>ob (gd am false (aF (aJ 1 ap)) h) λaq h=>ob (gd am false (aF (aJ 2 aq)) h) λar h=>ob (gd am false (ld1 ar) h) λau h=>ob (gd am false (aF (bin prog .geq 3 an au)) h) λav h=>ob (aF (dO am (.bool true) av) h) λaw h=>aN aw (ob (aF (bld prog 118 []) h) λax h=>ob (stN 2 aa ax h) λay h=>ob (ldN 2 aa h) λw23 _=>some (aL [w23,(.bool false)],h)) (ob (aF (aT N) h) λaz h=>ob (aF (aJ 13 az) h) λba h=>ob (ld1 ba h) λbb h=>ob (aF (bS 3 bb P) h) λbc h=>ob (aF (aJ 1 bc) h) λbd h=>ob (ld1 bd h) λbe h=>ob (aF (bS 2 be Q) h) λbf h=>ob (ldN 2 bf h) λbg h=>ob (stN 2 aa bg h) λbh h=>ob (ldN 2 aa h) λw33 _=>some (aL [w33,(.bool true)],h)):=by kernel_rfl
def Nm:Code:=bU [1,0,1,0,0] (cE prog 117)
def Gs:KV:=(dP 0 (dY prog O L (bU [1,1] (cE prog 117)) (eQ prog Tryz.f117)))
theorem aKk:Gs O L (.exit 0) [a,b,c,d,e,f,g,i,j,l,m,n,o,p,q,r,s,t,u] h=some (aL [(.I (-1))],h):=by kernel_rfl
theorem aKm:Gs O L .ret [a,b,c,d,e,f,g,i,j,l,m,n,o,p,q,r,s,t,u] h=some (aL [e],h):=by kernel_rfl
theorem Y8:aM prog O L Nm k [a,b,c,d,e,f,g,i,j,l,m,n,o,p,q,r,s,t,u] h=ob (aF (bin prog .lss 3 j i) h) λaa h=>aN aa (ob (aF (bS 3 a j) h) λab h=>ob (ldN 3 ab h) λac h=>ob (nT O b [ac] h) λad h=>aN ad (k .ret [a,b,c,d,j,j,g,i,j,aa,j,b,a,j,ab,ac,ad,j,u] h) (ob (aF (bin prog .add 3 j (.I 1)) h) λae h=>k .normal [a,b,c,d,e,j,g,i,ae,aa,j,b,a,j,ab,ac,ad,t,ae] h)) (k (.exit 0) [a,b,c,d,e,f,g,i,j,aa,m,n,o,p,q,r,s,t,u] h):=by kernel_rfl
theorem aKl:cL prog O L 117 [N,P] h=ob (aF (cK N) h) λaa h=>L (aM prog O L Nm) (Gs O L) [N,P,undef,undef,(.I 0),undef,N,aa,(.I 0),undef,undef,undef,undef,undef,undef,undef,undef,undef,undef] h:=by kernel_rfl
theorem Zo:cL prog O L 74 [N] h=ob (dD 130 [(.int .u8 0),(.int .u8 0),(.int .u16 0),(.int .u8 0),(.int .u8 0),(.int .u32 0)] .fix h) λaa h0=>ob (dD 130 [(.int .u8 0),(.int .u8 0),(.int .u16 0),(.int .u8 0),(.int .u8 0),(.int .u32 0)] .fix h0) λab h1=>ob (aF (cK N) h1) λac h2=>ob (aF (bin prog .neq 3 ac (.I 6)) h2) λad h3=>ob (gd ad true (c9 N) h3) λae h4=>ob (gd ad true (aF (cK ae)) h4) λaf h5=>ob (gd ad true (aF (bin prog .neq 3 af (.I 12))) h5) λag h6=>ob (aF (dO ad ag (.bool false)) h6) λah h7=>aN ah (ob (ldN 6 ab h7) λai h8=>ob (stN 6 aa ai h8) λaj h9=>ob (ldN 6 aa h9) λw10 _=>some (aL [w10,(.int .u16 30)],h9)) (ob (aF (cK N) h7) λak h11=>ob (aF (bin prog .sub 3 ak (.I 2)) h11) λal h12=>ob (aF (cK N) h12) λam h13=>ob (aF (bin prog .sub 3 am (.I 2)) h13) λan h14=>ob (slc prog 1 N none (some al) (some an) h14) λao h15=>ifB (true) (ob (O (.func 92) [ao] h15) λap h16=>ifB (true) (ob (eI prog 23 37 ap h16) λaq h17=>ob (aF (cK N) h17) λar h18=>ob (aF (bin prog .sub 3 ar (.I 2)) h18) λau h19=>ob (slc prog 1 N (some au) none none h19) λav h20=>ifB (chk ((slc prog 1 N (some au) none none) h15) av&&(true)) (ob (O (.func 106) [av] h20) λaw h21=>ifB (true) (ob (aF (bin prog .neq 37 aq aw) h21) λax h22=>aN ax (ob (ldN 6 ab h22) λay h23=>ob (stN 6 aa ay h23) λaz h24=>ob (ldN 6 aa h24) λw25 _=>some (aL [w25,(.int .u16 30)],h24)) (ob (aF (bS 1 N (.I 0)) h22) λba h26=>ob (ld1 ba h26) λbb h27=>ob (aF (bin prog .eql 5 bb (.int .u8 1)) h27) λbc h28=>ob (aF (cK N) h28) λbd h29=>ob (aF (bin prog .eql 3 bd (.I 12)) h29) λbe h30=>ob (aF (bin prog .neq 4 bc be) h30) λbf h31=>aN bf (ob (ldN 6 ab h31) λbg h32=>ob (stN 6 aa bg h32) λbh h33=>ob (ldN 6 aa h33) λw34 _=>some (aL [w34,(.int .u16 30)],h33)) (ob (aF (bS 1 N (.I 0)) h31) λbi h35=>ob (ld1 bi h35) λbj h36=>ifB (true) (ob (aF (bS 1 N (.I 1)) h36) λbk h37=>ob (ld1 bk h37) λbl h38=>ifB (true) (ob (slc prog 1 N (some (.I 2)) (some (.I 4)) none h38) λbm h39=>ifB (true) (ob (O (.func 106) [bm] h39) λbn h40=>ifB (chk ((ld1 bk) h40) bl&&(chk ((ld1 bi) h40) bj&&(true))) (ob (eI prog 37 23 bn h40) λbo h41=>ob (aF (bld prog 130 [(0,bj),(1,bl),(2,bo)]) h41) λbp h42=>ob (stN 6 ab bp h42) λbq h43=>ifB (true) (ob (aF (cK N) h43) λbr h44=>ob (aF (bin prog .eql 3 br (.I 12)) h44) λbs h45=>aN bs (ob (aF (bS 1 N (.I 4)) h45) λbt h46=>ob (ld1 bt h46) λbu h47=>ifB (true) (ob (aF (bS 1 N (.I 5)) h47) λbv h48=>ob (ld1 bv h48) λbw h49=>ifB (true) (ob (slc prog 1 N (some (.I 6)) (some (.I 10)) none h49) λbx h50=>ifB (true) (ob (O (.func 106) [bx] h50) λbz h51=>ifB (chk ((ld1 bv) h51) bw&&(chk ((ld1 bt) h51) bu&&(true))) (ob (aF (aJ 3 ab) h51) λca h52=>ob (stN 1 ca bu h52) λcb h53=>ifB (chk ((ld1 bv) h53) bw&&(true)) (ob (aF (aJ 4 ab) h53) λcc h54=>ob (stN 1 cc bw h54) λcd h55=>ifB (true) (ob (aF (aJ 5 ab) h55) λce h56=>ob (stN 1 ce bz h56) λcf h57=>ifB (true) (ob (ldN 6 ab h57) λcg h58=>ob (O (.func 89) [cg] h58) λch h59=>ob (aF (un prog .not ch) h59) λci h60=>aN ci (ob (aF (bld prog 130 []) h60) λcj h61=>ob (stN 6 aa cj h61) λck h62=>ob (ldN 6 aa h62) λw63 _=>some (aL [w63,(.int .u16 30)],h62)) (ob (ldN 6 ab h60) λcl h64=>ob (stN 6 aa cl h64) λcm h65=>ob (ldN 6 aa h65) λw66 _=>some (aL [w66,(.int .u16 0)],h65)))))))))) (ob (ldN 6 ab h45) λcn h67=>ob (O (.func 89) [cn] h67) λco h68=>ob (aF (un prog .not co) h68) λcp h69=>aN cp (ob (aF (bld prog 130 []) h69) λcq h70=>ob (stN 6 aa cq h70) λcr h71=>ob (ldN 6 aa h71) λw72 _=>some (aL [w72,(.int .u16 30)],h71)) (ob (ldN 6 ab h69) λcs h73=>ob (stN 6 aa cs h73) λct h74=>ob (ldN 6 aa h74) λw75 _=>some (aL [w75,(.int .u16 0)],h74))))))))))))))):=by kernel_rfl
theorem aK0:cL prog O L 73 [N] h=ob (dD 144 (Value.cells N).toList .fix h) λaa h=>ob (aF (aJ 1 aa) h) λab h=>ob (ld1 ab h) λac h=>ob (aF (aJ 0 aa) h) λad h=>ob (ld1 ad h) λae h=>ob (aF (bin prog .sub 82 ac ae) h) λaf h=>ob (eI prog 82 3 af h) λag h=>some (aL [ag],h):=by kernel_rfl
theorem aKD:cL prog O L 33 [N] h=ob (aF (aT N) h) λaa h=>ob (aF (aJ 0 aa) h) λab h=>ob (aF (aJ 1 ab) h) λac h=>ob (ld1 ac h) λad h=>some (aL [ad],h):=by kernel_rfl
theorem aKF:cL prog O L 37 [N] h=ob (aF (aT N) h) λaa h=>ob (aF (aJ 0 aa) h) λab h=>ob (ld1 ab h) λac h=>some (aL [ac],h):=by kernel_rfl
theorem aKC:cL prog O L 32 [N] h=ob (aF (aT N) h) λaa h=>ob (aF (aJ 0 aa) h) λab h=>ob (ld1 ab h) λac h=>ifB (true) (ob (aF (aT N) h) λad h=>ob (aF (aJ 2 ad) h) λae h=>ob (ld1 ae h) λaf h=>ifB (true) (ob (aF (aT N) h) λag h=>ob (aF (aJ 1 ag) h) λah h=>ob (ld1 ah h) λai h=>ifB (true) (ob (aF (bin prog .sub 3 af ai) h) λaj h=>ob (eI prog 3 82 aj h) λak h=>ob (aF (bin prog .add 82 ac ak) h) λal h=>some (aL [al],h)))):=by kernel_rfl
theorem aK3:cL prog O L 89 [N] h=ob (dD 130 (Value.cells N).toList .fix h) λaa h=>ob (aF (aJ 0 aa) h) λab h=>ob (ld1 ab h) λac h=>ob (aF (bin prog .eql 5 ac (.int .u8 1)) h) λad h=>aN ad (ob (aF (aJ 1 aa) h) λae h=>ob (ld1 ae h) λaf h=>ob (aF (bin prog .lss 5 af (.int .u8 3)) h) λag h=>ob (gd ag true (aF (aJ 3 aa)) h) λah h=>ob (gd ag true (ld1 ah) h) λai h=>ob (gd ag true (aF (aJ 4 aa)) h) λaj h=>ob (gd ag true (ld1 aj) h) λak h=>ob (gd ag true (aF (mV prog true [ai,ak])) h) λal h=>ob (gd ag true (aF (bin prog .lss 5 al (.int .u8 6))) h) λam h=>ob (aF (dO ag am (.bool false)) h) λan h=>ob (gd an true (aF (aJ 3 aa)) h) λao h=>ob (gd an true (ld1 ao) h) λap h=>ob (gd an true (aF (aJ 4 aa)) h) λaq h=>ob (gd an true (ld1 aq) h) λar h=>ob (gd an true (aF (bin prog .neq 5 ap ar)) h) λau h=>ob (aF (dO an au (.bool false)) h) λav h=>some (aL [av],h)) (ob (aF (bin prog .eql 5 ac (.int .u8 2)) h) λaw h=>aN aw (aN aw (ob (aF (aJ 1 aa) h) λax h=>ob (ld1 ax h) λay h=>ob (aF (bin prog .lss 5 ay (.int .u8 3)) h) λaz h=>ob (gd az true (ldN 6 aa) h) λba h=>ob (gd az true (aF (aJ 0 aa)) h) λbb h=>ob (gd az true (ld1 bb) h) λbc h=>ob (gd az true (aF (aJ 1 aa)) h) λbd h=>ob (gd az true (ld1 bd) h) λbe h=>ob (gd az true (aF (aJ 2 aa)) h) λbf h=>ob (gd az true (ld1 bf) h) λbg h=>ob (gd az true (aF (bld prog 130 [(0,bc),(1,be),(2,bg)])) h) λbh h=>ob (gd az true (aF (bin prog .eql 130 ba bh)) h) λbi h=>ob (aF (dO az bi (.bool false)) h) λbj h=>some (aL [bj],h)) (some (aL [(.bool false)],h))) (ob (aF (bin prog .eql 5 ac (.int .u8 3)) h) λbk h=>aN bk (ob (aF (aJ 1 aa) h) λbl h=>ob (ld1 bl h) λbm h=>ob (aF (bin prog .lss 5 bm (.int .u8 3)) h) λbn h=>ob (gd bn true (ldN 6 aa) h) λbo h=>ob (gd bn true (aF (aJ 0 aa)) h) λbp h=>ob (gd bn true (ld1 bp) h) λbq h=>ob (gd bn true (aF (aJ 1 aa)) h) λbr h=>ob (gd bn true (ld1 br) h) λbs h=>ob (gd bn true (aF (aJ 2 aa)) h) λbt h=>ob (gd bn true (ld1 bt) h) λbu h=>ob (gd bn true (aF (bld prog 130 [(0,bq),(1,bs),(2,bu)])) h) λbv h=>ob (gd bn true (aF (bin prog .eql 130 bo bv)) h) λbw h=>ob (aF (dO bn bw (.bool false)) h) λbx h=>some (aL [bx],h)) (some (aL [(.bool false)],h)))):=by kernel_rfl
theorem aK4:cL prog O L 90 [N,P] h=ob (aF (bin prog .shr 23 P (.int .u64 8)) h) λaa h=>ob (eI prog 23 5 aa h) λab h=>ob (eI prog 23 5 P h) λac h=>ob (dR 5 1 2 [(.int .u8 0)] [(0,ab),(1,ac)] h) λad h=>ob (app 5 1 1 N ad h) λae h=>some (aL [ae],h):=by kernel_rfl
theorem aK5:cL prog O L 91 [N,P] h=ob (aF (bin prog .shr 37 P (.int .u64 16)) h) λaa h=>ob (eI prog 37 23 aa h) λab h=>ob (O (.func 90) [N,ab] h) λac h=>ob (eI prog 37 23 P h) λad h=>ob (O (.func 90) [ac,ad] h) λae h=>some (aL [ae],h):=by kernel_rfl
def On:Code:=bU [1,1,0,1,0,0] (cE prog 92)
def Oo:KV:=(dP 0 (dY prog O L (bU [1,1,1] (cE prog 92)) (eQ prog Tryz.f92)))
theorem aK6:Oo O L (.exit 0) [a,b,c,d,e,f,g,i,j,l,m,n,o,p,q,r] h=ob (ld1 d h) λaa h=>some (aL [aa],h):=by kernel_rfl
theorem Zp:aM prog O L On k [a,b,c,d,e,f,g,i,j,l,m,n,o,p,q,r] h=ob (aF (bin prog .lss 3 j i) h) λaa h=>aN aa (ob (aF (bS 1 g j) h) λab h=>ob (ld1 ab h) λac h=>ob (O (.func 114) [d,ac] h) λad h=>ob (aF (bin prog .add 3 j (.I 1)) h) λae h=>k .normal [a,b,c,d,e,ac,g,i,ae,aa,ab,ac,ac,ad,ae,r] h) (k (.exit 0) [a,b,c,d,e,f,g,i,j,aa,m,n,o,p,q,r] h):=by kernel_rfl
theorem aK7:cL prog O L 92 [N] h=ob (dD 208 [(.int .u16 0)] .fix h) λaa h=>ob (stN 1 aa (.int .u16 65535) h) λab h=>ob (aF (cK N) h) λac h=>L (aM prog O L On) (Oo O L) [N,undef,(.int .u16 0),aa,undef,undef,N,ac,(.I 0),undef,undef,undef,undef,undef,undef,undef] h:=by kernel_rfl
theorem Zq:cL prog O L 93 [N,P] h=ob (dD 39 [(.I 0),(.I 0),(.I 0),(.int .u32 0)] .fix h) λaa h=>ob (O (.func 60) [N,P] h) λab h=>ob (aF (bin prog .eql 3 ab (.I 0)) h) λac h=>aN ac (ob (aF (bld prog 39 []) h) λad h=>ob (stN 4 aa ad h) λae h=>ob (ldN 4 aa h) λw5 _=>some (aL [w5,(.bool false)],h)) (ob (aF (aT N) h) λaf h=>ob (aF (aJ 0 af) h) λag h=>ob (aF (rF 3 1 ag P) h) λah h=>ob (ld1 ah h) λai h=>ob (aF (bS 4 ai (.I 0)) h) λaj h=>ob (ldN 4 aj h) λak h=>ob (dD 39 [(.I 0),(.I 0),(.I 0),(.int .u32 0)] .fix h) λal h=>ob (stN 4 al ak h) λam h=>ob (aF (aT N) h) λan h=>ob (aF (aJ 0 an) h) λao h=>ob (aF (rF 3 1 ao P) h) λap h=>ob (ld1 ap h) λaq h=>ifB (true) (ob (slc prog 4 aq (some (.I 1)) none none h) λar h=>ifB (true) (ob (aF (aT N) h) λau h=>ob (aF (aJ 0 au) h) λav h=>ob (aF (rF 3 1 av P) h) λaw h=>ob (stN 1 aw ar h) λax h=>ifB (true) (ob (ldN 4 al h) λay h=>ob (stN 4 aa ay h) λaz h=>ob (ldN 4 aa h) λw25 _=>some (aL [w25,(.bool true)],h))))):=by kernel_rfl
theorem aK8:cL prog O L 95 [N,P] h=ob (aF (aT N) h) λaa h=>ob (aF (aJ 12 aa) h) λab h=>ob (ld1 ab h) λac h=>ob (aF (bin prog .eql 3 P ac) h) λad h=>aN ad (some (aL [(.I 0)],h)) (ob (aF (aT N) h) λae h=>ob (aF (aJ 1 ae) h) λaf h=>ob (aF (aJ 10 af) h) λag h=>ob (ld1 ag h) λah h=>ifB (true) (ob (aF (aT N) h) λai h=>ob (aF (aJ 12 ai) h) λaj h=>ob (ld1 aj h) λak h=>ifB (true) (ob (aF (bS 1 ah ak) h) λal h=>ob (ld1 al h) λam h=>ifB (true) (ob (aF (bS 1 am P) h) λan h=>ob (ld1 an h) λao h=>ifB (true) (ob (dD 3 [(.I 0)] .fix h) λap h=>ob (stN 1 ap ao h) λaq h=>ifB (true) (ob (aF (aT N) h) λar h=>ob (aF (aJ 13 ar) h) λau h=>ob (ld1 au h) λav h=>ob (slc prog 3 av (some (.I 1)) none none h) λaw h=>ob (O (.func 117) [aw,(.func (.func 118) #[] #[ap])] h) λax h=>ob (aF (bin prog .add 3 ax (.I 1)) h) λay h=>some (aL [ay],h))))))):=by kernel_rfl
def Oq:Code:=bU [1,1,1,1,1,1,0,0,0] (cE prog 96)
def Ot:KV:=(dP 0 (dY prog O L (bU [1,1,1,1,1,1,1] (cE prog 96)) (eQ prog Tryz.f96)))
theorem aLd:Ot O L (.exit 0) [a,b,c,d,e,f,g,i,j,l,m,n,o,p,q,r,s,t,u,v,w,x,y,z,A,B,C,D,E,F,G,H,I,J,zz,zy,zx,zw,zv,zu,zt,zs,zr,zq,zp,zo,zn,zm] h=some (aL [i],h):=by kernel_rfl
theorem aK9:aM prog O L Oq k [a,b,c,d,e,f,g,i,j,l,m,n,o,p,q,r,s,t,u,v,w,x,y,z,A,B,C,D,E,F,G,H,I,J,zz,zy,zx,zw,zv,zu,zt,zs,zr,zq,zp,zo,zn,zm] h=ob (aF (cK i) h) λaa h=>ob (aF (bin prog .lss 3 j aa) h) λab h=>aN ab (ob (slc prog 1 i (some j) none none h) λac h=>ifB (true) (ob (slc prog 1 i none (some j) none h) λad h=>ifB (true) (ob (cpy 1 ac ad h) λae h=>ifB (true) (ob (aF (bin prog .add 3 j ae) h) λaf h=>k .normal [a,b,c,d,e,f,g,i,af,l,m,n,o,p,q,r,s,t,u,v,w,x,y,z,A,B,C,D,E,F,G,H,I,J,j,i,aa,ab,j,i,j,ac,i,j,ad,ae,af,zm] h)))) (k (.exit 0) [a,b,c,d,e,f,g,i,j,l,m,n,o,p,q,r,s,t,u,v,w,x,y,z,A,B,C,D,E,F,G,H,I,J,j,i,aa,ab,zv,zu,zt,zs,zr,zq,zp,zo,zn,zm] h):=by kernel_rfl
def aLc:Code:=bU [1,1,1,1,1,1,0,0,0] (cE prog 96)
def aLh:KV:=(dP 0 (dY prog O L (bU [1,1,1,1,1,1,1] (cE prog 96)) (eQ prog Tryz.f96)))
def aLb:Code:=bU [1,1,1,1,1,1,0,0,0] (cE prog 96)
def aLg:KV:=(dP 0 (dY prog O L (bU [1,1,1,1,1,1,1] (cE prog 96)) (eQ prog Tryz.f96)))
def aLa:Code:=bU [1,1,1,1,1,1,0,0,0] (cE prog 96)
def aLf:KV:=(dP 0 (dY prog O L (bU [1,1,1,1,1,1,1] (cE prog 96)) (eQ prog Tryz.f96)))
theorem aLe:cL prog O L 96 [N,P] h=ob (aF (bin prog .lss 3 P (.I 0)) h) λaa h=>aN aa (ob (dW /- operation -/ h) λab h=>ob (dW /- operation -/ h) λac h=>ob (aF (cK N) h) λad h=>ob (eI prog 3 200 ad h) λae h=>ob (eI prog 3 200 P h) λaf h=>ob (O (.func 119) [ae,af] h) λag h=>ob (aF (ext 0 ag) h) λah h=>ob (aF (ext 1 ag) h) λai h=>ob (aF (bin prog .gtr 200 ah (.int .u64 0)) h) λaj h=>ob (gd aj false (c9 ai) h) λak h=>ob (gd aj false (aF (bin prog .gtr 200 ak (.int .u64 9223372036854775807))) h) λal h=>ob (aF (dO aj (.bool true) al) h) λam h=>aN am (ob (dW /- operation -/ h) λan h=>ob (dW /- operation -/ h) λao h=>ob (eI prog 200 3 ai h) λap h=>ob (lD 3 1 8 [(.I 0)] ap ap h) λaq h=>ob (cpy 1 aq N h) λar h=>L (aM prog O L aLa) (aLf O L) [N,P,undef,undef,(.slice none 0 0),ah,ai,aq,ar,P,aa,ab,ag,N,ad,ae,P,af,ag,ah,ai,ah,aj,aj,ak,al,am,an,ai,ap,aq,aq,N,ar,undef,undef,undef,undef,undef,undef,undef,undef,undef,undef,undef,undef,undef,undef] h) (ob (eI prog 200 3 ai h) λau h=>ob (lD 3 1 8 [(.I 0)] au au h) λav h=>ob (cpy 1 av N h) λaw h=>L (aM prog O L aLb) (aLg O L) [N,P,undef,undef,(.slice none 0 0),ah,ai,av,aw,P,aa,ab,ag,N,ad,ae,P,af,ag,ah,ai,ah,aj,aj,ak,al,am,undef,ai,au,av,av,N,aw,undef,undef,undef,undef,undef,undef,undef,undef,undef,undef,undef,undef,undef,undef] h)) (ob (aF (cK N) h) λax h=>ob (eI prog 3 200 ax h) λay h=>ob (eI prog 3 200 P h) λaz h=>ob (O (.func 119) [ay,az] h) λba h=>ob (aF (ext 0 ba) h) λbb h=>ob (aF (ext 1 ba) h) λbc h=>ob (aF (bin prog .gtr 200 bb (.int .u64 0)) h) λbd h=>ob (gd bd false (c9 bc) h) λbe h=>ob (gd bd false (aF (bin prog .gtr 200 be (.int .u64 9223372036854775807))) h) λbf h=>ob (aF (dO bd (.bool true) bf) h) λbg h=>aN bg (ob (dW /- operation -/ h) λbh h=>ob (dW /- operation -/ h) λbi h=>ob (eI prog 200 3 bc h) λbj h=>ob (lD 3 1 8 [(.I 0)] bj bj h) λbk h=>ob (cpy 1 bk N h) λbl h=>L (aM prog O L aLc) (aLh O L) [N,P,undef,undef,(.slice none 0 0),bb,bc,bk,bl,P,aa,undef,ba,N,ax,ay,P,az,ba,bb,bc,bb,bd,bd,be,bf,bg,bh,bc,bj,bk,bk,N,bl,undef,undef,undef,undef,undef,undef,undef,undef,undef,undef,undef,undef,undef,undef] h) (ob (eI prog 200 3 bc h) λbm h=>ob (lD 3 1 8 [(.I 0)] bm bm h) λbn h=>ob (cpy 1 bn N h) λbo h=>L (aM prog O L Oq) (Ot O L) [N,P,undef,undef,(.slice none 0 0),bb,bc,bn,bo,P,aa,undef,ba,N,ax,ay,P,az,ba,bb,bc,bb,bd,bd,be,bf,bg,undef,bc,bm,bn,bn,N,bo,undef,undef,undef,undef,undef,undef,undef,undef,undef,undef,undef,undef,undef,undef] h)):=by kernel_rfl
def Ou:Code:=bU [1,1,0,1,0,0] (cE prog 98)
def Ov:KV:=(dP 0 (dY prog O L (bU [1,1,1] (cE prog 98)) (eQ prog Tryz.f98)))
theorem aLi:Ov O L (.exit 0) [a,b,c,d,e,f,g,i,j,l,m,n,o,p,q,r,s,t,u,v,w,x,y,z,A,B,C,D,E,F,G,H,I,J,zz,zy,zx,zw,zv,zu,zt,zs,zr,zq,zp,zo,zn,zm,zl,zk,zj,zi,zh,zg,zf,ze,zd] h=some (aL [i],h):=by kernel_rfl
theorem Zr:aM prog O L Ou k [a,b,c,d,e,f,g,i,j,l,m,n,o,p,q,r,s,t,u,v,w,x,y,z,A,B,C,D,E,F,G,H,I,J,zz,zy,zx,zw,zv,zu,zt,zs,zr,zq,zp,zo,zn,zm,zl,zk,zj,zi,zh,zg,zf,ze,zd] h=ob (aF (bin prog .lss 3 s r) h) λaa h=>aN aa (ob (aF (bS 1 q s) h) λab h=>ob (ld1 ab h) λac h=>ob (aF (aT b) h) λad h=>ob (aF (aJ 1 ad) h) λae h=>ob (ld1 ae h) λaf h=>ifB (true) (ob (aF (bin prog .and 23 ac af) h) λag h=>ob (aF (aT a) h) λah h=>ob (aF (aJ 0 ah) h) λai h=>ob (ld1 ai h) λaj h=>ifB (true) (ob (aF (bS 1 aj s) h) λak h=>ob (ld1 ak h) λal h=>ifB (true) (ob (aF (cK c) h) λam h=>ob (O (.func 99) [ag,al,am] h) λan h=>ifB (true) (ob (aF (bin prog .neq 3 an (.I (-1))) h) λao h=>ob (gd ao true (c9 b) h) λap h=>ob (gd ao true (aF (aT ap)) h) λaq h=>ob (gd ao true (aF (aJ 2 aq)) h) λar h=>ob (gd ao true (ld1 ar) h) λau h=>ob (gd ao true (c9 s) h) λav h=>ob (gd ao true (O (.func 122) [au,av]) h) λaw h=>ob (aF (dO ao aw (.bool false)) h) λax h=>aN ax (ob (aF (bS 1 i an) h) λay h=>ob (ld1 ay h) λaz h=>ifB (true) (ob (aF (bin prog .shl 23 (.int .u16 1) s) h) λba h=>ob (aF (bin prog .or 23 az ba) h) λbb h=>ob (aF (bS 1 i an) h) λbc h=>ob (stN 1 bc bb h) λbd h=>ifB (true) (ob (aF (bin prog .add 3 s (.I 1)) h) λbe h=>k .normal [a,b,c,d,e,f,g,i,s,ac,an,n,o,p,q,r,be,aa,s,ab,ac,ac,b,ad,ae,af,ag,a,ah,ai,aj,s,ak,al,c,am,an,an,ao,ao,ap,aq,ar,au,av,aw,ax,i,an,ay,az,s,ba,bb,bc,be,zd] h))) (ob (aF (bin prog .add 3 s (.I 1)) h) λbf h=>k .normal [a,b,c,d,e,f,g,i,s,ac,an,n,o,p,q,r,bf,aa,s,ab,ac,ac,b,ad,ae,af,ag,a,ah,ai,aj,s,ak,al,c,am,an,an,ao,ao,ap,aq,ar,au,av,aw,ax,zm,zl,zk,zj,zi,zh,zg,zf,bf,zd] h)))))) (k (.exit 0) [a,b,c,d,e,f,g,i,j,l,m,n,o,p,q,r,s,aa,u,v,w,x,y,z,A,B,C,D,E,F,G,H,I,J,zz,zy,zx,zw,zv,zu,zt,zs,zr,zq,zp,zo,zn,zm,zl,zk,zj,zi,zh,zg,zf,ze,zd] h):=by kernel_rfl
theorem aLj:cL prog O L 98 [N,P,Q] h=ob (aF (cK Q) h) λaa h=>ob (lD 23 1 2 [(.int .u16 0)] aa aa h) λab h=>ob (aF (cK Q) h) λac h=>L (aM prog O L Ou) (Ov O L) [N,P,Q,undef,undef,undef,(.slice none 0 0),ab,undef,undef,undef,Q,aa,ab,Q,ac,(.I 0),undef,undef,undef,undef,undef,undef,undef,undef,undef,undef,undef,undef,undef,undef,undef,undef,undef,undef,undef,undef,undef,undef,undef,undef,undef,undef,undef,undef,undef,undef,undef,undef,undef,undef,undef,undef,undef,undef,undef,undef] h:=by kernel_rfl
def Ng:Code:=bU [1,1,0,1,0,0] (cE prog 100)
def Nh:KV:=(dP 0 (dY prog O L (bU [1,1,1] (cE prog 100)) (eQ prog Tryz.f100)))
theorem aJ9:Nh O L (.exit 0) [a,b,c,d,e,f,g,i,j,l,m,n,o,p,q,r,s,t,u,v,w,x,y,z,A,B,C,D,E,F,G,H,I,J,zz,zy,zx,zw,zv,zu,zt,zs,zr,zq,zp,zo,zn,zm,zl,zk] h=some (aL [i],h):=by kernel_rfl
theorem Y5:aM prog O L Ng k [a,b,c,d,e,f,g,i,j,l,m,n,o,p,q,r,s,t,u,v,w,x,y,z,A,B,C,D,E,F,G,H,I,J,zz,zy,zx,zw,zv,zu,zt,zs,zr,zq,zp,zo,zn,zm,zl,zk] h=ob (aF (bin prog .lss 3 q p) h) λaa h=>aN aa (ob (aF (aT a) h) λab h=>ob (aF (aJ 15 ab) h) λac h=>ob (ld1 ac h) λad h=>ob (O (.func 62) [ad,b,c,q] h) λae h=>ob (aF (bin prog .eql 3 ae (.I 0)) h) λaf h=>aN af (ob (aF (bin prog .add 3 q (.I 1)) h) λag h=>k .normal [a,b,c,d,e,f,g,i,q,l,m,n,o,p,ag,aa,q,a,ab,ac,ad,b,c,q,ae,af,C,D,E,F,G,H,I,J,zz,zy,zx,zw,zv,zu,zt,zs,zr,zq,zp,zo,zn,zm,ag,zk] h) (ob (aF (bin prog .eql 3 c (.I 0)) h) λah h=>ob (gd ah false (c9 a) h) λai h=>ob (gd ah false (aF (aT ai)) h) λaj h=>ob (gd ah false (aF (aJ 13 aj)) h) λak h=>ob (gd ah false (ld1 ak) h) λal h=>ob (gd ah false (c9 c) h) λam h=>ob (gd ah false (aF (bS 3 al am)) h) λan h=>ob (gd ah false (aF (aJ 1 an)) h) λao h=>ob (gd ah false (ld1 ao) h) λap h=>ob (gd ah false (c9 q) h) λaq h=>ob (gd ah false (aF (bS 2 ap aq)) h) λar h=>ob (gd ah false (aF (aJ 0 ar)) h) λau h=>ob (gd ah false (ld1 au) h) λav h=>ob (gd ah false (O (.func 31) [av]) h) λaw h=>ob (gd ah false (aF (bin prog .gtr 3 aw (.I 0))) h) λax h=>ob (aF (dO ah (.bool true) ax) h) λay h=>aN ay (ob (aF (bin prog .shl 23 (.int .u16 1) q) h) λaz h=>ob (aF (bin prog .or 23 i az) h) λba h=>ob (aF (bin prog .add 3 q (.I 1)) h) λbb h=>k .normal [a,b,c,d,e,f,g,ba,q,l,m,n,o,p,bb,aa,q,a,ab,ac,ad,b,c,q,ae,af,c,ah,ah,ai,aj,ak,al,am,an,ao,ap,aq,ar,au,av,aw,ax,ay,i,q,az,ba,bb,zk] h) (ob (aF (bin prog .add 3 q (.I 1)) h) λbc h=>k .normal [a,b,c,d,e,f,g,i,q,l,m,n,o,p,bc,aa,q,a,ab,ac,ad,b,c,q,ae,af,c,ah,ah,ai,aj,ak,al,am,an,ao,ap,aq,ar,au,av,aw,ax,ay,zp,zo,zn,zm,bc,zk] h))) (k (.exit 0) [a,b,c,d,e,f,g,i,j,l,m,n,o,p,q,aa,s,t,u,v,w,x,y,z,A,B,C,D,E,F,G,H,I,J,zz,zy,zx,zw,zv,zu,zt,zs,zr,zq,zp,zo,zn,zm,zl,zk] h):=by kernel_rfl
theorem aKa:cL prog O L 100 [N,P,Q] h=ob (aF (aT N) h) λaa h=>ob (aF (aJ 1 aa) h) λab h=>ob (aF (aJ 2 ab) h) λac h=>ob (ld1 ac h) λad h=>L (aM prog O L Ng) (Nh O L) [N,P,Q,undef,undef,undef,(.int .u16 0),(.int .u16 0),undef,N,aa,ab,ac,ad,(.I 0),undef,undef,undef,undef,undef,undef,undef,undef,undef,undef,undef,undef,undef,undef,undef,undef,undef,undef,undef,undef,undef,undef,undef,undef,undef,undef,undef,undef,undef,undef,undef,undef,undef,undef,undef] h:=by kernel_rfl
theorem aKb:cL prog O L 101 [N,P] h=ob (aF (aT N) h) λaa h0=>ob (aF (aJ 0 aa) h0) λab h1=>ob (ld1 ab h1) λac h2=>ob (aF (cK ac) h2) λad h3=>ob (aF (bin prog .shl 23 (.int .u16 1) ad) h3) λae h4=>ob (aF (bin prog .sub 23 ae (.int .u16 1)) h4) λaf h5=>ob (aF (bin prog .and 23 P af) h5) λag h6=>ob (aF (bin prog .eql 23 ag (.int .u16 0)) h6) λah h7=>aN ah (some (aL [(.I (-1))],h7)) (ob (O (.func 123) [N] h7) λai h8=>ob (aF (bin prog .and 23 ag ai) h8) λaj h9=>ob (aF (bin prog .eql 23 aj (.int .u16 0)) h9) λak h10=>aN ak (ob (aF (aT N) h10) λal h11=>ob (aF (aJ 1 al) h11) λam h12=>ob (ld1 am h12) λan h13=>ifB (true) (ob (aF (aT N) h13) λao h14=>ob (aF (aJ 0 ao) h14) λap h15=>ob (ld1 ap h15) λaq h16=>ifB (true) (ob (cpy 1 an aq h16) λar h17=>ifB (true) (ob (O (.func 123) [N] h17) λau h18=>ifB (true) (ob (aF (bin prog .and 23 ag au) h18) λav h19=>ob (aF (aT N) h19) λaw h20=>ob (aF (aJ 2 aw) h20) λax h21=>ob (ld1 ax h21) λay h22=>ifB (chk ((ld1 ax) h17) ay&&(true)) (ob (O (.func 99) [av,ay,ad] h22) λaz h23=>ifB (true) (ob (aF (aT N) h23) λba h24=>ob (aF (aJ 1 ba) h24) λbb h25=>ob (ld1 bb h25) λbc h26=>ob (aF (bS 1 bc az) h26) λbd h27=>ob (ld1 bd h27) λbe h28=>ob (aF (bin prog .sub 3 be (.I 1)) h28) λbf h29=>ob (aF (bS 1 bc az) h29) λbg h30=>ob (stN 1 bg bf h30) λbh h31=>ob (aF (bin prog .add 3 az (.I 1)) h31) λbi h32=>ob (aF (bin prog .rem 3 bi ad) h32) λbj h33=>ob (aF (aT N) h33) λbk h34=>ob (aF (aJ 2 bk) h34) λbl h35=>ob (stN 1 bl bj h35) λbm h36=>some (aL [az],h36)))))))) (ob (O (.func 123) [N] h10) λbn h37=>ifB (true) (ob (aF (bin prog .and 23 ag bn) h37) λbo h38=>ob (aF (aT N) h38) λbp h39=>ob (aF (aJ 2 bp) h39) λbq h40=>ob (ld1 bq h40) λbr h41=>ifB (chk ((ld1 bq) h10) br&&(true)) (ob (O (.func 99) [bo,br,ad] h41) λbs h42=>ifB (true) (ob (aF (aT N) h42) λbt h43=>ob (aF (aJ 1 bt) h43) λbu h44=>ob (ld1 bu h44) λbv h45=>ob (aF (bS 1 bv bs) h45) λbw h46=>ob (ld1 bw h46) λbx h47=>ob (aF (bin prog .sub 3 bx (.I 1)) h47) λbz h48=>ob (aF (bS 1 bv bs) h48) λca h49=>ob (stN 1 ca bz h49) λcb h50=>ob (aF (bin prog .add 3 bs (.I 1)) h50) λcc h51=>ob (aF (bin prog .rem 3 cc ad) h51) λcd h52=>ob (aF (aT N) h52) λce h53=>ob (aF (aJ 2 ce) h53) λcf h54=>ob (stN 1 cf cd h54) λcg h55=>some (aL [bs],h55)))))):=by kernel_rfl
theorem aKc:cL prog O L 103 [N] h=ob (aF (aT N) h) λaa h=>ob (aF (aJ 1 aa) h) λab h=>ob (ld1 ab h) λac h=>ob (aF (bin prog .eql 3 ac (.I 0)) h) λad h=>aN ad (some (aL [(.bool false)],h)) (ob (aF (aT N) h) λae h=>ob (aF (aJ 1 ae) h) λaf h=>ob (ld1 af h) λag h=>ob (aF (bin prog .sub 3 ag (.I 1)) h) λah h=>ob (aF (aT N) h) λai h=>ob (aF (aJ 1 ai) h) λaj h=>ob (stN 1 aj ah h) λak h=>some (aL [(.bool true)],h)):=by kernel_rfl
theorem aKd:cL prog O L 104 [N,P] h=ob (dD 39 (Value.cells P).toList .fix h) λaa h=>ob (aF (aT N) h) λab h=>ob (aF (aJ 3 ab) h) λac h=>ob (ld1 ac h) λad h=>ifB (true) (ob (ldN 4 aa h) λae h=>ifB (true) (ob (dR 39 4 1 [(.I 0),(.I 0),(.I 0),(.int .u32 0)] [(0,ae)] h) λaf h=>ob (app 39 4 32 ad af h) λag h=>ifB (true) (ob (aF (aT N) h) λah h=>ob (aF (aJ 3 ah) h) λai h=>ob (stN 1 ai ag h) λaj h=>ifB (true) (some (aL [],h))))):=by kernel_rfl
theorem aKe:cL prog O L 105 [N] h=ob (aF (aT N) h) λaa h=>ob (aF (aJ 0 aa) h) λab h=>ob (ldN 2 ab h) λac h=>ob (O (.func 73) [ac] h) λad h=>ob (aF (bin prog .eql 3 ad (.I 0)) h) λae h=>aN ae (some (aL [(.int .u64 0),(.bool false)],h)) (ob (aF (aT N) h) λaf h=>ob (aF (aJ 0 af) h) λag h=>ob (aF (aJ 0 ag) h) λah h=>ob (ld1 ah h) λai h=>ob (aF (aT N) h) λaj h=>ob (aF (aJ 0 aj) h) λak h=>ob (aF (aJ 0 ak) h) λal h=>ob (ld1 al h) λam h=>ob (aF (bin prog .add 82 am (.int .u64 1)) h) λan h=>ob (aF (aT N) h) λao h=>ob (aF (aJ 0 ao) h) λap h=>ob (aF (aJ 0 ap) h) λaq h=>ob (stN 1 aq an h) λar h=>some (aL [ai,(.bool true)],h)):=by kernel_rfl
def Ni:Code:=bU [1,1,0,1,0,0] (cE prog 106)
def Nj:KV:=(dP 0 (dY prog O L (bU [1,1,1] (cE prog 106)) (eQ prog Tryz.f106)))
theorem aKf:Nj O L (.exit 0) [a,b,c,d,e,f,g,i,j,l,m,n,o,p,q,r,s,t,u] h=some (aL [d],h):=by kernel_rfl
theorem Y6:aM prog O L Ni k [a,b,c,d,e,f,g,i,j,l,m,n,o,p,q,r,s,t,u] h=ob (aF (bin prog .lss 3 j i) h) λaa h=>aN aa (ob (aF (bS 1 g j) h) λab h=>ob (ld1 ab h) λac h=>ob (aF (bin prog .shl 37 d (.int .u64 8)) h) λad h=>ob (eI prog 5 37 ac h) λae h=>ob (aF (bin prog .or 37 ad ae) h) λaf h=>ob (aF (bin prog .add 3 j (.I 1)) h) λag h=>k .normal [a,b,c,af,e,ac,g,i,ag,aa,ab,ac,d,ad,ac,ae,af,ag,u] h) (k (.exit 0) [a,b,c,d,e,f,g,i,j,aa,m,n,o,p,q,r,s,t,u] h):=by kernel_rfl
theorem aKg:cL prog O L 106 [N] h=ob (aF (cK N) h) λaa h=>L (aM prog O L Ni) (Nj O L) [N,undef,(.int .u32 0),(.int .u32 0),undef,undef,N,aa,(.I 0),undef,undef,undef,undef,undef,undef,undef,undef,undef,undef] h:=by kernel_rfl
theorem aK1:cL prog O L 75 [N,P] h=ob (aF (bin prog .sub 82 N (.int .u64 32768)) h) λaa h=>ob (O (.func 107) [aa] h) λab h=>ob (aF (bin prog .sub 23 P ab) h) λac h=>ob (eI prog 23 82 ac h) λad h=>ob (aF (bin prog .add 82 aa ad) h) λae h=>some (aL [ae],h):=by kernel_rfl
def Nk:Code:=bU [1,1,0,0] (cE prog 114)
def Nl (O:aG)(L:LV):KV:=(dP 0 (eQ prog Tryz.f114))
theorem aKi:Nl O L (.exit 0) [a,b,c,d,e,f,g,i,j,l,m,n,o,p,q,r,s] h=some (aL [],h):=by kernel_rfl
theorem Y7:aM prog O L Nk k [a,b,c,d,e,f,g,i,j,l,m,n,o,p,q,r,s] h=ob (aF (bin prog .lss 3 o (.I 8)) h) λaa h=>aN aa (ob (O (.func 138) [a] h) λab h=>ob (aF (bin prog .add 3 o (.I 1)) h) λac h=>k .normal [a,b,c,d,e,f,g,i,j,l,m,n,ac,aa,a,ab,ac] h) (k (.exit 0) [a,b,c,d,e,f,g,i,j,l,m,n,o,aa,q,r,s] h):=by kernel_rfl
theorem aKj:cL prog O L 114 [N,P] h=ob (aF (aT N) h) λaa h=>ob (ld1 aa h) λab h=>ob (eI prog 5 208 P h) λac h=>ob (aF (bin prog .shl 208 ac (.int .u64 8)) h) λad h=>ob (aF (bin prog .xor 208 ab ad) h) λae h=>ob (aF (aT N) h) λaf h=>ob (stN 1 af ae h) λag h=>L (aM prog O L Nk) (Nl O L) [N,P,undef,undef,N,aa,ab,P,ac,ad,ae,af,(.I 0),undef,undef,undef,undef] h:=by kernel_rfl
theorem aKn:cL prog O L 118 [N,P] h=ob (dD 114 (Value.cells N).toList .fix h) λaa h=>ob (aF (aJ 0 aa) h) λab h=>ob (ld1 ab h) λac h=>ob (ld1 P h) λad h=>ob (aF (bin prog .eql 3 ac ad) h) λae h=>some (aL [ae],h):=by kernel_rfl
theorem aKp:cL prog O L 122 [N,P] h=ob (aF (bin prog .geq 3 P (.I 0)) h) λaa h=>ob (gd aa true (c9 P) h) λab h=>ob (gd aa true (aF (bin prog .lss 3 ab (.I 16))) h) λac h=>ob (aF (dO aa ac (.bool false)) h) λad h=>ob (gd ad true (c9 N) h) λae h=>ob (gd ad true (c9 P) h) λaf h=>ob (gd ad true (aF (bin prog .shr 23 ae af)) h) λag h=>ob (gd ad true (aF (bin prog .and 23 ag (.int .u16 1))) h) λah h=>ob (gd ad true (aF (bin prog .eql 23 ah (.int .u16 1))) h) λai h=>ob (aF (dO ad ai (.bool false)) h) λaj h=>some (aL [aj],h):=by kernel_rfl
def Nn:Code:=bU [1,1,0,1,0,0] (cE prog 123)
def No:KV:=(dP 0 (dY prog O L (bU [1,1,1] (cE prog 123)) (eQ prog Tryz.f123)))
theorem aKq:No O L (.exit 0) [a,b,c,d,e,f,g,i,j,l,m,n,o,p,q,r,s,t,u,v,w,x,y,z] h=some (aL [d],h):=by kernel_rfl
theorem Y9:aM prog O L Nn k [a,b,c,d,e,f,g,i,j,l,m,n,o,p,q,r,s,t,u,v,w,x,y,z] h=ob (aF (bin prog .lss 3 n m) h) λaa h=>aN aa (ob (aF (bS 1 l n) h) λab h=>ob (ld1 ab h) λac h=>ob (aF (bin prog .gtr 3 ac (.I 0)) h) λad h=>aN ad (ob (aF (bin prog .shl 23 (.int .u16 1) n) h) λae h=>ob (aF (bin prog .or 23 d ae) h) λaf h=>ob (aF (bin prog .add 3 n (.I 1)) h) λag h=>k .normal [a,b,c,af,n,ac,g,i,j,l,m,ag,aa,n,ab,ac,ac,ad,d,n,ae,af,ag,z] h) (ob (aF (bin prog .add 3 n (.I 1)) h) λah h=>k .normal [a,b,c,d,n,ac,g,i,j,l,m,ah,aa,n,ab,ac,ac,ad,u,v,w,x,ah,z] h)) (k (.exit 0) [a,b,c,d,e,f,g,i,j,l,m,n,aa,p,q,r,s,t,u,v,w,x,y,z] h):=by kernel_rfl
theorem aKr:cL prog O L 123 [N] h=ob (aF (aT N) h) λaa h=>ob (aF (aJ 1 aa) h) λab h=>ob (ld1 ab h) λac h=>ob (aF (cK ac) h) λad h=>L (aM prog O L Nn) (No O L) [N,undef,(.int .u16 0),(.int .u16 0),undef,undef,N,aa,ab,ac,ad,(.I 0),undef,undef,undef,undef,undef,undef,undef,undef,undef,undef,undef,undef] h:=by kernel_rfl
theorem aKh:cL prog O L 107 [N] h=ob (eI prog 82 23 N h) λaa h=>some (aL [aa],h):=by kernel_rfl
theorem aKs:cL prog O L 138 [N] h=ob (aF (aT N) h) λaa h=>ob (ld1 aa h) λab h=>ob (aF (bin prog .and 208 ab (.int .u16 32768)) h) λac h=>ob (aF (aT N) h) λad h=>ob (ld1 ad h) λae h=>ob (aF (bin prog .shl 208 ae (.int .u64 1)) h) λaf h=>ob (aF (aT N) h) λag h=>ob (stN 1 ag af h) λah h=>ob (aF (bin prog .neq 208 ac (.int .u16 0)) h) λai h=>aN ai (ob (aF (aT N) h) λaj h=>ob (ld1 aj h) λak h=>ob (aF (bin prog .xor 208 ak (.int .u16 4129)) h) λal h=>ob (aF (aT N) h) λam h=>ob (stN 1 am al h) λan h=>some (aL [],h)) (some (aL [],h)):=by kernel_rfl
theorem aKo:cL prog O L 119 [N,P] h=aN (.bool false) (ob (eI prog 200 37 N h) λaa h=>ob (eI prog 200 37 P h) λab h=>ob (O (.func 139) [aa,ab] h) λac h=>ob (aF (ext 0 ac) h) λad h=>ob (aF (ext 1 ac) h) λae h=>ob (eI prog 37 200 ad h) λaf h=>ob (eI prog 37 200 ae h) λag h=>some (aL [af,ag],h)) (ob (O (.func 140) [N,P] h) λah h=>ob (aF (ext 0 ah) h) λai h=>ob (aF (ext 1 ah) h) λaj h=>some (aL [ai,aj],h)):=by kernel_rfl
theorem aKt:cL prog O L 140 [N,P] h=ob (aF (bin prog .and 82 N (.int .u64 4294967295)) h) λaa h=>ob (aF (bin prog .shr 82 N (.int .u64 32)) h) λab h=>ob (aF (bin prog .and 82 P (.int .u64 4294967295)) h) λac h=>ob (aF (bin prog .shr 82 P (.int .u64 32)) h) λad h=>ob (aF (bin prog .mul 82 aa ac) h) λae h=>ob (aF (bin prog .mul 82 ab ac) h) λaf h=>ob (aF (bin prog .shr 82 ae (.int .u64 32)) h) λag h=>ob (aF (bin prog .add 82 af ag) h) λah h=>ob (aF (bin prog .and 82 ah (.int .u64 4294967295)) h) λai h=>ob (aF (bin prog .shr 82 ah (.int .u64 32)) h) λaj h=>ob (aF (bin prog .mul 82 aa ad) h) λak h=>ob (aF (bin prog .add 82 ai ak) h) λal h=>ob (aF (bin prog .mul 82 ab ad) h) λam h=>ob (aF (bin prog .add 82 am aj) h) λan h=>ob (aF (bin prog .shr 82 al (.int .u64 32)) h) λao h=>ob (aF (bin prog .add 82 an ao) h) λap h=>ob (aF (bin prog .mul 82 N P) h) λaq h=>some (aL [ap,aq],h):=by kernel_rfl
end Go.Proofs.YtndnnndnhnlkdaaGreatDoor
end
namespace Go.Abs
open M
theorem Zu: ∀(cs:List Value)(o:Nat)(v:Value),eS cs o [v]=cs.set o v
 |[],_,_=>by simp[eS]
 |c::cs,0,v=>by simp[eS]
 |c::cs,o+1,v=>by
  rw[List.set_cons_succ,<-Zu cs o v];simp[eS]
theorem dI {H:aE}{b o:Nat}{cs:List Value}{e:TypeId}{k:Kind}{v:Value}(h:H[b]? =some (.cells cs e k))(hv:cs[o]? =some v):ld1 (.pointer (some ⟨b,o,none⟩)) H=some (v,H):=by
 rw[j9,h,tP,hv,vW]
theorem qA {H:aE}{b o n:Nat}{cs:List Value}{e:TypeId}{k:Kind}(h:H[b]? =some (.cells cs e k))(hn:o+n<=cs.length):ldN n (.pointer (some ⟨b,o,none⟩)) H=some (.agg ((cs.drop o).take n).toArray,H):=by
 rw[tA,h,tQ _ _ _ _ _ hn]
theorem pP {H:aE}{b o:Nat}{cs:List Value}{e:TypeId}{k:Kind}{v:Value}(h:H[b]? =some (.cells cs e k))(hk:k≠ .ro)(ho:o<cs.length)(hv:v.cells.toList=[v])(ha:dX [v]=true):
  stN 1 (.pointer (some ⟨b,o,none⟩)) v H=some (undef,H.set b (.cells (cs.set o v) e k)):=by
 rw[mE 1 b o v (by rw[hv];rfl),h,hv,nX b cs e k o [v] hk (by simp only[aRw,List.length_nil];omega) ha,Zu]
theorem uG {H:aE}{b o n:Nat}{cs vs:List Value}{e:TypeId}{k:Kind}{v:Value}(h:H[b]? =some (.cells cs e k))(hk:k≠ .ro)(hv:v.cells.toList=vs)(hn:vs.length=n)(ho:o+n<=cs.length)(ha:dX vs=true):
  stN n (.pointer (some ⟨b,o,none⟩)) v H=some (undef,H.set b (.cells (eS cs o vs) e k)):=by
 subst hv;rw[mE n b o v hn,h,nX b cs e k o _ hk (by rw[hn];exact ho) ha]
theorem mZ {H:aE}{b o:Nat}{cs:List Value}{e:TypeId}{k:Kind}{q:IntKind}{n:Int}(h:H[b]? =some (.cells cs e k))(hk:k≠ .ro)(ho:o<cs.length):
  stN 1 (.pointer (some ⟨b,o,none⟩)) (.int q n) H=some (undef,H.set b (.cells (cs.set o (.int q n)) e k)):=pP h hk ho rfl rfl
theorem fS {H:aE}{b:Nat}{x y:Blk}(h:H[b]? =some x):(H.set b y)[b]? =some y:=aRg (aRa.mp h).1
theorem Zv (H:aE)(b:Nat)(x y:Blk):(H.set b x).set b y=H.set b y:=by simp
theorem eC (H:aE)(x:Blk):(H++[x])[H.length]? =some x:=by simp
theorem lO (H:aE)(x y:Blk):(H++[x]).set H.length y=H++[y]:=by simp
theorem oO {H:aE}{b:Nat}{x:Blk}(h:H[b]? =some x)(y:Blk):(H++[y])[b]? =some x:=by rw[aRd (aRa.mp h).1,h]
theorem dT {H:aE}{b:Nat}{x:Blk}(h:H[b]? =some x):b<H.length:=(aRa.mp h).1
theorem aLl (a b:Nat):IntKind.u64.wrap ((a:Int)+b)=(((a+b)%18446744073709551616:Nat):Int):=by rw[xY];omega
theorem aLn (a b:Nat)(ha:a<65536)(hb:b<65536):IntKind.u16.wrap ((a:Int)-b)=(((a+65536-b)%65536:Nat):Int):=by rw[B3];omega
theorem Ad (a:Nat)(ha:a<18446744073709551616):IntKind.u64.wrap (a:Int)=a:=aGg U U
theorem Zs (a:Nat)(ha:a<4294967296):IntKind.u32.wrap (a:Int)=a:=aEB U U
theorem Cu (a:Nat):IntKind.u16.wrap (a:Int)=((a%65536:Nat):Int):=by rw[B3];omega
theorem aLm (a:Nat):IntKind.u8.wrap (a:Int)=((a%256:Nat):Int):=by rw[B4];omega
theorem Zt (a:Nat)(ha:a<9223372036854775808):IntKind.i64.wrap (a:Int)=a:=dJ U U
theorem Br.ext {H H':aE}{u:Value}{bs:List UInt8}(h:Br H u bs)(he:Ext H H'):Br H' u bs:=by
 rcases h with h|⟨b,o,c,cs,e,k,h1,h2,h3,h4⟩
 ·exact .inl h
 ·exact .inr ⟨b,o,c,cs,e,k,h1,h2,by rw[he.2 b (dT h3) id,h3],h4⟩
theorem Rs.aLk {α:Type}{el:α->List Value}{e:TypeId}{sz:Nat}{H:aE}{v:Value}{xs:List α}{P:Program}(hsz: ∀x,(el x).length=sz)(he:P.cellsOf e=sz)(h:Rs el e H v xs)(hne:xs≠[]):
  ∃b o cap,v= .slice (some ⟨b,o,none⟩) xs.length cap/\xs.length<=cap/\ ∀(H':aE),Rs el e H' v xs-> ∀(l r:Nat)(lo hi mx:Option Value)(c:Nat),bnd 0 lo=some l->bnd xs.length hi=some r->bnd cap mx=some c->l<=r->r<=xs.length->r<=c->c<=cap->
   slc P sz v lo hi mx H'=some (.slice (some ⟨b,o+l*sz,none⟩) (r-l) (c-l),H')/\Rs el e H' (.slice (some ⟨b,o+l*sz,none⟩) (r-l) (c-l)) ((xs.take r).drop l):=by
 rcases h with⟨_,h⟩|⟨b,o,cap,rfl,h3,h4⟩
 ·exact absurd h hne
 ·refine⟨b,o,cap,rfl,h3,λH' h' l r lo hi mx c h1 h2 h5 hlr hr hrc hcc=> ?_⟩
  rcases h' with⟨_,h⟩|⟨b',o',cap',heq,h3',h4'⟩
  ·exact absurd h hne
  ·cases heq
   have hl:=tR (xs.map el) (uX hsz);have hlen:((xs.take r).drop l).length=r-l:=by simp;omega
   obtain⟨e',k,pre,post,rfl,hk,hb⟩:=h4' hne;refine⟨uZ (sz:=sz) hb (λh=>by rw[hk h];exact he) h1 h2 h5 hlr hrc hcc,.inr ⟨b,_,c-l,by rw[hlen],by rw[hlen];omega,λ_=>⟨e',k,pre++((xs.take l).map el).flatten,((xs.drop r).map el).flatten++post,?_,hk,?_⟩⟩⟩
   ·have hf:=tR ((xs.take l).map el) (uX hsz)
    rw[aRo,List.length_take,Nat.min_eq_left U] at hf
    rw[aRm,hf]
   ·rw[hb]
    have:xs=xs.take l++((xs.take r).drop l++xs.drop r):=by
     conv=>lhs;rw[<-List.take_append_drop l xs]
     congr 1
     have:=List.take_append_drop (r-l) (xs.drop l);rw[aRT,List.take_drop] at this;rw[show l+(r-l)=r by omega] at this
     exact this.symm
    congr 2
    conv=>lhs;rw[this]
    simp only[List.map_append,List.flatten_append,aRh]
structure Pkt where
 src:Int
 dst:Int
 lane:Int
 body:Int
deriving DecidableEq
def Pkt.pA (x:Pkt):List Value:=[.int .i64 x.src,.int .i64 x.dst,.int .i64 x.lane,.int .u32 x.body]
def Pkt.dV (x:Pkt):Value:= .agg ⟨x.pA⟩
def pk0:Pkt:=⟨0,0,0,0⟩
structure Pkt.ok (x:Pkt):Prop where
 src: -9223372036854775808<=x.src/\x.src<9223372036854775808
 dst: -9223372036854775808<=x.dst/\x.dst<9223372036854775808
 lane: -9223372036854775808<=x.lane/\x.lane<9223372036854775808
 body:0<=x.body/\x.body<4294967296
abbrev fW:=Int×Int×Int
def yH (r:Nat):Nat:=if r<32768 then r*2 else(r*2-65536)^^^4129
theorem Zx {r:Nat}(h:r<65536):yH r<65536:=by
 unfold yH;split
 ·omega
 ·exact Nat.xor_lt_two_pow (n:=16) U U
def Cv:Nat->Nat->Nat
 |0,r=>r
 |k+1,r=>Cv k (yH r)
theorem Z0: ∀(k:Nat){r:Nat},r<65536->Cv k r<65536
 |0,_,h=>h
 |k+1,_,h=>Z0 k (Zx h)
def vA (r:Nat)(c:UInt8):Nat:=Cv 8 (r^^^c.toNat*256)
theorem Zz {r:Nat}(h:r<65536)(c:UInt8):r^^^c.toNat*256<65536:=Nat.xor_lt_two_pow (n:=16) h (by have:=c.toNat_lt;omega)
theorem aLo {r:Nat}(h:r<65536)(c:UInt8):vA r c<65536:=Z0 8 (Zz h c)
attribute [irreducible] vA
def crc (bs:List UInt8):Nat:=bs.foldl vA 65535
theorem Z1 (bs:List UInt8): ∀{r:Nat},r<65536->bs.foldl vA r<65536:=by
 induction bs with
 |nil=>exact λh=>h
 |cons c bs ih=>
  intro r h;rw[List.foldl_cons];exact ih (aLo h c)
theorem Ow (bs:List UInt8):crc bs<65536:=Z1 bs aC
theorem Zy {r:Nat}(h:r<65536):(r&&&32768=0)↔r<32768:=by
 have e:r&&&32768=if r<32768 then 0 else 32768:=by
  apply Nat.eq_of_testBit_eq;intro i;rw[Nat.testBit_and];have hb:Nat.testBit 32768 i=decide (15=i):=Nat.testBit_two_pow (n:=15) (m:=i);by_cases hi:15=i
  ·subst hi
   rw[hb];split
   ·rename_i hl
    rw[Nat.testBit_lt_two_pow (i:=15) U]
    rfl
   ·rename_i hl
    have:r.testBit 15=true:=by
     rw[Nat.testBit_eq_decide_div_mod_eq];have:r/2 ^ 15=1:=U
     rw[this];rfl
    rw[this];rfl
  ·rw[hb,aRV hi,Bool.and_false]
   split
   ·simp
   ·rw[hb,aRV hi]
 rw[e]
 split<;>omega
def qC (near s:Nat):Nat:=((near+18446744073709518848)%18446744073709551616+(s+65536-(near+18446744073709518848)%18446744073709551616%65536)%65536)%18446744073709551616
structure Frm where
 kind:Nat
 lane:Nat
 seq:Nat
 src:Nat
 dst:Nat
 body:Nat
deriving DecidableEq
structure Frm.ok (f:Frm):Prop where
 kind:f.kind<256
 lane:f.lane<256
 seq:f.seq<65536
 src:f.src<256
 dst:f.dst<256
 body:f.body<4294967296
def Frm.pB:Frm:=⟨0,0,0,0,0,0⟩
def fT (f:Frm):Bool:=decide (f.lane<=2)&&(if f.kind=1 then decide (f.src<=5)&&decide (f.dst<=5)&&decide (f.src≠f.dst) else(decide (f.kind=2)||decide (f.kind=3))&&decide (f.src=0)&&decide (f.dst=0)&&decide (f.body=0))
def by8 (n:Nat):UInt8:=UInt8.ofNat n
def kY (n:Nat):List UInt8:=[by8 (n/256),by8 n]
def Gx (f:Frm):List UInt8:=by8 f.kind::by8 f.lane::kY f.seq
def q8 (f:Frm):List UInt8:=Gx f++if f.kind=1 then by8 f.src::by8 f.dst::(kY (f.body/65536)++kY f.body) else []
def Cw (f:Frm):List UInt8:=q8 f++kY (crc (q8 f))
def Cx (f:Frm):Option (List UInt8):=if fT f=true then some (Cw f) else none
def gT (bs:List UInt8):Nat:=bs.foldl (λn c=>n*256+c.toNat) 0
def nP (bs:List UInt8):Frm:=⟨(bs.getD 0 0).toNat,(bs.getD 1 0).toNat,gT [bs.getD 2 0,bs.getD 3 0],0,0,0⟩
def rZ (bs:List UInt8):Frm:={nP bs with src:=(bs.getD 4 0).toNat,dst:=(bs.getD 5 0).toNat,body:=gT [bs.getD 6 0,bs.getD 7 0,bs.getD 8 0,bs.getD 9 0]}
def Ae (b s:List UInt8)(f:Frm):Option Frm:=if crc b=gT s/\fT f=true then some f else none
def qB (bs:List UInt8):Option Frm:=
 if bs.length=6/\(bs.getD 0 0).toNat≠1 then Ae (bs.take 4) (bs.drop 4) (nP bs)
 else if bs.length=12/\(bs.getD 0 0).toNat=1 then Ae (bs.take 10) (bs.drop 10) (rZ bs)
 else none
theorem Gw (n:Nat):(by8 n).toNat=n%256:=by simp[by8]
theorem aLq (a b:UInt8):gT [a,b]=a.toNat*256+b.toNat:=by simp[gT]
theorem Zw {n:Nat}{c:UInt8}(h:n%256=c.toNat):by8 n=c:=by
 apply UInt8.toNat_inj.mp;rw[Gw,h]
theorem aLp (f:Frm):(Cw f).length=if f.kind=1 then 12 else 6:=by
 unfold Cw q8 Gx kY
 split<;>simp
attribute [irreducible] crc fT
structure Cfg where
 nodes:Nat
 lanes:Nat
 room:Nat
 queue:Nat
 rounds:Nat
 every:Nat
 weights:List Int
 start:Nat
 me:Nat
 by':List Nat
 port:Nat->Nat
def Cfg.aI (c:Cfg):Nat:=c.by'.length+1
structure Cfg.ok (c:Cfg):Prop where
 nodes:2<=c.nodes/\c.nodes<=6
 lanes:1<=c.lanes/\c.lanes<=3
 room:1<=c.room/\c.room<=8
 queue:1<=c.queue/\c.queue<=8
 rounds:1<=c.rounds/\c.rounds<=4
 every:1<=c.every/\c.every<=8
 wlen:c.weights.length=c.lanes
 wts: ∀x∈c.weights,1<=x/\x<=5
 start:c.start<65536
 me:c.me<c.nodes
 by':c.by'.length<=5
 byN: ∀w∈c.by',w<c.nodes/\w≠c.me
 byD:c.by'.Nodup
 port: ∀d,d<c.nodes->c.port d<c.aI
structure Snd where
 s:Nat
 l:Nat
deriving DecidableEq
structure Rcv where
 n:Nat
 h:Nat
deriving DecidableEq
def Snd.mH (x:Snd):Nat:=x.l-x.s
def Snd.oP (x:Snd):Nat×Snd:=if x.l=x.s then(0,x) else(x.s,⟨x.s+1,x.l⟩)
def Rcv.sA (x:Rcv)(room:Nat):Nat:=x.n+(room-x.h)
def Rcv.vB (x:Rcv):Rcv:=⟨x.n,x.h-1⟩
structure NS where
 hL:List Pkt
 hG:List Pkt
 rL:List (fW×Pkt)
 snd:Nat->Nat->Snd
 rcv:Nat->Nat->Rcv
 g:List Nat
 a:List Nat
 whl:Nat->Whl
 ticks:Nat
def NS.m9 (c:Cfg):NS:=⟨[],[],[],λ_ _=>⟨c.start,c.start+c.room⟩,λ_ _=>⟨c.start,0⟩,List.replicate c.aI 0,List.replicate c.aI 0,λ_=>⟨c.weights,0⟩,0⟩
def eV (L:List Pkt)(k:Int):List Pkt:=L.filter λx=>decide (x.lane=k)
def sD (L:List Pkt)(k:Int):List Pkt:=L.eraseP λx=>decide (x.lane=k)
def oR (L:List (fW×Pkt))(w:fW):List Pkt:=(L.filter λe=>decide (e.1=w)).map (·.2)
def pC (L:List (fW×Pkt))(w:fW):List (fW×Pkt):=L.eraseP λe=>decide (e.1=w)
def Gy (w:fW)(ports lanes:Nat):Bool:=decide (0<=w.1)&&decide (w.1<ports)&&decide (0<=w.2.1)&&decide (w.2.1<ports)&&decide (0<=w.2.2)&&decide (w.2.2<lanes)
def yI (c:Cfg)(L:List (fW×Pkt))(w:fW)(x:Pkt):List (fW×Pkt):=
 if Gy w c.aI c.lanes=true/\L.length<c.aI*c.lanes*c.room then L++[(w,x)] else L
def sI (c:Cfg)(x:Pkt)(s:NS):Nat×NS:=
 if¬(0<=x.lane/\x.lane<c.lanes) then(1,s)
 else if(eV s.hL x.lane).length=c.queue then(150,s)
 else(0,{s with hL:=s.hL++[x]})
def qE (c:Cfg)(x:Pkt)(s:NS):Nat×NS:=
 if x.src≠c.me∨x.dst<0∨(c.nodes:Int)<=x.dst∨x.dst=c.me then(1,s) else sI c x s
def up2 {α:Type}(f:Nat->Nat->α)(i k:Nat)(x:α):Nat->Nat->α:=λj l=>if j=i/\l=k then x else f j l
def up1 {α:Type}(f:Nat->α)(i:Nat)(x:α):Nat->α:=λj=>if j=i then x else f j
def mJ (L:List (fW×Pkt))(i o k:Nat):Nat:=(oR L (i,o,k)).length
def Af (c:Cfg)(L:List (fW×Pkt))(k:Nat):Nat:=((List.range c.aI).map λo=>mJ L 0 o k).sum
def oH (c:Cfg)(s:NS)(k:Nat):NS:=
 if c.room<=Af c s.rL k then s
 else match eV s.hL k with
  |[]=>s
  |x::_=>{s with hL:=sD s.hL k,rL:=yI c s.rL (0,(c.port x.dst.toNat:Int),k) x}
def lA (c:Cfg)(s:NS):NS:=(List.range c.lanes).foldl (oH c) s
def jZ (c:Cfg)(s:NS)(i o k:Nat):Bool:=decide (k<c.lanes)&&decide (0<mJ s.rL i o k)&&(decide (o=0)||decide (0<(s.snd o k).mH))
def mI (c:Cfg)(s:NS)(i o:Nat):Bool:=decide (i<c.aI)&&decide (o<c.aI)&&(List.range c.lanes).any (jZ c s i o)
def sH (f:Frm):List UInt8:=(Cx f).getD []
abbrev kO:=List (Nat×List UInt8)
def uI (c:Cfg)(o:Nat)(f:Frm):Nat×List UInt8:=(c.by'.getD (o-1) 0,sH f)
def uH (s:NS)(i k:Nat):Nat->Nat->Rcv:=if i=0 then s.rcv else up2 s.rcv i k (s.rcv i k).vB
def oQ (c:Cfg)(s:NS)(i o:Nat):NS×kO:=
 match lH c.weights (s.whl o) (jZ c s i o) with
 |(none,_)=>(s,[])
 |(some k,w)=>
  let x:=(oR s.rL (i,o,k)).headD pk0
  let s1:={s with whl:=up1 s.whl o w,rL:=pC s.rL (i,o,k),rcv:=uH s i k}
  if o=0 then({s1 with hG:=s1.hG++[x]},[])
  else({s1 with snd:=up2 s1.snd o k (s1.snd o k).oP.2},[uI c o ⟨1,k,(s1.snd o k).oP.1%65536,(x.src%256).toNat,(x.dst%256).toNat,x.body.toNat⟩])
def qF (c:Cfg)(m:List Int):List Nat->NS×kO->NS×kO
 |[],s=>s
 |i::l,s=>qF c m l (if 0<=m.getD i 0 then((oQ c s.1 i (m.getD i 0).toNat).1,s.2++(oQ c s.1 i (m.getD i 0).toNat).2) else s)
def qD (c:Cfg)(s:NS):kO:=
 (List.range c.by'.length).flatMap λi=>(List.range c.lanes).flatMap λk=>
  [uI c (i+1) ⟨3,k,(s.snd (i+1) k).s%65536,0,0,0⟩,uI c (i+1) ⟨2,k,(s.rcv (i+1) k).sA c.room%65536,0,0,0⟩]
def sJ (c:Cfg)(s:NS):NS×kO:=
 let s1:=lA c s
 let t:=o6 (mI c s1) c.aI c.rounds s1.g s1.a
 let r:=qF c t.m (List.range c.aI) ({s1 with g:=t.g,a:=t.a},[])
 ({r.1 with ticks:=s.ticks+1},if(s.ticks+1)%c.every=0 then r.2++qD c r.1 else r.2)
end Go.Abs
namespace Go.Proofs.YtndnnndnhnlkdaaGreatDoor
open Go.Proofs.Tryz
open Go.Abs Go.Abs.M
structure Put1 (H:aE)(b:Nat)(y:Blk)(H':aE):Prop where
 le:H.length<=H'.length
 at_:H'[b]? =some y
 keep: ∀c,c<H.length->c≠b->H'[c]? =H[c]?
theorem Put1.aLs {H:aE}{b:Nat}{y:Blk}(h:H[b]? =some y):Put1 H b y H:=⟨aRf _,h,λ_ _ _=>rfl⟩
theorem Put1.Z2 {H:aE}{b:Nat}{x y:Blk}(h:H[b]? =some x):Put1 H b y (H.set b y):=⟨by simp,fS h,λc _ hc=>aRb (Ne.symm hc)⟩
theorem Put1.ext {H H':aE}{b:Nat}{y:Blk}(h:H[b]? =some y)(he:Ext H H'):Put1 H b y H':=⟨he.1,by rw[he.2 b (dT h) id,h],λc hc _=>he.2 c hc id⟩
theorem Put1.aLr {H H1 H':aE}{b:Nat}{y:Blk}(he:Ext H H1)(h:Put1 H1 b y H'):Put1 H b y H':=⟨aRq he.1 h.le,h.at_,λc hc hcb=>by rw[h.keep c (aRp hc he.1) hcb,he.2 c hc id]⟩
section
variable {H : aE} {m : Nat}
theorem vD:prog.underlying 82=some (.int .u64):=by kernel_rfl
theorem nQ:prog.underlying 23=some (.int .u16):=by kernel_rfl
theorem iU:prog.underlying 3=some (.int .i64):=by kernel_rfl
theorem u8U:prog.underlying 5=some (.int .u8):=by kernel_rfl
theorem aLw:prog.underlying 208=some (.int .u16):=by kernel_rfl
theorem aLx (hm:0<m)(n:Nat):lvl prog pkN m (.func 107) [.int .u64 n] H=some (.int .u16 ((n%65536:Nat):Int),H):=by
 refine dH (cV rfl) hm ?_;rw[aKh];simp only[gsR,hZ _ _ vD nQ,Cu]
theorem aLz (hm:1<m)(near s:Nat)(hn:near<18446744073709551616)(hs:s<65536):lvl prog pkN m (.func 75) [.int .u64 near,.int .u16 s] H=some (.int .u64 (qC near s),H):=by
 refine dH (cV rfl) U ?_
 rw[aK1];have e1:IntKind.u64.wrap ((near:Int)-32768)=(((near+18446744073709518848)%18446744073709551616:Nat):Int):=by rw[xY];omega
 have e2:=aLx (H:=H) (m:=m-1) U ((near+18446744073709518848)%18446744073709551616)
 have e3:=aLn s ((near+18446744073709518848)%18446744073709551616%65536) hs U
 have e4:=Ad ((s+65536-(near+18446744073709518848)%18446744073709551616%65536)%65536) U
 simp only[gsR,j8,e1,e2,e3,hZ _ _ nQ vD,e4,cU,aLl];rfl
def mP (r:Nat):Blk:= .cells [.int .u16 r] 208 .fix
theorem aLt (hm:0<m){b r:Nat}(hb:H[b]? =some (mP r))(hr:r<65536):lvl prog pkN m (.func 138) [.Q b 0] H=some (aL [],H.set b (mP (yH r))):=by
 refine dH (cV rfl) hm ?_;rw[aKs];have e1:ld1 (.Q b 0) H=some (.int .u16 r,H):=dI hb rfl;have e2:bin prog .and 208 (.int .u16 (r:Int)) (.int .u16 32768)=some (.int .u16 ((r&&&32768:Nat):Int)):=xX .u16 rfl _ (a:=r) (b:=32768) hr aC
 have e3:bin prog .shl 208 (.int .u16 (r:Int)) (.int .u64 1)=some (.int .u16 ((r*2%65536:Nat):Int)):=E8 .u16 .u64 rfl _ r 1 aC
 have e4:stN 1 (.Q b 0) (.int .u16 ((r*2%65536:Nat):Int)) H=some (undef,H.set b (mP (r*2%65536))):=mZ hb aC Nat.zero_lt_one
 have e5:ld1 (.Q b 0) (H.set b (mP (r*2%65536)))=some (.int .u16 ((r*2%65536:Nat):Int),H.set b (mP (r*2%65536))):=dI (fS hb) rfl;have e6:bin prog .xor 208 (.int .u16 ((r*2%65536:Nat):Int)) (.int .u16 4129)=some (.int .u16 (((r*2%65536)^^^4129:Nat):Int)):=Vv .u16 rfl _ (a:=r*2%65536) (b:=4129) (by show _<65536;omega) aC
 have e7:stN 1 (.Q b 0) (.int .u16 (((r*2%65536)^^^4129:Nat):Int)) (H.set b (mP (r*2%65536)))=some (undef,(H.set b (mP (r*2%65536))).set b (mP ((r*2%65536)^^^4129))):=mZ (fS hb) aC Nat.zero_lt_one
 by_cases hc:r<32768
 ·have h0:(r&&&32768:Nat)=0:=(Zy hr).mpr hc
  have k1:((((r&&&32768:Nat):Int))!=0)=false:=by rw[h0];rfl
  simp only[gsR,e1,e2,e3,e4,k1];rw[yH,if_pos hc,aRI U]
 ·have h0: ¬(r&&&32768:Nat)=0:=λh=>hc ((Zy hr).mp h)
  have k1:((((r&&&32768:Nat):Int))!=0)=true:=by simp[h0]
  simp only[gsR,e1,e2,e3,e4,e5,e6,e7,k1,Zv];rw[yH,if_neg hc,show r*2%65536=r*2-65536 by omega]
theorem aLv {b:Nat}{H0:aE}: ∀(q i k r:Nat)(H:aE),8-i=q->i<=8->q<k->10<m->H=H0.set b (mP r)->b<H0.length->r<65536->
  ∀x1 x2 x3 x4 x5 x6 x7 x8 x9 bQ cG aP aQ aO bB:Value,aK k (aM prog (lvl prog pkN (m-1)) (aK (m-1)) Nk) (Nl (lvl prog pkN (m-1)) (aK (m-1))) [(.Q b 0),x1,x2,x3,x4,x5,x6,x7,x8,x9,bQ,cG,(.I i),aP,aQ,aO,bB] H=some (aL [],H0.set b (mP (Cv (8-i) r))):=by
 intro q;induction q with
 |zero=>
  intro i k r H hq hi hk hm hH hb hr x1 x2 x3 x4 x5 x6 x7 x8 x9 bQ cG aP aQ aO bB;obtain⟨k,rfl⟩: ∃k',k=k'+1:=⟨k-1,by omega⟩
  have hi8:i=8:=U
  subst hi8;have c1:decide (((8:Nat):Int)<8)=false:=by decide
  rw[aK,Y7];simp only[gsR,c1];rw[aKi];rw[hH];rfl
 |succ q ih=>
  intro i k r H hq hi hk hm hH hb hr x1 x2 x3 x4 x5 x6 x7 x8 x9 bQ cG aP aQ aO bB;obtain⟨k,rfl⟩: ∃k',k=k'+1:=⟨k-1,by omega⟩
  have c1:decide ((i:Int)<8)=true:=by rw[decide_eq_true_eq];omega
  have hg:H[b]? =some (mP r):=by rw[hH,aRg hb]
  have e1:=aLt (m:=m-1) U hg hr
  have e2:=aA (i:=i) U
  rw[aK,Y7];simp only[gsR,c1,e1,cU,e2];rw[ih (i+1) k (yH r) _ U U U hm (by rw[hH,Zv]) hb (Zx hr)]
  rw[show 8-i=(8-(i+1))+1 by omega,Cv]
theorem aLu (hm:10<m){b r:Nat}(hb:H[b]? =some (mP r))(hr:r<65536)(c:UInt8):lvl prog pkN m (.func 114) [.Q b 0,j7 c] H=some (aL [],H.set b (mP (vA r c))):=by
 refine dH (cV rfl) U ?_
 rw[aKj];have hc:=c.toNat_lt;have e1:ld1 (.Q b 0) H=some (.int .u16 r,H):=dI hb rfl;have e2:eI prog 5 208 (j7 c) H=some (.int .u16 c.toNat,H):=by
  show eI prog 5 208 (.int .u8 c.toNat) H=_
  rw[hZ _ _ u8U aLw,K0 U U]
 have e3:bin prog .shl 208 (.int .u16 (c.toNat:Int)) (.int .u64 8)=some (.int .u16 ((c.toNat*256:Nat):Int)):=by
  have:=E8 (P:=prog) .u16 .u64 rfl 208 c.toNat 8 aC
  rw[show c.toNat*2 ^ 8%2 ^ IntKind.u16.bits=c.toNat*256 from by show c.toNat*256%65536=_;omega] at this
  exact this
 have e4:bin prog .xor 208 (.int .u16 (r:Int)) (.int .u16 ((c.toNat*256:Nat):Int))=some (.int .u16 ((r^^^c.toNat*256:Nat):Int)):=Vv .u16 rfl _ (a:=r) (b:=c.toNat*256) hr (by show _<65536;omega)
 have e5:stN 1 (.Q b 0) (.int .u16 ((r^^^c.toNat*256:Nat):Int)) H=some (undef,H.set b (mP (r^^^c.toNat*256))):=mZ hb aC Nat.zero_lt_one
 simp only[gsR,e1,e2,e3,e4,e5];refine(aLv (m:=m) 8 0 (m-1) (r^^^c.toNat*256) _ rfl U U U rfl (dT hb) (Zz hr c) _ _ _ _ _ _ _ _ _ _ _ _ _ _ _).trans ?_
 unfold vA;rfl
theorem aLy {u:Value}{bs:List UInt8}{H0:aE}(hu:Br H0 u bs): ∀(q i k:Nat)(H:aE),bs.length-i=q->i<=bs.length->q<k->20<m->bs.length<4611686018427387904->H=H0++[mP ((bs.take i).foldl vA 65535)]->
  ∀x0 x1 x2 x4 x5 x9 bQ cG aS aP aQ aO:Value,aK k (aM prog (lvl prog pkN (m-1)) (aK (m-1)) On) (Oo (lvl prog pkN (m-1)) (aK (m-1))) [x0,x1,x2,(.Q H0.length 0),x4,x5,u,(.I bs.length),(.I i),x9,bQ,cG,aS,aP,aQ,aO] H=some (.int .u16 (crc bs),H0++[mP (crc bs)]):=by
 intro q;induction q with
 |zero=>
  intro i k H hq hi hk hm hl hH x0 x1 x2 x4 x5 x9 bQ cG aS aP aQ aO;obtain⟨k,rfl⟩: ∃k',k=k'+1:=⟨k-1,by omega⟩
  have hi8:i=bs.length:=U
  subst hi8;have c1:decide ((bs.length:Int)<(bs.length:Int))=false:=by simp
  have hf:(bs.take bs.length).foldl vA 65535=crc bs:=by rw[List.take_length];unfold crc;rfl
  rw[hf] at hH;have e1:ld1 (.Q H0.length 0) H=some (.int .u16 (crc bs),H):=by rw[hH];exact dI (eC _ _) rfl
  rw[aK,Zp];simp only[gsR,c1];rw[aK6];simp only[gsR,e1];rw[hH]
 |succ q ih=>
  intro i k H hq hi hk hm hl hH x0 x1 x2 x4 x5 x9 bQ cG aS aP aQ aO;obtain⟨k,rfl⟩: ∃k',k=k'+1:=⟨k-1,by omega⟩
  have c1:decide ((i:Int)<(bs.length:Int))=true:=by rw[decide_eq_true_eq];omega
  have hx:bs[i]? =some bs[i]:=aRc U
  have hu':Br H u bs:=hu.ext (by rw[hH];exact Fr.app _ _ _)
  obtain⟨b,o,a1,a2⟩:=hu'.aFL hx .i64;have hg:H[H0.length]? =some (mP ((bs.take i).foldl vA 65535)):=by rw[hH];exact eC _ _
  have e1:=aLu (m:=m-1) U hg (Z1 _ aC) bs[i]
  have e2:=aA (i:=i) U
  rw[aK,Zp];simp only[gsR,c1,a1,a2,e1,cU,e2];refine ih (i+1) k _ U U U hm hl ?_ _ _ _ _ _ _ _ _ _ _ _ _
  rw[hH,lO,List.take_add_one,hx,List.foldl_append];rfl
theorem Ox {u:Value}{bs:List UInt8}(hu:Br H u bs)(hm:20<m)(hl:bs.length+1<m)(hl2:bs.length<4611686018427387904):lvl prog pkN m (.func 92) [u] H=some (.int .u16 (crc bs),H++[mP (crc bs)]):=by
 refine dH (cV rfl) U ?_
 rw[aK7];have e1:stN 1 (.Q H.length 0) (.int .u16 65535) (H++[.cells [.int .u16 0] 208 .fix])=some (undef,H++[mP 65535]):=by
  rw[mZ (eC _ _) aC Nat.zero_lt_one,lO]
  rfl
 simp only[gsR,e1,hu.aFO];exact aLy hu bs.length 0 (m-1) _ U U U hm hl2 rfl _ _ _ _ _ _ _ _ _ _ _ _
end
def nB (x:Snd):Blk:= .cells [.int .u64 x.s,.int .u64 x.l] 146 .fix
def nA (x:Rcv)(room:Nat):Blk:= .cells [.int .u64 x.n,.int .i64 x.h,.int .i64 room] 148 .fix
structure SndOk (x:Snd):Prop where
 le:x.s<=x.l
 wide:x.l<=x.s+8
 big:x.l<4611686018427387904
structure RcvOk (x:Rcv)(room:Nat):Prop where
 h:x.h<=room
 room:room<=8
 big:x.n<4611686018427387904
section
variable {H : aE} {m : Nat} {b : Nat}
theorem Z6 (hm:0<m){x:Snd}(hx:SndOk x):lvl prog pkN m (.func 73) [.agg #[.int .u64 x.s,.int .u64 x.l]] H=some (.I x.mH,H++[.cells [.int .u64 x.s,.int .u64 x.l] 144 .fix]):=by
 have:=hx.le;have:=hx.wide;have:=hx.big;refine dH (cV rfl) hm ?_;rw[aK0];have e0:(Value.cells (.agg #[.int .u64 x.s,.int .u64 x.l])).toList=[.int .u64 x.s,.int .u64 x.l]:=rfl;have e1:ld1 (.Q H.length 1) (H++[.cells [.int .u64 x.s,.int .u64 x.l] 144 .fix])=some (.int .u64 x.l,H++[.cells [.int .u64 x.s,.int .u64 x.l] 144 .fix]):=dI (eC _ _) rfl;have e2:ld1 (.Q H.length 0) (H++[.cells [.int .u64 x.s,.int .u64 x.l] 144 .fix])=some (.int .u64 x.s,H++[.cells [.int .u64 x.s,.int .u64 x.l] 144 .fix]):=dI (eC _ _) rfl;have e3:IntKind.u64.wrap ((x.l:Int)-x.s)=((x.mH:Nat):Int):=by rw[xY,Snd.mH];omega
 have e4:=Zt x.mH (by unfold Snd.mH;omega)
 simp only[gsR,e0,e1,e2,j8,e3,hZ _ _ vD iU,e4]
theorem Oy {x:Snd}(hb:H[b]? =some (nB x)):ldN 2 (.Q b 0) H=some (.agg #[.int .u64 x.s,.int .u64 x.l],H):=qA hb (aRf 2)
theorem Z7 (hm:1<m){x:Snd}(hb:H[b]? =some (nB x))(hx:SndOk x):lvl prog pkN m (.func 31) [.Q b 0] H=some (.I x.mH,H++[.cells [.int .u64 x.s,.int .u64 x.l] 144 .fix]):=by
 refine dH (cV rfl) U ?_
 rw[aKB];simp only[gsR,Oy hb,Z6 (H:=H) (m:=m-1) U hx]
theorem Oz (hm:0<m){x:Snd}(hb:H[b]? =some (nB x)):lvl prog pkN m (.func 38) [.Q b 0] H=some (.int .u64 x.s,H):=by
 refine dH (cV rfl) U ?_
 rw[aKG];have e1:ld1 (.Q b 0) H=some (.int .u64 x.s,H):=dI hb rfl;simp only[gsR,e1]
theorem aLD (hm:0<m){x:Snd}(hb:H[b]? =some (nB x)):lvl prog pkN m (.func 33) [.Q b 0] H=some (.int .u64 x.l,H):=by
 refine dH (cV rfl) U ?_
 rw[aKD];have e1:ld1 (.Q b 1) H=some (.int .u64 x.l,H):=dI hb rfl;simp only[gsR,e1]
theorem aLF (hm:1<m){x:Snd}(hb:H[b]? =some (nB x))(hx:SndOk x): ∃H',lvl prog pkN m (.func 105) [.Q b 0] H=some (.tuple #[.int .u64 x.oP.1,.bool (decide (x.l≠x.s))],H')/\Put1 H b (nB x.oP.2) H':=by
 have:=hx.le;have:=hx.wide;have:=hx.big;refine mF (cV rfl) U ?_
 rw[aKe];have e0:=Z6 (H:=H) (m:=m-1) U hx
 have hx1:Ext H (H++[Blk.cells [.int .u64 x.s,.int .u64 x.l] 144 .fix]):=Fr.app _ _ _;have hb1:=oO hb (Blk.cells [.int .u64 x.s,.int .u64 x.l] 144 .fix);by_cases hc:x.l=x.s
 ·have c1:((x.mH:Int)==0)=true:=by simp[Snd.mH,hc]
  have d1:x.oP=(0,x):=by simp[Snd.oP,hc]
  have d2:decide (x.l≠x.s)=false:=by simp[hc]
  simp only[gsR,Oy hb,e0,c1,d1,d2]
  exact⟨_,rfl,Put1.ext hb hx1⟩
 ·have c1:((x.mH:Int)==0)=false:=by simp[Snd.mH];omega
  have d1:x.oP=(x.s,⟨x.s+1,x.l⟩):=by simp[Snd.oP,hc]
  have d2:decide (x.l≠x.s)=true:=by simp[hc]
  have e1:ld1 (.pointer (some ⟨b,0,none⟩)) (H++[Blk.cells [.int .u64 x.s,.int .u64 x.l] 144 .fix])=some (.int .u64 x.s,_):=dI hb1 rfl;have e2:IntKind.u64.wrap ((x.s:Int)+1)=((x.s+1:Nat):Int):=by rw[xY];omega
  have e3:stN 1 (.pointer (some ⟨b,0,none⟩)) (.int .u64 ((x.s+1:Nat):Int)) (H++[Blk.cells [.int .u64 x.s,.int .u64 x.l] 144 .fix])=some (undef,(H++[Blk.cells [.int .u64 x.s,.int .u64 x.l] 144 .fix]).set b (nB ⟨x.s+1,x.l⟩)):=mZ hb1 aC (by simp)
  simp only[gsR,Oy hb,e0,c1,e1,cU,e2,e3,d1,d2]
  exact⟨_,rfl,Put1.aLr hx1 (Put1.Z2 hb1)⟩
theorem aLE (hm:0<m)(start room:Nat)(h1:start<65536)(h2:1<=room/\room<=8):lvl prog pkN m (.func 52) [.int .u64 start,.I room] H=some (.Q H.length 0,H++[nB ⟨start,start+room⟩]):=by
 refine dH (cV rfl) U ?_
 rw[aKI];have c1:decide (4611686018427387904<=(start:Int))=false:=by rw[decide_eq_false_iff_not];omega
 have c2:decide ((room:Int)<1)=false:=by rw[decide_eq_false_iff_not];omega
 have c3:decide (8<(room:Int))=false:=by rw[decide_eq_false_iff_not];omega
 have e1:IntKind.u64.wrap (room:Int)=room:=Ad room U
 have e2:IntKind.u64.wrap ((start:Int)+room)=((start+room:Nat):Int):=by rw[xY];omega
 have e3:bld prog 144 [(0,.int .u64 start),(1,.int .u64 ((start+room:Nat):Int))]=some (.agg #[.int .u64 start,.int .u64 ((start+room:Nat):Int)]):=rfl;have e4:bld prog 146 [(0,.agg #[.int .u64 start,.int .u64 ((start+room:Nat):Int)])]=some (.agg #[.int .u64 start,.int .u64 ((start+room:Nat):Int)]):=rfl;simp only[gsR,c1,c2,c3,hZ _ _ iU vD,e1,cU,e2,e3,e4];rfl
theorem aLC (hm:0<m)(start room:Nat)(h1:start<65536)(h2:1<=room/\room<=8):lvl prog pkN m (.func 53) [.int .u64 start,.I room] H=some (.Q H.length 0,H++[nA ⟨start,0⟩ room]):=by
 refine dH (cV rfl) U ?_
 rw[aKJ];have c1:decide (4611686018427387904<=(start:Int))=false:=by rw[decide_eq_false_iff_not];omega
 have c2:decide ((room:Int)<1)=false:=by rw[decide_eq_false_iff_not];omega
 have c3:decide (8<(room:Int))=false:=by rw[decide_eq_false_iff_not];omega
 have e3:bld prog 148 [(0,.int .u64 start),(2,.I room)]=some (.agg #[.int .u64 start,.I 0,.I room]):=rfl;simp only[gsR,c1,c2,c3,e3];rfl
section
variable {x : Rcv} {room : Nat}
theorem Ag (hb:H[b]? =some (nA x room)):ld1 (.Q b 0) H=some (.int .u64 x.n,H)/\ld1 (.Q b 1) H=some (.I x.h,H)/\ld1 (.Q b 2) H=some (.I room,H):=⟨dI hb rfl,dI hb rfl,dI hb rfl⟩
theorem Z4 (hm:0<m)(hb:H[b]? =some (nA x room)):lvl prog pkN m (.func 37) [.Q b 0] H=some (.int .u64 x.n,H):=by
 refine dH (cV rfl) U ?_
 rw[aKF];simp only[gsR,(Ag hb).1]
theorem aLB (hm:0<m)(hb:H[b]? =some (nA x room)):lvl prog pkN m (.func 34) [.Q b 0] H=some (.I x.h,H):=by
 refine dH (cV rfl) U ?_
 rw[aKE];simp only[gsR,(Ag hb).2.1]
theorem Z3 (hx:RcvOk x room):IntKind.i64.wrap ((room:Int)-x.h)=((room-x.h:Nat):Int)/\IntKind.u64.wrap ((room-x.h:Nat):Int)=((room-x.h:Nat):Int):=by
 have:=hx.h;have:=hx.room
 exact⟨by rw[dJ U U];omega,Ad _ U⟩
theorem Z5 (hm:0<m)(hb:H[b]? =some (nA x room))(hx:RcvOk x room):lvl prog pkN m (.func 32) [.Q b 0] H=some (.int .u64 (x.sA room),H):=by
 have:=hx.h;have:=hx.room;have:=hx.big;refine dH (cV rfl) U ?_
 rw[aKC];have e:IntKind.u64.wrap ((x.n:Int)+((room-x.h:Nat):Int))=((x.sA room:Nat):Int):=by rw[xY,Rcv.sA];omega
 simp only[gsR,(Ag hb).1,(Ag hb).2.1,(Ag hb).2.2,j8,(Z3 hx).1,(Z3 hx).2,hZ _ _ iU vD,cU,e]
theorem aLA (hm:0<m)(hb:H[b]? =some (nA x room))(hx:RcvOk x room): ∃H' u,lvl prog pkN m (.func 103) [.Q b 0] H=some (u,H')/\Put1 H b (nA x.vB room) H':=by
 have:=hx.h;have:=hx.room;refine iB (cV rfl) U ?_
 rw[aKc];obtain⟨l0,l1,l2⟩:=Ag hb;by_cases c:x.h=0
 ·have c1:((x.h:Int)==0)=true:=by simp[c]
  simp only[gsR,l1,c1];refine⟨_,_,rfl,?_⟩;have d:x.vB=x:=by unfold Rcv.vB;rw[c];cases x;simp at c;subst c;rfl
  rw[d];exact Put1.aLs hb
 ·have c1:((x.h:Int)==0)=false:=by simp[c]
  have e5:IntKind.i64.wrap ((x.h:Int)-1)=((x.h-1:Nat):Int):=by rw[dJ U U];omega
  have e6:stN 1 (.Q b 1) (.I ((x.h-1:Nat):Int)) H=some (undef,H.set b (nA x.vB room)):=mZ hb aC (by simp)
  simp only[gsR,l1,c1,j8,e5,e6]
  exact⟨_,_,rfl,Put1.Z2 hb⟩
end
end
def frC (f:Frm):List Value:=[.int .u8 f.kind,.int .u8 f.lane,.int .u16 f.seq,.int .u8 f.src,.int .u8 f.dst,.int .u32 f.body]
def frV (f:Frm):Value:= .agg ⟨frC f⟩
def frB (f:Frm):Blk:= .cells (frC f) 130 .fix
def byC (b:UInt8):List Value:=[j7 b]
theorem Gz (b:UInt8):(byC b).length=1:=rfl
theorem Z8 (b:UInt8):dX (byC b)=true:=rfl
theorem uJ: ∀bs:List UInt8,(bs.map byC).flatten=bs.map j7
 |[]=>rfl
 |b::bs=>by simp[byC,uJ bs]
abbrev By (H:aE)(v:Value)(bs:List UInt8):Prop:=Rw byC 5 1 H v bs
theorem By.br {H:aE}{v:Value}{bs:List UInt8}(h:By H v bs):Br H v bs:=by
 rcases h.rs with⟨h1,h2⟩|⟨b,o,cap,h1,h2,h3⟩
 ·exact .inl ⟨h2,.inl h1⟩
 ·by_cases hb:bs=[]
  ·exact .inl ⟨hb,.inr ⟨b,o,cap,by rw[h1,hb];rfl⟩⟩
  ·obtain⟨e',k,pre,post,h4,_,h5⟩:=h3 hb
   refine .inr ⟨b,o,cap,_,e',k,h1,List.length_pos_iff.mpr hb,h5,?_,?_⟩
   ·rw[uJ]
    simp;omega
   ·rw[uJ,<-h4,aRh,List.drop_left]
    have:bs.length=(bs.map j7).length:=by simp
    rw[this,List.take_left]
section
variable {H : aE} {m : Nat}
theorem qH:prog.underlying 37=some (.int .u32):=by kernel_rfl
theorem kFr:rH prog 130=some [true,true,true,true,true,true]:=by kernel_rfl
def G9 (x y:Frm):Bool:=((x.kind:Int)==y.kind)&&(((x.lane:Int)==y.lane)&&(((x.seq:Int)==y.seq)&&(((x.src:Int)==y.src)&&(((x.dst:Int)==y.dst)&&(((x.body:Int)==y.body)&&true)))))
theorem eFr (x y:Frm):bin prog .eql 130 (frV x) (frV y)=some (.bool (G9 x y)):=by
 simp[bin,frV,eD,nG,kFr,eqT,frC,G9]
theorem He (a b:Int):mV prog true [.int .u8 a,.int .u8 b]=some (.int .u8 (max a b)):=by
 simp[mV,eD,gZ,pur,Builtin.max_,Builtin.max2,pure,bind,Sem.bind]
 split<;>omega
theorem qG {b:Nat}{f:Frm}(hb:H[b]? =some (frB f)):ld1 (.Q b 0) H=some (.int .u8 f.kind,H)/\ld1 (.Q b 1) H=some (.int .u8 f.lane,H)/\ld1 (.Q b 2) H=some (.int .u16 f.seq,H)/\
  ld1 (.Q b 3) H=some (.int .u8 f.src,H)/\ld1 (.Q b 4) H=some (.int .u8 f.dst,H)/\ld1 (.Q b 5) H=some (.int .u32 f.body,H)/\ldN 6 (.Q b 0) H=some (frV f,H):=
 ⟨dI hb rfl,dI hb rfl,dI hb rfl,dI hb rfl,dI hb rfl,dI hb rfl,qA hb (aRf 6)⟩
theorem yJ (a b:Nat):((a:Int)==(b:Int))=decide (a=b):=by
 by_cases h:a=b
 ·simp[h]
 ·simp[h];omega
theorem Cy (a b:Nat):((a:Int)!=(b:Int))=decide (a≠b):=by
 by_cases h:a=b
 ·simp[h]
 ·simp[h];omega
theorem Z9 (hm:0<m)(f:Frm):lvl prog pkN m (.func 89) [frV f] H=some (.bool (fT f),H++[frB f]):=by
 refine dH (cV rfl) hm ?_;rw[aK3];have e0:(Blk.cells (Value.cells (frV f)).toList 130 .fix)=frB f:=rfl;obtain⟨l0,l1,l2,l3,l4,l5,l6⟩:=qG (eC H (frB f));have k1:((f.kind:Int)==1)=decide (f.kind=1):=yJ f.kind 1;have k2:((f.kind:Int)==2)=decide (f.kind=2):=yJ f.kind 2;have k3:((f.kind:Int)==3)=decide (f.kind=3):=yJ f.kind 3;have k4:decide ((f.lane:Int)<3)=decide (f.lane<=2):=by congr 1;exact propext U
 have k5:decide (max (f.src:Int) (f.dst:Int)<6)=decide (f.src<=5/\f.dst<=5):=by congr 1;exact propext U
 have k6:((f.src:Int)!=(f.dst:Int))=decide (f.src≠f.dst):=Cy _ _;have b1:bld prog 130 [(0,.int .u8 f.kind),(1,.int .u8 f.lane),(2,.int .u16 f.seq)]=some (frV ⟨f.kind,f.lane,f.seq,0,0,0⟩):=rfl;have b2:G9 f ⟨f.kind,f.lane,f.seq,0,0,0⟩=decide (f.src=0/\f.dst=0/\f.body=0):=by
  simp only[G9,yJ,decide_true,aRx,Bool.and_true];rw[<-Bool.decide_and,<-Bool.decide_and]
 by_cases p1:f.kind=1
 ·by_cases p2:f.lane<=2
  ·by_cases p3:f.src<=5/\f.dst<=5
   ·by_cases p4:f.src≠f.dst
    ·have hs:fT f=true:=by unfold fT;simp[p1,p2,p3.1,p3.2,p4]
     simp only[gsR,e0,l0,l1,l3,l4,He,k1,k4,k5,k6,aRU p1,aRU p2,aRU p3,aRU p4,hs]
    ·have hs:fT f=false:=by unfold fT;simp[p1,p4]
     simp only[gsR,e0,l0,l1,l3,l4,He,k1,k4,k5,k6,aRU p1,aRU p2,aRU p3,aRV p4,hs]
   ·have hs:fT f=false:=by unfold fT;simp[p1];omega
    simp only[gsR,e0,l0,l1,l3,l4,He,k1,k4,k5,k6,aRU p1,aRU p2,aRV p3,hs]
  ·have hs:fT f=false:=by unfold fT;simp[p2]
   simp only[gsR,e0,l0,l1,l3,l4,He,k1,k4,k5,k6,aRU p1,aRV p2,hs]
 ·by_cases p2:f.kind=2
  ·by_cases p3:f.lane<=2
   ·by_cases p4:f.src=0/\f.dst=0/\f.body=0
    ·have hs:fT f=true:=by unfold fT;simp[p2,p3,p4.1,p4.2.1,p4.2.2]
     simp only[gsR,e0,l0,l1,l2,l6,k1,k2,k4,b1,eFr,b2,aRV p1,aRU p2,aRU p3,aRU p4,hs]
    ·have hs:fT f=false:=by unfold fT;simp[p2];omega
     simp only[gsR,e0,l0,l1,l2,l6,k1,k2,k4,b1,eFr,b2,aRV p1,aRU p2,aRU p3,aRV p4,hs]
   ·have hs:fT f=false:=by unfold fT;simp[p3]
    simp only[gsR,e0,l0,l1,l2,l6,k1,k2,k4,b1,eFr,b2,aRV p1,aRU p2,aRV p3,hs]
  ·by_cases p2':f.kind=3
   ·by_cases p3:f.lane<=2
    ·by_cases p4:f.src=0/\f.dst=0/\f.body=0
     ·have hs:fT f=true:=by unfold fT;simp[p2',p3,p4.1,p4.2.1,p4.2.2]
      simp only[gsR,e0,l0,l1,l2,l6,k1,k2,k3,k4,b1,eFr,b2,aRV p1,aRV p2,aRU p2',aRU p3,aRU p4,hs]
     ·have hs:fT f=false:=by unfold fT;simp[p2'];omega
      simp only[gsR,e0,l0,l1,l2,l6,k1,k2,k3,k4,b1,eFr,b2,aRV p1,aRV p2,aRU p2',aRU p3,aRV p4,hs]
    ·have hs:fT f=false:=by unfold fT;simp[p3]
     simp only[gsR,e0,l0,l1,l2,l6,k1,k2,k3,k4,b1,eFr,b2,aRV p1,aRV p2,aRU p2',aRV p3,hs]
   ·have hs:fT f=false:=by unfold fT;simp[p1,p2,p2']
    simp only[gsR,e0,l0,l1,l2,l6,k1,k2,k3,k4,aRV p1,aRV p2,aRV p2',hs]
theorem O0 (n:Nat):j7 (by8 n)= .int .u8 ((n%256:Nat):Int):=by rw[j7,Gw]
theorem Cz (hm:0<m){H0:aE}{v:Value}{bs:List UInt8}(n:Nat)(hn:n<65536)(h:By H v bs)(hv:New H0 v)(he:Ext H0 H)(hr:hP (bs.length+2) 1=true):
  ∃H' v',lvl prog pkN m (.func 90) [v,.int .u16 n] H=some (v',H')/\By H' v' (bs++kY n)/\New H0 v'/\Ext H0 H':=by
 refine iB (cV rfl) hm ?_;rw[aK4];have e1:bin prog .shr 23 (.int .u16 (n:Int)) (.int .u64 8)=some (.int .u16 ((n/256:Nat):Int)):=by
  have:=E9 (P:=prog) .u16 .u64 23 n 8 aC
  rw[Nat.shiftRight_eq_div_pow] at this;exact this
 have e2:dR 5 1 2 [.int .u8 0] [(0,.int .u8 ((n/256%256:Nat):Int)),(1,.int .u8 ((n%256:Nat):Int))] H=some (.slice (some ⟨H.length,0,none⟩) 2 2,H++[.cells ((kY n).map byC).flatten 5 .row]):=by
  rw[uJ];simp only[kY,aRF,List.map_nil,O0];rfl
 have hw:Rs byC 5 (H++[.cells ((kY n).map byC).flatten 5 .row]) (.slice (some ⟨H.length,0,none⟩) 2 2) (kY n):=
  .inr ⟨H.length,0,2,rfl,aRf 2,λ_=>⟨5,.row,[],[],rfl,λ_=>rfl,by simp⟩⟩
 obtain⟨v',H',g1,g2,g3,g4⟩:=(h.wC [.cells ((kY n).map byC).flatten 5 .row]).zT Gz Z8 aC (by':=1) hw hv (he.tr (Fr.app _ _ _)) hr
 simp only[gsR,e1,hZ _ _ nQ u8U,aLm,e2,g1]
 exact⟨_,_,rfl,g2,g3,g4⟩
theorem aLG (hm:1<m){H0:aE}{v:Value}{bs:List UInt8}(n:Nat)(hn:n<4294967296)(h:By H v bs)(hv:New H0 v)(he:Ext H0 H)(hr:hP (bs.length+4) 1=true):
  ∃H' v',lvl prog pkN m (.func 91) [v,.int .u32 n] H=some (v',H')/\By H' v' (bs++(kY (n/65536)++kY n))/\New H0 v'/\Ext H0 H':=by
 refine iB (cV rfl) U ?_
 rw[aK5];have e1:bin prog .shr 37 (.int .u32 (n:Int)) (.int .u64 16)=some (.int .u32 ((n/65536:Nat):Int)):=by
  have:=E9 (P:=prog) .u32 .u64 37 n 16 aC
  rw[Nat.shiftRight_eq_div_pow] at this;exact this
 have e2:IntKind.u16.wrap ((n/65536:Nat):Int)=((n/65536:Nat):Int):=K0 U U
 obtain⟨H1,v1,g1,g2,g3,g4⟩:=Cz (m:=m-1) U (n/65536) U h hv he (gX hr U)
 obtain⟨H2,v2,g5,g6,g7,g8⟩:=Cz (m:=m-1) U (n%65536) U g2 g3 g4 (gX hr (by simp[kY]))
 have e3:kY (n%65536)=kY n:=by
  simp only[kY];rw[Zw (n:=n%65536/256) (c:=by8 (n/256)) (by rw[Gw];omega),Zw (n:=n%65536) (c:=by8 n) (by rw[Gw];omega)]
 rw[e3,aRh] at g6;simp only[gsR,e1,hZ _ _ qH nQ,e2,g1,Cu,g5]
 exact⟨_,_,rfl,g6,g7,g8⟩
end
section
variable {H : aE} {m : Nat}
theorem By.aAa (H:aE)(bs:List UInt8):By (H++[.cells ((bs.map byC).flatten) 5 .row]) (.slice (some ⟨H.length,0,none⟩) bs.length bs.length) bs:=by
 refine⟨by rw[uJ];simp,.inr ⟨H.length,bs.length,[],rfl,aRf _,by simp,by simp⟩⟩
theorem By.ext {H':aE}{v:Value}{bs:List UInt8}(h:By H v bs)(he:Ext H H'):By H' v bs:=h.eX λb hb=>he.2 b (h.gM hb) id
theorem aLI (H0:aE){H:aE}(he:Ext H0 H)(n c:Nat):New H0 (.slice (some ⟨H.length,0,none⟩) n c):=λb ⟨_,_,_,h⟩=>by
 cases h;exact he.1
theorem O6 {n:Nat}(h:n<=100):hP n 1=true:=gX (n:=100) aC h
theorem aLH (hm:100<m)(f:Frm)(hf:f.ok): ∃H' v,lvl prog pkN m (.func 64) [frV f] H=some (.tuple #[v,.int .u16 (if fT f=true then 0 else 1)],H')/\Ext H H'/\By H' v (sH f)/\New H v:=by
 have main: ∃H' r,lvl prog pkN m (.func 64) [frV f] H=some (r,H')/\ ∃v,r= .tuple #[v,.int .u16 (if fT f=true then 0 else 1)]/\Ext H H'/\By H' v (sH f)/\New H v:=by
  refine iB (cV rfl) U ?_
  rw[aKP];have e0:(Blk.cells (Value.cells (frV f)).toList 130 .fix)=frB f:=rfl;obtain⟨l0,l1,l2,l3,l4,l5,l6⟩:=qG (eC H (frB f));have s1:=Z9 (H:=H++[frB f]) (m:=m-1) U f
  have x0:Ext H (H++[frB f]):=Fr.app _ _ _;have x1:Ext H (H++[frB f]++[frB f]):=x0.tr (Fr.app _ _ _);by_cases hs:fT f=true
  ·rw[hs] at s1
   have hb2:=oO (eC H (frB f)) (frB f);obtain⟨q0,q1,q2,q3,q4,q5,q6⟩:=qG hb2;have e2: ∀G:aE,dR 5 1 2 [.int .u8 0] [(0,.int .u8 (f.kind:Int)),(1,.int .u8 (f.lane:Int))] G=some (.slice (some ⟨G.length,0,none⟩) 2 2,G++[.cells (([by8 f.kind,by8 f.lane].map byC).flatten) 5 .row]):=λG=>by
    rw[uJ];simp only[aRF,List.map_nil,O0,aRI hf.kind,aRI hf.lane];rfl
   obtain⟨G2,hG2⟩: ∃G2,H++[frB f]++[frB f]=G2:=⟨_,rfl⟩;rw[hG2] at s1 x1 hb2 q0 q1 q2 q3 q4 q5 q6;obtain⟨G3,hG3⟩: ∃G3,G2++[Blk.cells (([by8 f.kind,by8 f.lane].map byC).flatten) 5 .row]=G3:=⟨_,rfl⟩;have b3:By G3 (.slice (some ⟨G2.length,0,none⟩) 2 2) [by8 f.kind,by8 f.lane]:=by rw[<-hG3];exact By.aAa G2 [by8 f.kind,by8 f.lane]
   have x3:Ext H G3:=by rw[<-hG3];exact x1.tr (Fr.app _ _ _)
   have hb3:G3[H.length]? =some (frB f):=by rw[<-hG3];exact oO hb2 _
   obtain⟨p0,p1,p2,p3,p4,p5,p6⟩:=qG hb3;have x3':Ext G2 G3:=by rw[<-hG3];exact Fr.app _ _ _
   obtain⟨G4,v4,g1,b4,n4',x4'⟩:=Cz (m:=m-1) U (H0:=G2) f.seq hf.seq b3 (aLI G2 (Fr.gR _ _) 2 2) x3' (O6 (by simp))
   have nk:((f.kind:Int)==1)=decide (f.kind=1):=yJ f.kind 1;have hb4:G4[H.length]? =some (frB f):=by rw[x4'.2 _ (dT hb2) id,hb2]
   obtain⟨t0,t1,t2,t3,t4,t5,t6⟩:=qG hb4;by_cases hk:f.kind=1
   ·have e5:dR 5 1 2 [.int .u8 0] [(0,.int .u8 (f.src:Int)),(1,.int .u8 (f.dst:Int))] G4=some (.slice (some ⟨G4.length,0,none⟩) 2 2,G4++[.cells (([by8 f.src,by8 f.dst].map byC).flatten) 5 .row]):=by
     rw[uJ];simp only[aRF,List.map_nil,O0,aRI hf.src,aRI hf.dst];rfl
    have w5:Rs byC 5 (G4++[.cells (([by8 f.src,by8 f.dst].map byC).flatten) 5 .row]) (.slice (some ⟨G4.length,0,none⟩) 2 2) [by8 f.src,by8 f.dst]:=(By.aAa G4 [by8 f.src,by8 f.dst]).rs;obtain⟨v6,G6,g6,b6,n6,x6⟩:=(b4.wC [.cells (([by8 f.src,by8 f.dst].map byC).flatten) 5 .row]).zT Gz Z8 aC (by':=1) w5 n4' (x4'.tr (Fr.app _ _ _)) (O6 (by simp[kY]))
    have hb6:G6[H.length]? =some (frB f):=by rw[x6.2 _ (dT hb2) id,hb2]
    obtain⟨r0,r1,r2,r3,r4,r5,r6⟩:=qG hb6;have hb5:(G4++[Blk.cells (([by8 f.src,by8 f.dst].map byC).flatten) 5 .row])[H.length]? =some (frB f):=oO hb4 _;have r5':=(qG hb5).2.2.2.2.2.1;have ck:chk (some (Value.int .u32 (f.body:Int),G4++[Blk.cells (([by8 f.src,by8 f.dst].map byC).flatten) 5 .row])) (.int .u32 (f.body:Int))=true:=by simp[chk,veq]
    obtain⟨G7,v7,g7,b7,n7,x7⟩:=aLG (m:=m-1) U f.body hf.body b6 n6 x6 (O6 (by simp[kY]))
    have hbody:q8 f=[by8 f.kind,by8 f.lane]++kY f.seq++[by8 f.src,by8 f.dst]++(kY (f.body/65536)++kY f.body):=by
     unfold q8 Gx;rw[if_pos hk];simp[kY]
    rw[<-hbody] at b7;have hl7:(q8 f).length=10:=by rw[hbody];simp[kY]
    have s7:=Ox (H:=G7) (m:=m-1) b7.br U U U
    obtain⟨G8,v8,g8,b8,n8,x8⟩:=Cz (H:=G7++[mP (crc (q8 f))]) (m:=m-1) U (crc (q8 f)) (Ow _) (b7.ext (Fr.app _ _ _)) n7 (x7.tr (Fr.app _ _ _)) (by rw[hl7];decide)
    simp only[gsR,e0,l6,hG2,s1,q0,q1,e2,hG3,p2,g1,t0,nk,aRU hk,t3,t4,e5,g6,r5,r5',ck,g7,s7,g8];refine⟨_,_,rfl,_,by simp[hs],x1.tr x8,?_,λb hb=>aRq x1.1 (n8 b hb)⟩
    unfold sH Cx Cw;rw[if_pos hs];exact b8
   ·have hbody:q8 f=[by8 f.kind,by8 f.lane]++kY f.seq:=by
     unfold q8 Gx;rw[if_neg hk];simp[kY]
    rw[<-hbody] at b4;have hl7:(q8 f).length=4:=by rw[hbody];simp[kY]
    have s7:=Ox (H:=G4) (m:=m-1) b4.br U U U
    obtain⟨G8,v8,g8,b8,n8,x8⟩:=Cz (H:=G4++[mP (crc (q8 f))]) (m:=m-1) U (crc (q8 f)) (Ow _) (b4.ext (Fr.app _ _ _)) n4' (x4'.tr (Fr.app _ _ _)) (by rw[hl7];decide)
    simp only[gsR,e0,l6,hG2,s1,q0,q1,e2,hG3,p2,g1,t0,nk,aRV hk,s7,g8];refine⟨_,_,rfl,_,by simp[hs],x1.tr x8,?_,λb hb=>aRq x1.1 (n8 b hb)⟩
    unfold sH Cx Cw;rw[if_pos hs];exact b8
  ·have hs':fT f=false:=by simpa using hs
   rw[hs'] at s1;simp only[gsR,e0,l6,s1];refine⟨_,_,rfl,_,by simp[hs],x1,?_,New.mN H⟩
   unfold sH Cx;rw[if_neg hs];exact Rw.kL
 obtain⟨H',r,h1,v,rfl,h2⟩:=main
 exact⟨H',v,h1,h2⟩
end
section
variable {H : aE} {m : Nat}
abbrev Bs (H:aE)(v:Value)(bs:List UInt8):Prop:=Rs byC 5 H v bs
theorem aLJ {v:Value}{bs:List UInt8}(h:Bs H v bs):Br H v bs:=by
 rcases h with⟨h1,h2⟩|⟨b,o,cap,h1,h2,h3⟩
 ·exact .inl ⟨h2,.inl h1⟩
 ·by_cases hb:bs=[]
  ·exact .inl ⟨hb,.inr ⟨b,o,cap,by rw[h1,hb];rfl⟩⟩
  ·obtain⟨e',k,pre,post,h4,_,h5⟩:=h3 hb
   refine .inr ⟨b,o,cap,_,e',k,h1,List.length_pos_iff.mpr hb,h5,?_,?_⟩
   ·rw[uJ]
    simp;omega
   ·rw[uJ,<-h4,aRh,List.drop_left]
    have:bs.length=(bs.map j7).length:=by simp
    rw[this,List.take_left]
theorem C0 {v:Value}{bs:List UInt8}(h:Bs H v bs){i:Nat}{x:UInt8}(hx:bs[i]? =some x)(k:IntKind): ∃a,bS 1 v (.int k i)=some a/\ ∀H',Ext H H'->ld1 a H'=some (j7 x,H'):=by
 obtain⟨b,o,h1,h2,h3⟩:=h.fV Gz hx k;obtain⟨e',hr⟩:=h.rr (λh=>by subst h;simp at hx)
 exact⟨_,h1,λH' he=>(h3 H' (he.2 b (hr.aF4 h2) id)).2.1 0 (j7 x) rfl⟩
theorem aAc (bs:List UInt8)(c:UInt8):gT (bs++[c])=gT bs*256+c.toNat:=by simp[gT]
theorem O7: ∀(n:Nat)(bs:List UInt8),bs.length=n->gT bs<256 ^ n:=by
 intro n;induction n with
 |zero=>intro bs h;rw[aRs.mp h];decide
 |succ n ih=>
  intro bs h;have hne:bs≠[]:=λhh=>by rw[hh] at h;simp at h
  rw[<-List.dropLast_concat_getLast hne,aAc,Nat.pow_succ];have h1:=ih bs.dropLast (by simp[h])
  have h2:=(bs.getLast hne).toNat_lt;omega
theorem aLM (n c:Nat)(hc:c<256):n*256|||c=n*256+c:=by
 have:=Nat.shiftLeft_add_eq_or_of_lt (i:=8) (b:=c) hc n;rw[Nat.shiftLeft_eq] at this;exact this.symm
theorem aLN {u:Value}{bs:List UInt8}(hu:Bs H u bs)(h4:bs.length<=4): ∀(q i k:Nat),bs.length-i=q->i<=bs.length->q<k->
  ∀x0 x1 x2 x4 x5 x9 bQ cG aS aP aQ aO bB bI aR:Value,aK k (aM prog (lvl prog pkN m) (aK m) Ni) (Nj (lvl prog pkN m) (aK m)) [x0,x1,x2,(.int .u32 (gT (bs.take i))),x4,x5,u,(.I bs.length),(.I i),x9,bQ,cG,aS,aP,aQ,aO,bB,bI,aR] H=some (.int .u32 (gT bs),H):=by
 intro q;induction q with
 |zero=>
  intro i k hq hi hk x0 x1 x2 x4 x5 x9 bQ cG aS aP aQ aO bB bI aR;obtain⟨k,rfl⟩: ∃k',k=k'+1:=⟨k-1,by omega⟩
  have hi8:i=bs.length:=U
  subst hi8;have c1:decide ((bs.length:Int)<(bs.length:Int))=false:=by simp
  rw[aK,Y6];simp only[gsR,c1];rw[aKf];simp only[gsR,List.take_length]
 |succ q ih=>
  intro i k hq hi hk x0 x1 x2 x4 x5 x9 bQ cG aS aP aQ aO bB bI aR;obtain⟨k,rfl⟩: ∃k',k=k'+1:=⟨k-1,by omega⟩
  have c1:decide ((i:Int)<(bs.length:Int))=true:=by rw[decide_eq_true_eq];omega
  have hx:bs[i]? =some bs[i]:=aRc U
  obtain⟨a,a1,a2⟩:=C0 hu hx .i64;have a2:=a2 H (Fr.gR _ _);have hb:=O7 i (bs.take i) (by simp;omega)
  have hb3:gT (bs.take i)<16777216:=aRp hb (Nat.pow_le_pow_right (n:=256) (i:=i) (j:=3) U U)
  have hc:=bs[i].toNat_lt;have e1:bin prog .shl 37 (.int .u32 (gT (bs.take i):Int)) (.int .u64 8)=some (.int .u32 ((gT (bs.take i)*256:Nat):Int)):=by
   have:=E8 (P:=prog) .u32 .u64 rfl 37 (gT (bs.take i)) 8 aC
   rw[show gT (bs.take i)*2 ^ 8%2 ^ IntKind.u32.bits=gT (bs.take i)*256 from by show gT (bs.take i)*256%4294967296=_;omega] at this
   exact this
  have e2:eI prog 5 37 (j7 bs[i]) H=some (.int .u32 (bs[i].toNat:Int),H):=by
   show eI prog 5 37 (.int .u8 bs[i].toNat) H=_
   rw[hZ _ _ u8U qH,Zs _ U]
  have e3:bin prog .or 37 (.int .u32 ((gT (bs.take i)*256:Nat):Int)) (.int .u32 (bs[i].toNat:Int))=some (.int .u32 (gT (bs.take (i+1)):Int)):=by
   rw[Kz .u32 rfl _ (a:=gT (bs.take i)*256) (b:=bs[i].toNat) (by show _<4294967296;omega) (by show _<4294967296;omega),aLM _ _ hc,List.take_add_one,hx]
   rw[show(some bs[i]).toList=[bs[i]] from rfl,aAc]
  have e4:=aA (i:=i) U
  rw[aK,Y6];simp only[gsR,c1,a1,a2,e1,e2,e3,cU,e4];exact ih (i+1) k U U U _ _ _ _ _ _ _ _ _ _ _ _ _ _ _
theorem O8 {u:Value}{bs:List UInt8}(hu:Bs H u bs)(h4:bs.length<=4)(hm:10<m):lvl prog pkN m (.func 106) [u] H=some (.int .u32 (gT bs),H):=by
 refine dH (cV rfl) U ?_
 rw[aKg];simp only[gsR,hu.jX];exact aLN hu h4 bs.length 0 (m-1) U U U _ _ _ _ _ _ _ _ _ _ _ _ _ _ _
def zfB:Blk:=frB Frm.pB
def n9 (bs:List UInt8):Value:=match qB bs with
 |some f=> .tuple #[frV f,.int .u16 0]
 |none=> .tuple #[frV Frm.pB,.int .u16 30]
theorem aLK:prog.cellsOf 5=1:=by kernel_rfl
theorem Hf {b:Nat}{f:Frm}(g:Frm)(hb:H[b]? =some (frB f)):stN 6 (.Q b 0) (frV g) H=some (undef,H.set b (frB g)):=uG hb aC rfl rfl (aRf 6) rfl
theorem Ah (a b:Bool):bin prog .neq 4 (.bool a) (.bool b)=some (.bool (a !=b)):=by
 cases a<;>cases b<;>rfl
theorem Ai {H G:aE}{b:Nat}(he:Ext H G)(hb:H.length<=b)(y:Blk):Ext H (G.set b y):=⟨by simp[he.1],λc hc _=>by rw[aRb U,he.2 c hc id]⟩
theorem aAb {G:aE}(he:Ext H G)(h0:G[H.length]? =some zfB)(h1:G[H.length+1]? =some zfB):ldN 6 (.Q (H.length+1) 0) G=some (frV Frm.pB,G)/\
  stN 6 (.Q H.length 0) (frV Frm.pB) G=some (undef,G.set H.length zfB)/\ldN 6 (.Q H.length 0) (G.set H.length zfB)=some (frV Frm.pB,G.set H.length zfB)/\Ext H (G.set H.length zfB):=
 ⟨(qG h1).2.2.2.2.2.2,Hf Frm.pB h0,(qG (fS h0)).2.2.2.2.2.2,Ai he (aRf _) _⟩
theorem aAd (H:aE)(X:aE):(H++[zfB]++[zfB]++X)[H.length]? =some zfB/\(H++[zfB]++[zfB]++X)[H.length+1]? =some zfB:=by
 constructor
 ·simp
 ·rw[aRh,aRh,aRu U]
  simp
theorem aLL (hm:100<m){u:Value}{bs:List UInt8}(hu:Bs H u bs)(h6:bs.length≠6)(h12:bs.length≠12): ∃H',lvl prog pkN m (.func 74) [u] H=some (n9 bs,H')/\Ext H H':=by
 refine mF (cV rfl) U ?_
 rw[Zo];have hd:n9 bs= .tuple #[frV Frm.pB,.int .u16 30]:=by
  unfold n9 qB;rw[if_neg U,if_neg U]
 have e0:(Blk.cells [.int .u8 0,.int .u8 0,.int .u16 0,.int .u8 0,.int .u8 0,.int .u32 0] 130 .fix)=zfB:=rfl;have c1:((bs.length:Int)!=6)=true:=by simp;omega
 have c2:((bs.length:Int)!=12)=true:=by simp;omega
 have b2:=aAd H [];rw[List.append_nil] at b2;have x2:Ext H (H++[zfB]++[zfB]):=by rw[aRh];exact Fr.app _ _ _
 have hl2:(H++[zfB]).length=H.length+1:=by simp
 obtain⟨o1,o2,o3,o4⟩:=aAb x2 b2.1 b2.2;simp only[gsR,e0,hl2,hu.jX,c1,c2,o1,o2,o3,hd]
 exact⟨_,rfl,o4⟩
end
section
variable {H : aE} {m : Nat}
theorem aLO {bs:List UInt8}(h:bs.length=6∨bs.length=12):(bs.take 4).drop 2=[bs.getD 2 0,bs.getD 3 0]:=by
 rcases h with h|h
 ·match bs,h with
  |[a,b,c,d,e,f],_=>rfl
 ·match bs,h with
  |[a,b,c,d,e,f,g,h,i,j,k,l],_=>rfl
theorem aLP {bs:List UInt8}(h:bs.length=12):(bs.take 10).drop 6=[bs.getD 6 0,bs.getD 7 0,bs.getD 8 0,bs.getD 9 0]:=by
 match bs,h with
 |[a,b,c,d,e,f,g,h,i,j,k,l],_=>rfl
theorem Hg {bs:List UInt8}{i:Nat}(h:i<bs.length):bs[i]? =some (bs.getD i 0):=by
 rw[aRe,aRc h];rfl
theorem Hj (a:Option Addr)(n c:Nat)(G:aE):chk (some (Value.slice a n c,G)) (.slice a n c)=true:=by simp[chk,veq]
theorem Hi (x:UInt8)(G:aE):chk (some (j7 x,G)) (j7 x)=true:=by simp[chk,veq,j7]
theorem aLR (x:UInt8)(n:Nat)(z:Int)(hz:z=n):bin prog .eql 5 (j7 x) (.int .u8 z)=some (.bool (decide (x.toNat=n))):=by
 rw[j7,b_eql,hz,yJ]
theorem aLS (a b:UInt8):gT [a,b]<65536:=by
 have:=a.toNat_lt;have:=b.toNat_lt;rw[aLq];omega
theorem bff:(false !=false)=false:=rfl
theorem btt:(true !=true)=false:=rfl
theorem aAf (hm:0<m){G:aE}{f:Frm}(he:Ext H G)(h0:G[H.length]? =some zfB)(h1:G[H.length+1]? =some (frB f)):
  ldN 6 (.Q (H.length+1) 0) G=some (frV f,G)/\lvl prog pkN m (.func 89) [frV f] G=some (.bool (fT f),G++[frB f])/\
  ldN 6 (.Q (H.length+1) 0) (G++[frB f])=some (frV f,G++[frB f])/\
  (∀g,stN 6 (.Q H.length 0) (frV g) (G++[frB f])=some (undef,(G++[frB f]).set H.length (frB g))/\ldN 6 (.Q H.length 0) ((G++[frB f]).set H.length (frB g))=some (frV g,(G++[frB f]).set H.length (frB g))/\Ext H ((G++[frB f]).set H.length (frB g))):=by
 have hx:Ext H (G++[frB f]):=he.tr (Fr.app _ _ _);have h0':(G++[frB f])[H.length]? =some (frB Frm.pB):=oO h0 _
 exact⟨(qG h1).2.2.2.2.2.2,Z9 hm f,(qG (oO h1 _)).2.2.2.2.2.2,λg=>⟨Hf g h0',(qG (fS h0')).2.2.2.2.2.2,Ai hx (aRf _) _⟩⟩
theorem aAe (hm:200<m){u:Value}{bs:List UInt8}(hu:Bs H u bs)(hl:bs.length=6∨bs.length=12): ∃H',lvl prog pkN m (.func 74) [u] H=some (n9 bs,H')/\Ext H H':=by
  have hne:bs≠[]:=λhh=>by rw[hh] at hl;simp at hl
  obtain⟨sb,so,cap,rfl,hcap,hs⟩:=hu.aLk Gz aLK hne;refine mF (cV rfl) U ?_
  rw[Zo];have e0:(Blk.cells [.int .u8 0,.int .u8 0,.int .u16 0,.int .u8 0,.int .u8 0,.int .u32 0] 130 .fix)=zfB:=rfl;have hl2:(H++[zfB]).length=H.length+1:=by simp
  have x2:Ext H (H++[zfB]++[zfB]):=by rw[aRh];exact Fr.app _ _ _
  have b2:=aAd H [];rw[List.append_nil] at b2;obtain⟨G2,hG2⟩: ∃G2,H++[zfB]++[zfB]=G2:=⟨_,rfl⟩;rw[hG2] at x2 b2;have w1:IntKind.i64.wrap ((bs.length:Int)-2)=((bs.length-2:Nat):Int):=by rw[dJ U U];omega
  have f1: ∀G,Ext H G->slc prog 1 (.slice (some ⟨sb,so,none⟩) bs.length cap) none (some (.I ((bs.length-2:Nat):Int))) (some (.I ((bs.length-2:Nat):Int))) G=some (.slice (some ⟨sb,so+0*1,none⟩) (bs.length-2-0) (bs.length-2-0),G)/\Bs G (.slice (some ⟨sb,so+0*1,none⟩) (bs.length-2-0) (bs.length-2-0)) (bs.take (bs.length-2)):=λG he=>by
    have:=hs G (hu.ext he) 0 (bs.length-2) none _ _ (bs.length-2) rfl (oE _ .i64 _) (oE _ .i64 _) U U U U
    rw[List.drop_zero] at this;exact this
  have f2: ∀G,Ext H G->slc prog 1 (.slice (some ⟨sb,so,none⟩) bs.length cap) (some (.I ((bs.length-2:Nat):Int))) none none G=some (.slice (some ⟨sb,so+(bs.length-2)*1,none⟩) (bs.length-(bs.length-2)) (cap-(bs.length-2)),G)/\Bs G (.slice (some ⟨sb,so+(bs.length-2)*1,none⟩) (bs.length-(bs.length-2)) (cap-(bs.length-2))) (bs.drop (bs.length-2)):=λG he=>by
    have:=hs G (hu.ext he) (bs.length-2) bs.length _ none none cap (oE _ .i64 _) rfl rfl U U U U
    rw[List.take_length] at this;exact this
  have f3: ∀G,Ext H G->slc prog 1 (.slice (some ⟨sb,so,none⟩) bs.length cap) (some (.I 2)) (some (.I 4)) none G=some (.slice (some ⟨sb,so+2*1,none⟩) (4-2) (cap-2),G)/\Bs G (.slice (some ⟨sb,so+2*1,none⟩) (4-2) (cap-2)) [bs.getD 2 0,bs.getD 3 0]:=λG he=>by
    have:=hs G (hu.ext he) 2 4 (some (.I 2)) (some (.I 4)) none cap (oE _ .i64 2) (oE _ .i64 4) rfl U U U U
    rw[aLO hl] at this;exact this
  have q1:=(f1 G2 x2).1;have s1:=Ox (H:=G2) (m:=m-1) (aLJ (f1 G2 x2).2) U (by simp;omega) (by simp;omega)
  obtain⟨G3,hG3⟩: ∃G3,G2++[mP (crc (bs.take (bs.length-2)))]=G3:=⟨_,rfl⟩;rw[hG3] at s1;have x3:Ext H G3:=by rw[<-hG3];exact x2.tr (Fr.app _ _ _)
  have b30:G3[H.length]? =some zfB:=by rw[<-hG3];exact oO b2.1 _
  have b31:G3[H.length+1]? =some zfB:=by rw[<-hG3];exact oO b2.2 _
  have q2:=(f2 G3 x3).1;have q2':=(f2 G2 x2).1;have s2:=O8 (H:=G3) (m:=m-1) (f2 G3 x3).2 (by simp;omega) U
  have cv1:IntKind.u32.wrap (crc (bs.take (bs.length-2)):Int)=(crc (bs.take (bs.length-2)):Int):=Zs _ (by have:=Ow (bs.take (bs.length-2));omega)
  obtain⟨o1,o2,o3,o4⟩:=aAb x3 b30 b31;have ck2:chk (some (Value.slice (some ⟨sb,so+(bs.length-2)*1,none⟩) (bs.length-(bs.length-2)) (cap-(bs.length-2)),G2)) (.slice (some ⟨sb,so+(bs.length-2)*1,none⟩) (bs.length-(bs.length-2)) (cap-(bs.length-2)))=true:=Hj _ _ _ _;have c1: ∀z:Bool,((bs.length:Int)!=6)=z->z=decide (bs.length≠6):=λz hz=>by rw[<-hz];exact Cy bs.length 6
  have nn6:((bs.length:Int)!=6)=decide (bs.length≠6):=Cy bs.length 6;have nn12:((bs.length:Int)!=12)=decide (bs.length≠12):=Cy bs.length 12;have ne12:((bs.length:Int)==12)=decide (bs.length=12):=yJ bs.length 12;have hlen:cK (Value.slice (some ⟨sb,so,none⟩) bs.length cap)=some (.I bs.length):=rfl;have ncr:((crc (bs.take (bs.length-2)):Int)!=(gT (bs.drop (bs.length-2)):Int))=decide (crc (bs.take (bs.length-2))≠gT (bs.drop (bs.length-2))):=Cy _ _;obtain⟨a0,i0,l0⟩:=C0 hu (Hg (bs:=bs) (i:=0) U) .i64
  obtain⟨a1,i1,l1⟩:=C0 hu (Hg (bs:=bs) (i:=1) U) .i64
  have i0':bS 1 (.slice (some ⟨sb,so,none⟩) bs.length cap) (.I 0)=some a0:=i0;have i1':bS 1 (.slice (some ⟨sb,so,none⟩) bs.length cap) (.I 1)=some a1:=i1;have k0:=aLR (bs.getD 0 0) 1 1 rfl;have hdn:crc (bs.take (bs.length-2))≠gT (bs.drop (bs.length-2))∨decide ((bs.getD 0 0).toNat=1)≠decide (bs.length=12)->n9 bs= .tuple #[frV Frm.pB,.int .u16 30]:=λhh=>by
    have:qB bs=none:=by
      unfold qB Ae;rcases hl with h6|h12
      · by_cases hk:(bs.getD 0 0).toNat=1
        · rw[if_neg U,if_neg U]
        · rw[if_pos ⟨h6,hk⟩,if_neg]
          rintro ⟨h1,_⟩
          rcases hh with hh|hh
          · rw[h6] at hh
            exact hh h1
          · rw[aRV hk,aRV (show¬bs.length=12 by omega)] at hh
            exact hh rfl
      · by_cases hk:(bs.getD 0 0).toNat=1
        · rw[if_neg U,if_pos ⟨h12,hk⟩,if_neg]
          rintro ⟨h1,_⟩
          rcases hh with hh|hh
          · rw[h12] at hh
            exact hh h1
          · rw[aRU hk,aRU h12] at hh
            exact hh rfl
        · rw[if_neg U,if_neg U]
    unfold n9;rw[this]
  -- up to the second test
  by_cases hc:crc (bs.take (bs.length-2))=gT (bs.drop (bs.length-2))
  rotate_left
  · have hd:=hdn (.inl hc)
    rcases hl with h6|h12
    · have d6:decide (bs.length≠6)=false:=by simp[h6]
      simp only[gsR,e0,hl2,hG2,hlen,nn6,d6,j8,w1,q1,s1,hZ _ _ nQ qH,cv1,q2,q2',ck2,s2,ncr,aRU hc,o1,o2,o3,hd]
      exact⟨_,rfl,o4⟩
    · have d6:decide (bs.length≠6)=true:=by simp[h12]
      have d12:decide (bs.length≠12)=false:=by simp[h12]
      simp only[gsR,e0,hl2,hG2,hlen,nn6,nn12,d6,d12,j8,w1,q1,s1,hZ _ _ nQ qH,cv1,q2,q2',ck2,s2,ncr,aRU hc,o1,o2,o3,hd]
      exact⟨_,rfl,o4⟩
  have nz:decide (crc (bs.take (bs.length-2))≠gT (bs.drop (bs.length-2)))=false:=by simp[hc]
  have l0':=l0 G3 x3;have l1':=l1 G3 x3;by_cases hk:decide ((bs.getD 0 0).toNat=1)=decide (bs.length=12)
  rotate_left
  · have hd:=hdn (.inr hk)
    have hkb:(decide ((bs.getD 0 0).toNat=1)!=decide (bs.length=12))=true:=by simpa using hk
    rcases hl with h6|h12
    · have d6:decide (bs.length≠6)=false:=by simp[h6]
      simp only[gsR,e0,hl2,hG2,hlen,nn6,d6,j8,w1,q1,s1,hZ _ _ nQ qH,cv1,q2,q2',ck2,s2,ncr,nz,i0',l0',k0,ne12,Ah,hkb,o1,o2,o3,hd]
      exact⟨_,rfl,o4⟩
    · have d6:decide (bs.length≠6)=true:=by simp[h12]
      have d12:decide (bs.length≠12)=false:=by simp[h12]
      simp only[gsR,e0,hl2,hG2,hlen,nn6,nn12,d6,d12,j8,w1,q1,s1,hZ _ _ nQ qH,cv1,q2,q2',ck2,s2,ncr,nz,i0',l0',k0,ne12,Ah,hkb,o1,o2,o3,hd]
      exact⟨_,rfl,o4⟩
  have hkb:(decide ((bs.getD 0 0).toNat=1)!=decide (bs.length=12))=false:=by simpa using hk
  have q3:=(f3 G3 x3).1;have s3:=O8 (H:=G3) (m:=m-1) (f3 G3 x3).2 (by simp) U
  have w3:IntKind.u16.wrap (gT [bs.getD 2 0,bs.getD 3 0]:Int)=(gT [bs.getD 2 0,bs.getD 3 0]:Int):=K0 U (by have:=aLS (bs.getD 2 0) (bs.getD 3 0);omega)
  have bF:bld prog 130 [(0,j7 (bs.getD 0 0)),(1,j7 (bs.getD 1 0)),(2,.int .u16 (gT [bs.getD 2 0,bs.getD 3 0]))]=some (frV (nP bs)):=rfl;have bZ:bld prog 130 []=some (frV Frm.pB):=rfl;have st1:=Hf (nP bs) b31;obtain⟨G4,hG4⟩: ∃G4,G3.set (H.length+1) (frB (nP bs))=G4:=⟨_,rfl⟩;rw[hG4] at st1;have x4:Ext H G4:=by rw[<-hG4];exact Ai x3 U _
  have b40:G4[H.length]? =some zfB:=by rw[<-hG4,aRb U];exact b30
  have b41:G4[H.length+1]? =some (frB (nP bs)):=by rw[<-hG4];exact fS b31
  rcases hl with h6|h12
  · have d6:decide (bs.length≠6)=false:=by simp[h6]
    have d12:decide (bs.length=12)=false:=by simp[h6]
    have hk1: ¬(bs.getD 0 0).toNat=1:=by rw[d12] at hk;simpa using hk
    have hdec:qB bs=if fT (nP bs)=true then some (nP bs) else none:=by
      unfold qB Ae;rw[if_pos ⟨h6,hk1⟩];rw[h6] at hc;by_cases hs:fT (nP bs)=true
      · rw[if_pos ⟨hc,hs⟩,if_pos hs]
      · rw[if_neg λh=>hs h.2,if_neg hs]
    obtain⟨t1,t2,t3,t4⟩:=aAf (m:=m-1) U x4 b40 b41
    by_cases hs:fT (nP bs)=true
    · obtain⟨u1,u2,u3⟩:=t4 (nP bs)
      have hd:n9 bs= .tuple #[frV (nP bs),.int .u16 0]:=by unfold n9;rw[hdec,if_pos hs]
      rw[hs] at t2;simp only[gsR,e0,hl2,hG2,hlen,nn6,d6,j8,w1,q1,s1,hZ _ _ nQ qH,hZ _ _ qH nQ,cv1,q2,q2',ck2,s2,ncr,nz,i0',l0',i1',l1',k0,ne12,Ah,aRV hk1,bff,q3,s3,Hi,w3,bF,st1,d12,t1,t2,t3,u1,u2,hd]
      exact⟨_,rfl,u3⟩
    · obtain⟨u1,u2,u3⟩:=t4 Frm.pB
      have hs':fT (nP bs)=false:=by simpa using hs
      have hd:n9 bs= .tuple #[frV Frm.pB,.int .u16 30]:=by unfold n9;rw[hdec,if_neg hs]
      rw[hs'] at t2;simp only[gsR,e0,hl2,hG2,hlen,nn6,d6,j8,w1,q1,s1,hZ _ _ nQ qH,hZ _ _ qH nQ,cv1,q2,q2',ck2,s2,ncr,nz,i0',l0',i1',l1',k0,ne12,Ah,aRV hk1,bff,q3,s3,Hi,w3,bF,st1,d12,t1,t2,bZ,u1,u2,hd]
      exact⟨_,rfl,u3⟩
  · have d6:decide (bs.length≠6)=true:=by simp[h12]
    have d12':decide (bs.length≠12)=false:=by simp[h12]
    have d12:decide (bs.length=12)=true:=by simp[h12]
    have hk1:(bs.getD 0 0).toNat=1:=by rw[d12] at hk;simpa using hk
    have hdec:qB bs=if fT (rZ bs)=true then some (rZ bs) else none:=by
      unfold qB Ae;rw[if_neg U,if_pos ⟨h12,hk1⟩]
      rw[h12] at hc;by_cases hs:fT (rZ bs)=true
      · rw[if_pos ⟨hc,hs⟩,if_pos hs]
      · rw[if_neg λh=>hs h.2,if_neg hs]
    obtain⟨a4,i4,l4⟩:=C0 hu (Hg (bs:=bs) (i:=4) U) .i64
    obtain⟨a5,i5,l5⟩:=C0 hu (Hg (bs:=bs) (i:=5) U) .i64
    have i4':bS 1 (.slice (some ⟨sb,so,none⟩) bs.length cap) (.I 4)=some a4:=i4;have i5':bS 1 (.slice (some ⟨sb,so,none⟩) bs.length cap) (.I 5)=some a5:=i5;have f4:slc prog 1 (.slice (some ⟨sb,so,none⟩) bs.length cap) (some (.I 6)) (some (.I 10)) none G4=some (.slice (some ⟨sb,so+6*1,none⟩) (10-6) (cap-6),G4)/\Bs G4 (.slice (some ⟨sb,so+6*1,none⟩) (10-6) (cap-6)) [bs.getD 6 0,bs.getD 7 0,bs.getD 8 0,bs.getD 9 0]:=by
      have:=hs G4 (hu.ext x4) 6 10 (some (.I 6)) (some (.I 10)) none cap (oE _ .i64 6) (oE _ .i64 10) rfl U U U U
      rw[aLP h12] at this;exact this
    have q4:=f4.1;have s4:=O8 (H:=G4) (m:=m-1) f4.2 (by simp) U
    have st3:stN 1 (.Q (H.length+1) 3) (j7 (bs.getD 4 0)) G4=some (undef,G4.set (H.length+1) (frB {nP bs with src:=(bs.getD 4 0).toNat})):=mZ b41 aC (by simp[frC])
    obtain⟨G5,hG5⟩: ∃G5,G4.set (H.length+1) (frB {nP bs with src:=(bs.getD 4 0).toNat})=G5:=⟨_,rfl⟩;rw[hG5] at st3;have x5:Ext H G5:=by rw[<-hG5];exact Ai x4 U _
    have b50:G5[H.length]? =some zfB:=by rw[<-hG5,aRb U];exact b40
    have b51:G5[H.length+1]? =some (frB {nP bs with src:=(bs.getD 4 0).toNat}):=by rw[<-hG5];exact fS b41
    have st4:stN 1 (.Q (H.length+1) 4) (j7 (bs.getD 5 0)) G5=some (undef,G5.set (H.length+1) (frB {nP bs with src:=(bs.getD 4 0).toNat,dst:=(bs.getD 5 0).toNat})):=mZ b51 aC (by simp[frC])
    obtain⟨G6,hG6⟩: ∃G6,G5.set (H.length+1) (frB {nP bs with src:=(bs.getD 4 0).toNat,dst:=(bs.getD 5 0).toNat})=G6:=⟨_,rfl⟩;rw[hG6] at st4;have x6:Ext H G6:=by rw[<-hG6];exact Ai x5 U _
    have b60:G6[H.length]? =some zfB:=by rw[<-hG6,aRb U];exact b50
    have b61:G6[H.length+1]? =some (frB {nP bs with src:=(bs.getD 4 0).toNat,dst:=(bs.getD 5 0).toNat}):=by rw[<-hG6];exact fS b51
    have st5:stN 1 (.Q (H.length+1) 5) (.int .u32 (gT [bs.getD 6 0,bs.getD 7 0,bs.getD 8 0,bs.getD 9 0]:Int)) G6=some (undef,G6.set (H.length+1) (frB (rZ bs))):=mZ b61 aC (by simp[frC])
    obtain⟨G7,hG7⟩: ∃G7,G6.set (H.length+1) (frB (rZ bs))=G7:=⟨_,rfl⟩;rw[hG7] at st5;have x7:Ext H G7:=by rw[<-hG7];exact Ai x6 U _
    have b70:G7[H.length]? =some zfB:=by rw[<-hG7,aRb U];exact b60
    have b71:G7[H.length+1]? =some (frB (rZ bs)):=by rw[<-hG7];exact fS b61
    have l44:=l4 G4 x4;have l54:=l5 G4 x4;have l55:=l5 G5 x5;obtain⟨t1,t2,t3,t4⟩:=aAf (m:=m-1) U x7 b70 b71
    by_cases hs:fT (rZ bs)=true
    · obtain⟨u1,u2,u3⟩:=t4 (rZ bs)
      have hd:n9 bs= .tuple #[frV (rZ bs),.int .u16 0]:=by unfold n9;rw[hdec,if_pos hs]
      rw[hs] at t2;simp only[gsR,e0,hl2,hG2,hlen,nn6,nn12,d6,d12',j8,w1,q1,s1,hZ _ _ nQ qH,hZ _ _ qH nQ,cv1,q2,q2',ck2,s2,ncr,nz,i0',l0',i1',l1',k0,ne12,Ah,aRU hk1,btt,q3,s3,Hi,w3,bF,st1,d12,i4',i5',l44,l54,l55,q4,s4,st3,st4,st5,t1,t2,t3,u1,u2,hd]
      exact⟨_,rfl,u3⟩
    · obtain⟨u1,u2,u3⟩:=t4 Frm.pB
      have hs':fT (rZ bs)=false:=by simpa using hs
      have hd:n9 bs= .tuple #[frV Frm.pB,.int .u16 30]:=by unfold n9;rw[hdec,if_neg hs]
      rw[hs'] at t2;simp only[gsR,e0,hl2,hG2,hlen,nn6,nn12,d6,d12',j8,w1,q1,s1,hZ _ _ nQ qH,hZ _ _ qH nQ,cv1,q2,q2',ck2,s2,ncr,nz,i0',l0',i1',l1',k0,ne12,Ah,aRU hk1,btt,q3,s3,Hi,w3,bF,st1,d12,i4',i5',l44,l54,l55,q4,s4,st3,st4,st5,t1,t2,bZ,u1,u2,hd]
      exact⟨_,rfl,u3⟩
theorem aLQ (hm:200<m){u:Value}{bs:List UInt8}(hu:Bs H u bs): ∃H',lvl prog pkN m (.func 74) [u] H=some (n9 bs,H')/\Ext H H':=by
 by_cases h6:bs.length=6
 ·exact aAe hm hu (.inl h6)
 ·by_cases h12:bs.length=12
  ·exact aAe hm hu (.inr h12)
  ·exact aLL U hu h6 h12
end
end Go.Proofs.YtndnnndnhnlkdaaGreatDoor
namespace Go.Abs
open M
def Rq {α:Type}(el:α->List Value)(e:TypeId)(sz:Nat)(H:aE)(v:Value)(xs:List α):Prop:=
 (v= .slice none 0 0/\xs=[])∨ ∃c pre rest cap,v= .slice (some ⟨c,pre.length,none⟩) xs.length cap/\xs.length<=cap/\rest.length=(cap-xs.length)*sz/\H[c]? =some (.cells (pre++(xs.map el).flatten++rest) e .row)
section
variable {α : Type} {el : α → List Value} {e : TypeId} {sz : Nat} {H H' : aE} {v w : Value} {xs ys : List α}
theorem Rq.aAg:Rq el e sz H (.slice none 0 0) ([]:List α):= .inl ⟨rfl,rfl⟩
theorem Rq.O9 (h:Rq el e sz H v xs):cK v=some (.int .i64 xs.length):=by
 rcases h with⟨rfl,rfl⟩|⟨c,pre,rest,cap,rfl,_⟩<;>rfl
theorem Rq.blk (h:Rq el e sz H v xs){b:Nat}(hb:cP v b): ∃cs,H[b]? =some (.cells cs e .row):=by
 rcases h with⟨rfl,rfl⟩|⟨c,pre,rest,cap,rfl,_,_,h3⟩
 ·obtain⟨_,_,_,hh⟩:=hb
  cases hh
 ·obtain⟨_,_,_,hh⟩:=hb
  cases hh
  exact⟨_,h3⟩
theorem Rq.wO (h:Rq el e sz H v xs){b:Nat}(hb:cP v b):b<H.length:=by
 obtain⟨cs,hc⟩:=h.blk hb;exact dT hc
theorem Rq.yK (h:Rq el e sz H v xs)(hk: ∀b,cP v b->H'[b]? =H[b]?):Rq el e sz H' v xs:=by
 rcases h with h|⟨c,pre,rest,cap,rfl,h1,h2,h3⟩
 ·exact .inl h
 ·exact .inr ⟨c,pre,rest,cap,rfl,h1,h2,by rw[hk c ⟨_,_,_,rfl⟩,h3]⟩
theorem Rq.ext (h:Rq el e sz H v xs)(he:Ext H H'):Rq el e sz H' v xs:=h.yK λb hb=>he.2 b (h.wO hb) id
theorem Rq.rs (h:Rq el e sz H v xs):Rs el e H v xs:=by
 rcases h with h|⟨c,pre,rest,cap,rfl,h1,h2,h3⟩
 ·exact .inl h
 ·exact .inr ⟨c,_,cap,rfl,h1,λ_=>⟨e,.row,pre,rest,rfl,λ_=>rfl,h3⟩⟩
theorem Rq.Aj (h:Rq el e sz H v xs):v.cells.toList=[v]/\dX [v]=true:=by
 rcases h with⟨rfl,rfl⟩|⟨c,pre,rest,cap,rfl,_⟩<;>exact⟨rfl,rfl⟩
theorem Rq.aLT {P:Program}{x:α}(hsz: ∀x,(el x).length=sz)(he:P.cellsOf e=sz)(h:Rq el e sz H v (x::xs)): ∃v',(∀H',Rq el e sz H' v (x::xs)->slc P sz v (some (.int .i64 1)) none none H'=some (v',H'))/\Rq el e sz H v' xs/\ ∀b,cP v' b->cP v b:=by
 rcases h with⟨_,h⟩|⟨c,pre,rest,cap,rfl,h1,h2,h3⟩
 ·cases h
 ·simp only[aRw] at h1 h2
  refine⟨.slice (some ⟨c,pre.length+1*sz,none⟩) ((x::xs).length-1) (cap-1),λH' h'=> ?_,.inr ⟨c,pre++el x,rest,cap-1,by simp[hsz],by omega,by rw[h2];congr 1;omega,by rw[h3];simp⟩,?_⟩
  ·rcases h' with⟨_,h⟩|⟨c',pre',rest',cap',heq,_,_,h3'⟩
   ·cases h
   ·injection heq with a1 a2 a3
    injection a1 with a1;injection a1 with b1 b2;subst b1 a3;rw[b2];exact uZ (P:=P) (H:=H') (sz:=sz) (o:=pre'.length) h3' (λ_=>he) (len:=(x::xs).length) (cap:=cap) (hi:=none) (mx:=none) (oE 0 .i64 1) rfl rfl (by simp) (by simpa using h1) (aRf _)
  ·rintro b ⟨o,n,k,hh⟩
   cases hh
   exact⟨_,_,_,rfl⟩
theorem Rq.aAh (hsz: ∀x,(el x).length=sz)(hall: ∀x,dX (el x)=true)(h0:0<sz){by':Nat}(h:Rq el e sz H v xs)(x:α)(hr:hP (xs.length+1) by'=true):
  ∃v' H',Go.Abs.app e sz by' v (.slice (some ⟨H.length,0,none⟩) 1 1) (H++[.cells (el x) e .row])=some (v',H')/\Rq el e sz H' v' (xs++[x])/\Fr (cP v) H H'/\ ∀b,cP v' b->cP v b∨(H.length<=b/\b<H'.length):=by
 have hw:Rr el e (H++[.cells (el x) e .row]) (.slice (some ⟨H.length,0,none⟩) 1 1) [x]:=xS (el:=el) x H;have hs:gU sz (.slice (some ⟨H.length,0,none⟩) 1 1) 1 (H++[.cells (el x) e .row])=some (el x):=by
  have:=hw.Vl hsz;simpa using this
 have hl:mL (.slice (some ⟨H.length,0,none⟩) 1 1)=some 1:=rfl;have hne:el x≠[]:=λhh=>by have:=hsz x;rw[hh] at this;simp at this;omega
 have hle:(H++[Blk.cells (el x) e .row]).length=H.length+1:=by simp
 unfold Go.Abs.app;rw[hl];simp only;rw[hs];simp only;rcases h with⟨rfl,rfl⟩|⟨c,pre,rest,cap,rfl,h1,h2,h3⟩
 ·simp only
  rw[if_neg aC,if_pos (show hP 1 by'=true from hr)]
  refine⟨_,_,rfl,.inr ⟨_,[],[],1,rfl,by simp,by simp,by rw[eC];simp⟩,⟨by simp,λb hb _=>by rw[aRh,aRd hb]⟩,?_⟩
  rintro b ⟨o,n,k,hh⟩
  cases hh;exact .inr ⟨by simp,by simp⟩
 ·have hc:=dT h3
  have hg:(H++[Blk.cells (el x) e .row])[c]? =some (.cells (pre++(xs.map el).flatten++rest) e .row):=oO h3 _;have hf:=tR (xs.map el) (uX hsz);rw[aRo] at hf;simp only;rw[hg];simp only;by_cases hroom:xs.length+1<=cap
  ·rw[if_pos hroom,if_neg hne]
   have hrl:sz<=rest.length:=by
    rw[h2]
    calc sz=1*sz:=(Nat.one_mul sz).symm
     _<=(cap-xs.length)*sz:=Nat.mul_le_mul_right sz U
   rw[if_pos ⟨by decide,by simp only[aRm,hf];omega,hall x⟩]
   have hset:eS (pre++(xs.map el).flatten++rest) (pre.length+xs.length*sz) (el x)=pre++((xs++[x]).map el).flatten++rest.drop sz:=by
    have:=wA (el x) (rest.take sz) (pre++(xs.map el).flatten) (rest.drop sz) (by rw[List.length_take,hsz];omega)
    rw[aRh _ (rest.take sz),List.take_append_drop,aRm,hf] at this;rw[this];simp
   rw[hset];refine⟨_,_,rfl,.inr ⟨c,pre,rest.drop sz,cap,by simp,by simpa using hroom,?_,fS hg⟩,⟨by simp,λb hb hh=> ?_⟩,?_⟩
   ·rw[List.length_drop,h2,aRm,List.length_singleton,show cap-xs.length=(cap-(xs.length+1))+1 by omega,Nat.succ_mul]
    omega
   ·rw[aRb (λhx=>hh (by subst hx;exact⟨_,_,_,rfl⟩)),aRd hb]
   ·rintro b ⟨o,n,k,hh⟩
    cases hh;exact .inl ⟨_,_,_,rfl⟩
  ·rw[if_neg hroom,if_pos ⟨trivial,trivial,by simp only[aRm,hf];omega,hr,hall x⟩]
   have hcut:((pre++(xs.map el).flatten++rest).drop pre.length).take (xs.length*sz)=(xs.map el).flatten:=by
    rw[aRh,List.drop_left,<-hf,List.take_left]
   rw[hcut];have hlen:((H++[Blk.cells (el x) e .row]).set c .dead).length=H.length+1:=by simp
   refine⟨_,_,rfl,.inr ⟨H.length+1,[],[],xs.length+1,by simp,by simp,by simp,by rw[<-hlen,eC];simp⟩,⟨by simp;omega,λb hb hh=> ?_⟩,?_⟩
   ·rw[aRd (by rw[hlen];omega),aRb (λhx=>hh (by subst hx;exact⟨_,_,_,rfl⟩)),aRd hb]
   ·rintro b ⟨o,n,k,hh⟩
    cases hh;exact .inr ⟨by simp,by simp⟩
end
end Go.Abs
namespace Go.Proofs.YtndnnndnhnlkdaaGreatDoor
open Go.Proofs.Tryz
open Go.Abs Go.Abs.M
theorem Hm (n sz b o:Nat)(k:IntKind)(i:Nat)(h1:i<n):rF n sz (.Q b o) (.int k (i:Int))=some (.Q b (o+i*sz)):=by
 simp[rF,adr,h1]
abbrev Pq (H:aE)(v:Value)(xs:List Pkt):Prop:=Rq Pkt.pA 39 4 H v xs
theorem C3 (x:Pkt):x.pA.length=4:=rfl
theorem aAi (x:Pkt):dX x.pA=true:=rfl
def C1 (w0 w1 w2 cv:Value)(lanes queue:Nat):Blk:= .cells [w0,w1,w2,cv,.int .i64 lanes,.int .i64 queue] 161 .fix
def w3 (w0 w1 w2:Value)(k:Nat):Value:=if k=0 then w0 else if k=1 then w1 else w2
structure HostI (D:aE)(a:Nat)(L G:List Pkt)(lanes queue:Nat)(w0 w1 w2 cv:Value):Prop where
 blk:D[a]? =some (C1 w0 w1 w2 cv lanes queue)
 lanes:1<=lanes/\lanes<=3
 queue:1<=queue/\queue<=8
 q: ∀k,k<3->Pq D (w3 w0 w1 w2 k) (eV L k)
 came:Pq D cv G
 apart: ∀k j,k<3->j<3->k≠j-> ∀b,cP (w3 w0 w1 w2 k) b-> ¬cP (w3 w0 w1 w2 j) b
 apartC: ∀k,k<3-> ∀b,cP (w3 w0 w1 w2 k) b-> ¬cP cv b
def HostAt (D:aE)(a:Nat)(L G:List Pkt)(lanes queue:Nat):Prop:= ∃w0 w1 w2 cv,HostI D a L G lanes queue w0 w1 w2 cv
section
variable {D : aE} {m a lanes queue : Nat} {L G : List Pkt} {w0 w1 w2 cv : Value}
theorem HostAt.ext {D':aE}(h:HostAt D a L G lanes queue)(he:Ext D D'):HostAt D' a L G lanes queue:=by
 obtain⟨w0,w1,w2,cv,h⟩:=h
 exact⟨w0,w1,w2,cv,by rw[he.2 a (dT h.blk) id,h.blk],h.lanes,h.queue,λk hk=>(h.q k hk).ext he,h.came.ext he,h.apart,h.apartC⟩
theorem Hl (h:HostI D a L G lanes queue w0 w1 w2 cv)(hm:0<m)(k:Int):lvl prog pkN m (.func 88) [.Q a 0,.I k] D=some (.bool (decide (0<=k/\k<lanes)),D):=by
 refine dH (cV rfl) hm ?_;rw[aK2];have l4:ld1 (.Q a 4) D=some (.I lanes,D):=dI h.blk rfl;by_cases h0:0<=k
 ·by_cases h1:k<lanes
  ·simp only[gsR,aRU h0,l4,aRU h1,aRU (show 0<=k/\k<lanes from⟨h0,h1⟩)]
  ·simp only[gsR,aRU h0,l4,aRV h1,aRV (show¬(0<=k/\k<lanes) from λh=>h1 h.2)]
 ·simp only[gsR,aRV h0,aRV (show¬(0<=k/\k<lanes) from λh=>h0 h.1)]
theorem C2 (h:HostI D a L G lanes queue w0 w1 w2 cv){k:Nat}(hk:k<3):ld1 (.Q a k) D=some (w3 w0 w1 w2 k,D):=by
 match k,hk with
 |0,_=>exact dI h.blk rfl
 |1,_=>exact dI h.blk rfl
 |2,_=>exact dI h.blk rfl
theorem Pa (h:HostI D a L G lanes queue w0 w1 w2 cv)(hm:1<m)(k:Nat)(hk:k<lanes):lvl prog pkN m (.func 60) [.Q a 0,.I k] D=some (.I (eV L k).length,D):=by
 have h3:k<3:=aRp hk h.lanes.2;refine dH (cV rfl) U ?_
 rw[aKM];have e1:=Hl h (m:=m-1) U (k:Int)
 have c:decide (0<=(k:Int)/\(k:Int)<lanes)=true:=by rw[decide_eq_true_eq];omega
 have e2:=Hm 3 1 a 0 .i64 k h3;rw[Nat.mul_one,aRv] at e2;simp only[gsR,e1,c,e2,C2 h h3,(h.q k h3).O9]
theorem aLU (hm:0<m)(lanes queue:Nat)(h1:1<=lanes/\lanes<=3)(h2:1<=queue/\queue<=8): ∃a H',lvl prog pkN m (.func 50) [.I lanes,.I queue] D=some (.Q a 0,H')/\HostAt H' a [] [] lanes queue/\Ext D H'/\D.length<=a:=by
 have main:lvl prog pkN m (.func 50) [.I lanes,.I queue] D=some (.Q D.length 0,D++[C1 (.slice none 0 0) (.slice none 0 0) (.slice none 0 0) (.slice none 0 0) lanes queue]):=by
  refine dH (cV rfl) hm ?_;rw[aKH];have c1:decide ((lanes:Int)<1)=false:=by rw[decide_eq_false_iff_not];omega
  have c2:decide (3<(lanes:Int))=false:=by rw[decide_eq_false_iff_not];omega
  have c3:decide ((queue:Int)<1)=false:=by rw[decide_eq_false_iff_not];omega
  have c4:decide (8<(queue:Int))=false:=by rw[decide_eq_false_iff_not];omega
  have e3:bld prog 161 [(2,.I lanes),(3,.I queue)]=some (.agg #[.slice none 0 0,.slice none 0 0,.slice none 0 0,.slice none 0 0,.I lanes,.I queue]):=rfl;simp only[gsR,c1,c2,c3,c4,e3];rfl
 have hn: ∀k b,¬cP (w3 (.slice none 0 0) (.slice none 0 0) (.slice none 0 0) k) b:=λk b hh=>by
  have:w3 (.slice none 0 0) (.slice none 0 0) (.slice none 0 0) k= .slice none 0 0:=by unfold w3;split<;>(try split)<;>rfl
  rw[this] at hh;obtain⟨_,_,_,hh⟩:=hh;cases hh
 refine⟨_,_,main,⟨_,_,_,_,eC _ _,h1,h2,λk hk=> ?_,Rq.aAg,λk j _ _ _ b hb=>absurd hb (hn k b),λk _ b hb=>absurd hb (hn k b)⟩,Fr.app _ _ _,aRf _⟩
 have:w3 (.slice none 0 0) (.slice none 0 0) (.slice none 0 0) k= .slice none 0 0:=by unfold w3;split<;>(try split)<;>rfl
 rw[this];exact Rq.aAg
end
def eT (x:Pkt):Blk:= .cells x.pA 39 .fix
theorem aLY (w0 w1 w2:Value){k:Nat}(hk:k<3)(v:Value): ∃u0 u1 u2,(∀a b c:Value,([w0,w1,w2,a,b,c]:List Value).set k v=[u0,u1,u2,a,b,c])/\ ∀j,j<3->w3 u0 u1 u2 j=if j=k then v else w3 w0 w1 w2 j:=by
 match k,hk with
 |0,_=>exact⟨v,w1,w2,λ_ _ _=>rfl,λj hj=>by match j,hj with|0,_=>rfl|1,_=>rfl|2,_=>rfl⟩
 |1,_=>exact⟨w0,v,w2,λ_ _ _=>rfl,λj hj=>by match j,hj with|0,_=>rfl|1,_=>rfl|2,_=>rfl⟩
 |2,_=>exact⟨w0,w1,v,λ_ _ _=>rfl,λj hj=>by match j,hj with|0,_=>rfl|1,_=>rfl|2,_=>rfl⟩
theorem aAk (L:List Pkt)(x:Pkt)(k:Int):eV (L++[x]) k=if x.lane=k then eV L k++[x] else eV L k:=by
 unfold eV;rw[List.filter_append];by_cases h:x.lane=k<;>simp[h]
section
variable {D : aE} {m a lanes queue : Nat} {L G : List Pkt} {w0 w1 w2 cv : Value}
theorem HostI.aAj {D':aE}(h:HostI D a L G lanes queue w0 w1 w2 cv){k:Nat}(hk:k<3){v:Value}{L':List Pkt}(hf:Fr (cP (w3 w0 w1 w2 k)) D D')(hv:Pq D' v (eV L' k))(hn: ∀b,cP v b->cP (w3 w0 w1 w2 k) b∨(D.length<=b/\b<D'.length))
  (hL: ∀j:Nat,j<3->j≠k->eV L' j=eV L j):HostAt (D'.set a (.cells (([w0,w1,w2,cv,.I lanes,.I queue]:List Value).set k v) 161 .fix)) a L' G lanes queue:=by
 obtain⟨u0,u1,u2,e1,e2⟩:=aLY w0 w1 w2 hk v;have hna: ∀w,(∃xs:List Pkt,Pq D w xs)-> ¬cP w a:=λw ⟨xs,hw⟩ hh=>by
  obtain⟨cs,hc⟩:=hw.blk hh;rw[h.blk] at hc;cases hc
 have ha:D'[a]? =D[a]? :=hf.2 a (dT h.blk) (hna _ ⟨_,h.q k hk⟩);have hva: ¬cP v a:=λhh=>by
  obtain⟨cs,hc⟩:=hv.blk hh;rw[ha,h.blk] at hc;cases hc
 have hlt:a<D'.length:=aRp (dT h.blk) hf.1;rw[e1];have out: ∀w (xs:List Pkt),Pq D w xs->(∀b,cP w b-> ¬cP (w3 w0 w1 w2 k) b)->Pq (D'.set a (.cells [u0,u1,u2,cv,.I lanes,.I queue] 161 .fix)) w xs:=λw xs hw hd=>hw.yK λb hb=>by
  rw[aRb (λhx=>by subst hx;exact hna w ⟨xs,hw⟩ hb),hf.2 b (hw.wO hb) (hd b hb)]
 refine⟨u0,u1,u2,cv,aRg hlt,h.lanes,h.queue,λj hj=> ?_,out cv G h.came λb hb hh=>h.apartC k hk b hh hb,λi j hi hj hij b hb hb'=> ?_,λi hi b hb hb'=> ?_⟩
 ·rw[e2 j hj]
  by_cases hjk:j=k
  ·subst hjk
   rw[if_pos rfl];exact hv.yK λb hb=>aRb (λhx=>hva (by subst hx;exact hb))
  ·rw[if_neg hjk,hL j hj hjk]
   exact out _ _ (h.q j hj) (h.apart j k hj hk hjk)
 ·rw[e2 i hi] at hb
  rw[e2 j hj] at hb';by_cases hik:i=k
  ·rw[if_pos hik] at hb
   rw[if_neg (λhh=>hij (hik.trans hh.symm))] at hb'
   rcases hn b hb with h1|h1
   ·exact h.apart k j hk hj (λhh=>hij (hik.trans hh)) b h1 hb'
   ·have:=(h.q j hj).wO hb'
    omega
  ·rw[if_neg hik] at hb
   by_cases hjk:j=k
   ·rw[if_pos hjk] at hb'
    rcases hn b hb' with h1|h1
    ·exact h.apart i k hi hk hik b hb h1
    ·have:=(h.q i hi).wO hb
     omega
   ·rw[if_neg hjk] at hb'
    exact h.apart i j hi hj hij b hb hb'
 ·rw[e2 i hi] at hb
  by_cases hik:i=k
  ·rw[if_pos hik] at hb
   rcases hn b hb with h1|h1
   ·exact h.apartC k hk b h1 hb'
   ·have:=h.came.wO hb'
    omega
  ·rw[if_neg hik] at hb
   exact h.apartC i hi b hb hb'
theorem sK {H:aE}{b:Nat}{x:Pkt}(hb:H[b]? =some (eT x)):ld1 (.Q b 2) H=some (.I x.lane,H)/\ldN 4 (.Q b 0) H=some (x.dV,H):=⟨dI hb rfl,qA hb (aRf 4)⟩
theorem aLW (h:HostI D a L G lanes queue w0 w1 w2 cv)(hm:2<m)(x:Pkt)(hx: ¬(0<=x.lane/\x.lane<lanes)):lvl prog pkN m (.func 57) [.Q a 0,x.dV] D=some (.int .u16 1,D++[eT x]):=by
 refine dH (cV rfl) U ?_
 rw[Ny];have e0:(Blk.cells (Value.cells x.dV).toList 39 .fix)=eT x:=rfl;obtain⟨l2,l4⟩:=sK (eC D (eT x));obtain⟨u0,u1,u2,cu,h'⟩:HostAt (D++[eT x]) a L G lanes queue:=HostAt.ext ⟨w0,w1,w2,cv,h⟩ (Fr.app _ _ _);have e1:=Hl h' (m:=m-1) U x.lane
 simp only[gsR,e0,l2,e1,aRV hx]
theorem aLV (h:HostI D a L G lanes queue w0 w1 w2 cv)(hm:2<m)(x:Pkt)(hx:0<=x.lane/\x.lane<lanes)(hq:(eV L x.lane).length=queue):lvl prog pkN m (.func 57) [.Q a 0,x.dV] D=some (.int .u16 150,D++[eT x]):=by
 refine dH (cV rfl) U ?_
 rw[Ny];have e0:(Blk.cells (Value.cells x.dV).toList 39 .fix)=eT x:=rfl;obtain⟨l2,l4⟩:=sK (eC D (eT x));obtain⟨u0,u1,u2,cu,h'⟩:HostAt (D++[eT x]) a L G lanes queue:=HostAt.ext ⟨w0,w1,w2,cv,h⟩ (Fr.app _ _ _);have e1:=Hl h' (m:=m-1) U x.lane
 obtain⟨k,hk⟩: ∃k:Nat,x.lane=k:=⟨x.lane.toNat,by omega⟩
 have h3:k<3:=by have:=h.lanes.2;omega
 have e2:=Hm 3 1 a 0 .i64 k h3;rw[Nat.mul_one,aRv,<-hk] at e2;have e3:=(h'.q k h3).O9;rw[<-hk,hq] at e3;have l5:ld1 (.Q a 5) (D++[eT x])=some (.I queue,D++[eT x]):=dI h'.blk rfl;have c:((queue:Int)==(queue:Int))=true:=by simp
 simp only[gsR,e0,l2,e1,aRU hx,e2,C2 h' h3,e3,l5,c]
theorem aLX (h:HostI D a L G lanes queue w0 w1 w2 cv)(hm:2<m)(x:Pkt)(hx:0<=x.lane/\x.lane<lanes)(hq:(eV L x.lane).length≠queue)(hr:hP ((eV L x.lane).length+1) 32=true): ∃H',lvl prog pkN m (.func 57) [.Q a 0,x.dV] D=some (.int .u16 0,H')/\HostAt H' a (L++[x]) G lanes queue:=by
 refine mF (cV rfl) U ?_
 rw[Ny];have e0:(Blk.cells (Value.cells x.dV).toList 39 .fix)=eT x:=rfl;obtain⟨l2,l4⟩:=sK (eC D (eT x));have hb1:=eC D (eT x);obtain⟨u0,u1,u2,cu,h'⟩:HostAt (D++[eT x]) a L G lanes queue:=HostAt.ext ⟨w0,w1,w2,cv,h⟩ (Fr.app _ _ _);have e1:=Hl h' (m:=m-1) U x.lane
 obtain⟨k,hk⟩: ∃k:Nat,x.lane=k:=⟨x.lane.toNat,by omega⟩
 have h3:k<3:=by have:=h.lanes.2;omega
 have e2:=Hm 3 1 a 0 .i64 k h3;rw[Nat.mul_one,aRv,<-hk] at e2;have e3:=(h'.q k h3).O9;have l5:ld1 (.Q a 5) (D++[eT x])=some (.I queue,D++[eT x]):=dI h'.blk rfl;have c:(((eV L (k:Int)).length:Int)==(queue:Int))=false:=by rw[<-hk];simp;omega
 obtain⟨D1,hD1⟩: ∃D1,D++[eT x]=D1:=⟨_,rfl⟩;rw[hD1] at l2 l4 h' e1 l5 hb1;have eb:dR 39 4 1 [.I 0,.I 0,.I 0,.int .u32 0] [(0,x.dV)] D1=some (.slice (some ⟨D1.length,0,none⟩) 1 1,D1++[.cells x.pA 39 .row]):=rfl;obtain⟨v',H',g1,g2,g3,g4⟩:=(h'.q k h3).aAh C3 aAi aC (by':=32) x (by rw[<-hk];exact hr)
 have hnp: ¬cP (w3 u0 u1 u2 k) D.length:=λhh=>by
  obtain⟨cs,hc⟩:=(h'.q k h3).blk hh;rw[hb1] at hc;cases hc
 have hb2:H'[D.length]? =some (eT x):=by rw[g3.2 _ (dT hb1) hnp,hb1]
 have l2':=(sK hb2).1;have hna: ¬cP (w3 u0 u1 u2 k) a:=λhh=>by
  obtain⟨cs,hc⟩:=(h'.q k h3).blk hh;rw[h'.blk] at hc;cases hc
 have ha':H'[a]? =some (C1 u0 u1 u2 cu lanes queue):=by rw[g3.2 _ (dT h'.blk) hna,h'.blk]
 have st:stN 1 (.Q a k) v' H'=some (undef,H'.set a (.cells (([u0,u1,u2,cu,.I lanes,.I queue]:List Value).set k v') 161 .fix)):=pP ha' aC (by simp;omega) g2.Aj.1 g2.Aj.2
 have ck:chk (some (Value.I x.lane,H')) (.I x.lane)=true:=by simp[chk,veq]
 simp only[gsR,e0,hD1,l2,e1,aRU hx,e2,C2 h' h3,e3,l5,c,l4,eb,g1,l2',ck,st];refine⟨_,rfl,h'.aAj h3 g3 ?_ g4 λj hj hjk=> ?_⟩
 ·rw[aAk,if_pos hk]
  exact g2
 ·rw[aAk,if_neg U]
end
section
variable {D : aE} {m a lanes queue : Nat} {L G : List Pkt} {w0 w1 w2 cv : Value}
theorem aLZ (h:HostI D a L G lanes queue w0 w1 w2 cv)(hm:0<m)(x:Pkt)(hr:hP (G.length+1) 32=true): ∃H',lvl prog pkN m (.func 104) [.Q a 0,x.dV] D=some (aL [],H')/\HostAt H' a L (G++[x]) lanes queue:=by
 refine mF (cV rfl) U ?_
 rw[aKd];have e0:(Blk.cells (Value.cells x.dV).toList 39 .fix)=eT x:=rfl;obtain⟨l2,l4⟩:=sK (eC D (eT x));obtain⟨u0,u1,u2,cu,h'⟩:HostAt (D++[eT x]) a L G lanes queue:=HostAt.ext ⟨w0,w1,w2,cv,h⟩ (Fr.app _ _ _);obtain⟨D1,hD1⟩: ∃D1,D++[eT x]=D1:=⟨_,rfl⟩;rw[hD1] at l2 l4 h';have l3:ld1 (.pointer (some ⟨a,3,none⟩)) D1=some (cu,D1):=dI h'.blk rfl;have eb:dR 39 4 1 [.int .i64 0,.int .i64 0,.int .i64 0,.int .u32 0] [(0,x.dV)] D1=some (.slice (some ⟨D1.length,0,none⟩) 1 1,D1++[.cells x.pA 39 .row]):=rfl;obtain⟨v',H',g1,g2,g3,g4⟩:=h'.came.aAh C3 aAi aC (by':=32) x hr
 have hna: ¬cP cu a:=λhh=>by
  obtain⟨cs,hc⟩:=h'.came.blk hh;rw[h'.blk] at hc;cases hc
 have ha':H'[a]? =some (C1 u0 u1 u2 cu lanes queue):=by rw[g3.2 _ (dT h'.blk) hna,h'.blk]
 have st:stN 1 (.Q a 3) v' H'=some (undef,H'.set a (C1 u0 u1 u2 v' lanes queue)):=pP ha' aC (by simp) g2.Aj.1 g2.Aj.2
 have hva: ¬cP v' a:=λhh=>by
  obtain⟨cs,hc⟩:=g2.blk hh;rw[ha'] at hc;cases hc
 simp only[gsR,e0,hD1,l3,l4,eb,g1,st];refine⟨_,rfl,u0,u1,u2,v',fS ha',h'.lanes,h'.queue,λj hj=>(h'.q j hj).yK λb hb=> ?_,g2.yK λb hb=>aRb (λhx=>hva (by subst hx;exact hb)),h'.apart,λi hi b hb hb'=> ?_⟩
 ·have hab:a≠b:=λhx=>by
   subst hx;obtain⟨cs,hc⟩:=(h'.q j hj).blk hb;rw[h'.blk] at hc;cases hc
  rw[aRb hab,g3.2 b ((h'.q j hj).wO hb) (h'.apartC j hj b hb)]
 ·rcases g4 b hb' with h1|h1
  ·exact h'.apartC i hi b hb h1
  ·have:=(h'.q i hi).wO hb
   omega
end
end Go.Proofs.YtndnnndnhnlkdaaGreatDoor
namespace Go.Abs
open M
structure PkN (c:Cfg)(x:Pkt):Prop where
 src:0<=x.src/\x.src<c.nodes
 dst:0<=x.dst/\x.dst<c.nodes
 lane:0<=x.lane/\x.lane<c.lanes
 body:0<=x.body/\x.body<4294967296
structure SndI (t:Nat)(x:Snd):Prop where
 le:x.s<=x.l
 wide:x.l<=x.s+8
 big:x.s<=65536+t
structure RcvI (room t:Nat)(x:Rcv):Prop where
 h:x.h<=room
 big:x.n<=65536+9*t
structure WhlI (lanes:Nat)(x:Whl):Prop where
 len:x.l.length=lanes
 wt: ∀y∈x.l,0<=y/\y<=5
 fr:x.fr<lanes
structure NInv (c:Cfg)(t:Nat)(s:NS):Prop where
 snd: ∀i k,SndI t (s.snd i k)
 rcv: ∀i k,RcvI c.room t (s.rcv i k)
 hG:s.hG.length<=t
 ticks:s.ticks<=t
 hL: ∀x∈s.hL,PkN c x
 hQ: ∀k:Int,(eV s.hL k).length<=c.queue
 rL: ∀e∈s.rL,PkN c e.2
 rN:s.rL.length<=c.aI*c.lanes*c.room
 gl:s.g.length=c.aI
 al:s.a.length=c.aI
 g: ∀x∈s.g,x<c.aI
 a: ∀x∈s.a,x<c.aI
 whl: ∀i,WhlI c.lanes (s.whl i)
theorem SndI.aAq {t t':Nat}{x:Snd}(h:SndI t x)(ht:t<=t'):SndI t' x:=⟨h.le,h.wide,aRq h.big U⟩
theorem RcvI.aL5 {room t t':Nat}{x:Rcv}(h:RcvI room t x)(ht:t<=t'):RcvI room t' x:=⟨h.h,aRq h.big U⟩
theorem NInv.Ak {c:Cfg}{t t':Nat}{s:NS}(h:NInv c t s)(ht:t<=t'):NInv c t' s:=
 {h with snd:=λi k=>(h.snd i k).aAq ht,rcv:=λi k=>(h.rcv i k).aL5 ht,hG:=aRq h.hG ht,ticks:=aRq h.ticks ht}
theorem SndI.aL6 {t:Nat}{x:Snd}(h:SndI t x):SndI (t+1) x.oP.2:=by
 unfold Snd.oP;split
 ·exact h.aAq U
 ·have:=h.le
  have:=h.wide;have:=h.big
  exact⟨by simp only;omega,by simp only;omega,by simp only;omega⟩
theorem RcvI.aL4 {room t:Nat}{x:Rcv}(h:RcvI room t x):RcvI room t x.vB:=⟨by have:=h.h;unfold Rcv.vB;simp only;omega,h.big⟩
theorem aAs {α:Type}{P:α->Prop}{f:Nat->Nat->α}{i k:Nat}{x:α}(h: ∀i k,P (f i k))(hx:P x)(j l:Nat):P (up2 f i k x j l):=by
 unfold up2;split
 ·exact hx
 ·exact h j l
theorem aMd {α:Type}{P:α->Prop}{f:Nat->α}{i:Nat}{x:α}(h: ∀i,P (f i))(hx:P x)(j:Nat):P (up1 f i x j):=by
 unfold up1;split
 ·exact hx
 ·exact h j
theorem aMg (L:List Pkt)(x:Pkt)(k:Int):eV (L++[x]) k=if x.lane=k then eV L k++[x] else eV L k:=by
 unfold eV;rw[List.filter_append];by_cases h:x.lane=k<;>simp[h]
theorem aAr {L:List Pkt}{k:Int}{x:Pkt}(h:x∈sD L k):x∈L:=List.mem_of_mem_eraseP h
theorem Hn (L:List Pkt)(k j:Int):eV (sD L k) j=if j=k then(eV L k).tail else eV L j:=by
 induction L with
 |nil=>simp[eV,sD]
 |cons x L ih=>
  unfold eV sD at*;by_cases hx:x.lane=k
  ·subst hx
   rw[List.eraseP_cons_of_pos (by simp)]
   by_cases hj:j=x.lane
   ·rw[if_pos hj,hj]
    simp
   ·rw[if_neg hj,List.filter_cons_of_neg (by simp;omega)]
  ·rw[List.eraseP_cons_of_neg (by simp[hx])]
   by_cases hj:j=k
   ·subst hj
    rw[if_pos rfl,List.filter_cons_of_neg (by simp[hx]),List.filter_cons_of_neg (by simp[hx]),ih,if_pos rfl]
   ·rw[if_neg hj] at ih⊢
    rw[List.filter_cons,List.filter_cons,ih]
theorem aL9 {L:List (fW×Pkt)}{w:fW}{e:fW×Pkt}(h:e∈pC L w):e∈L:=List.mem_of_mem_eraseP h
theorem aL8 (L:List (fW×Pkt))(w:fW):(pC L w).length<=L.length:=(List.eraseP_sublist).length_le
theorem aMb {c:Cfg}{L:List (fW×Pkt)}{w:fW}{x:Pkt}{e:fW×Pkt}(h:e∈yI c L w x):e∈L∨e.2=x:=by
 unfold yI at h
 split at h
 ·rcases List.mem_append.mp h with h|h
  ·exact .inl h
  ·simp at h
   exact .inr (by rw[h])
 ·exact .inl h
theorem aMa {c:Cfg}{L:List (fW×Pkt)}{w:fW}{x:Pkt}(h:L.length<=c.aI*c.lanes*c.room):(yI c L w x).length<=c.aI*c.lanes*c.room:=by
 unfold yI;split
 ·rename_i hc
  simp;omega
 ·exact h
theorem aMc {L:List (fW×Pkt)}{w:fW}{x:Pkt}(h:x∈oR L w): ∃e∈L,e.2=x/\e.1=w:=by
 unfold oR at h;obtain⟨e,h1,h2⟩:=aRN.mp h;obtain⟨h3,h4⟩:=List.mem_filter.mp h1
 exact⟨e,h3,h2,by simpa using h4⟩
section
variable {c : Cfg} {t : Nat} {s : NS}
theorem NInv.aL2 (hc:c.ok):NInv c 0 (NS.m9 c) where
 snd:=λi k=>⟨by simp[NS.m9],by have:=hc.room;simp[NS.m9];omega,by have:=hc.start;simp[NS.m9];omega⟩
 rcv:=λi k=>⟨by simp[NS.m9],by have:=hc.start;simp[NS.m9];omega⟩
 hG:=aRf _
 ticks:=aRf _
 hL:=λx hx=>by simp[NS.m9] at hx
 hQ:=λk=>by simp[NS.m9,eV]
 rL:=λx hx=>by simp[NS.m9] at hx
 rN:=by simp[NS.m9]
 gl:=by simp[NS.m9]
 al:=by simp[NS.m9]
 g:=λx hx=>by
  simp[NS.m9] at hx;unfold Cfg.aI;omega
 a:=λx hx=>by
  simp[NS.m9] at hx;unfold Cfg.aI;omega
 whl:=λi=>⟨hc.wlen,λy hy=>by have:=hc.wts y hy;omega,by have:=hc.lanes;simp[NS.m9];omega⟩
theorem NInv.aL3 (h:NInv c t s){x:Pkt}(hx:0<=x.lane/\x.lane<c.lanes->PkN c x):NInv c t (sI c x s).2:=by
 unfold Go.Abs.sI;split
 ·exact h
 ·rename_i hl
  split
  ·exact h
  ·rename_i hq
   have hl':0<=x.lane/\x.lane<c.lanes:=U
   refine {h with hL:=λy hy=> ?_,hQ:=λk=> ?_}
   ·rcases List.mem_append.mp hy with hy|hy
    ·exact h.hL y hy
    ·simp at hy
     rw[hy];exact hx hl'
   ·rw[aMg]
    split
    ·rename_i he
     subst he;have:=h.hQ x.lane;simp;omega
    ·exact h.hQ k
theorem NInv.aL1 (hc:c.ok)(h:NInv c t s){x:Pkt}(hb:0<=x.body/\x.body<4294967296):NInv c t (qE c x s).2:=by
 unfold Go.Abs.qE;split
 ·exact h
 ·rename_i hn
  refine h.aL3 λhl=>⟨?_,?_,hl,hb⟩
  ·have:=hc.me
   omega
  ·omega
theorem NInv.aAo (hc:c.ok)(h:NInv c t s)(k:Nat):NInv c t (oH c s k):=by
 unfold Go.Abs.oH;split
 ·exact h
 ·split
  ·exact h
  ·rename_i x xs hx
   have hxm:x∈s.hL:=by
    have:x∈eV s.hL k:=by rw[hx];exact aRj ..
    exact(List.mem_filter.mp this).1
   refine {h with hL:=λy hy=>h.hL y (aAr hy),hQ:=λj=> ?_,rL:=λe he=> ?_,rN:=aMa h.rN}
   ·rw[Hn]
    split
    ·have:=h.hQ k
     simp;omega
    ·exact h.hQ j
   ·rcases aMb he with he|he
    ·exact h.rL e he
    ·rw[he]
     exact h.hL x hxm
theorem NInv.aAp (hc:c.ok): ∀(l:List Nat){s:NS},NInv c t s->NInv c t (l.foldl (Go.Abs.oH c) s)
 |[],_,h=>h
 |k::l,_,h=>by
  rw[List.foldl_cons];exact NInv.aAp hc l (h.aAo hc k)
theorem NInv.aL0 (hc:c.ok)(h:NInv c t s):NInv c t (lA c s):=NInv.aAp hc _ h
theorem aMf (hc:c.ok){w:Whl}(hw:WhlI c.lanes w)(may:Nat->Bool):WhlI c.lanes (lH c.weights w may).2:=by
 unfold lH;split
 ·rename_i ha
  split
  ·rename_i i hi
   have hfull:(mG c.weights w may).length=c.lanes/\ ∀y∈mG c.weights w may,0<=y/\y<=5:=by
    unfold mG;split
    ·exact⟨hw.len,hw.wt⟩
    ·exact⟨hc.wlen,λy hy=>by have:=hc.wts y hy;omega⟩
   have hp:=wF hi;unfold nL at hp;rw[aRi,decide_eq_true_eq] at hp;refine⟨by simp[hfull.1],λy hy=> ?_,?_⟩
   ·rcases List.mem_or_eq_of_mem_set hy with hy|hy
    ·exact hfull.2 y hy
    ·have hi2:i<(mG c.weights w may).length:=by rw[hfull.1,<-hc.wlen];exact hp.1
     have:=hfull.2 _ (List.getElem_mem hi2);have e:(mG c.weights w may).getD i 0=(mG c.weights w may)[i]:=by rw[aRe,aRc hi2,aRD]
     rw[e] at hp hy;omega
   ·simp only
    rw[hc.wlen];exact Nat.mod_lt _ (by have:=hc.lanes;omega)
  ·exact hw
 ·exact hw
theorem aMe {c:Cfg}{w:Whl}{may:Nat->Bool}{k:Nat}{w':Whl}(h:lH c.weights w may=(some k,w')):k<c.weights.length/\may k=true:=by
 unfold lH at h
 split at h
 ·split at h
  ·rename_i i hi
   cases h;have:=wF hi;unfold nL at this;rw[aRi] at this
   exact⟨this.1,this.2.1⟩
  ·cases h
 ·cases h
theorem aL7 {gr:Nat->Option Nat}{n:Nat}{first:Bool}{s:Mat}(i:Nat)(hn:0<n)(hm: ∀x∈s.m,x= -1∨0<=x/\x<(n:Int))(hg: ∀x∈s.g,x<n)(ha: ∀x∈s.a,x<n):
  (∀x∈(acc gr n first s i).m,x= -1∨0<=x/\x<(n:Int))/\(∀x∈(acc gr n first s i).g,x<n)/\(∀x∈(acc gr n first s i).a,x<n):=by
 unfold acc;split
 ·split
  ·exact⟨hm,hg,ha⟩
  ·rename_i k hk
   have:=(wF hk).1;refine⟨λx hx=> ?_,λx hx=> ?_,λx hx=> ?_⟩
   ·rcases List.mem_or_eq_of_mem_set hx with hx|hx
    ·exact hm x hx
    ·right
     omega
   ·dsimp only at hx
    split at hx
    ·rcases List.mem_or_eq_of_mem_set hx with hx|hx
     ·exact hg x hx
     ·rw[hx]
      exact Nat.mod_lt _ hn
    ·exact hg x hx
   ·dsimp only at hx
    split at hx
    ·rcases List.mem_or_eq_of_mem_set hx with hx|hx
     ·exact ha x hx
     ·rw[hx]
      exact Nat.mod_lt _ hn
    ·exact ha x hx
 ·exact⟨hm,hg,ha⟩
structure MatI (n:Nat)(s:Mat):Prop where
 ml:s.m.length=n
 gl:s.g.length=n
 al:s.a.length=n
 m: ∀x∈s.m,x= -1∨0<=x/\x<(n:Int)
 g: ∀x∈s.g,x<n
 a: ∀x∈s.a,x<n
theorem MatI.acc {gr:Nat->Option Nat}{n:Nat}{first:Bool}{s:Mat}(h:MatI n s)(hn:0<n)(i:Nat):MatI n (acc gr n first s i):=by
 obtain⟨h1,h2,h3⟩:=aGi gr n first s i
 obtain⟨h4,h5,h6⟩:=aL7 (gr:=gr) (first:=first) i hn h.m h.g h.a
 exact⟨h1.trans h.ml,h2.trans h.gl,h3.trans h.al,h4,h5,h6⟩
theorem MatI.Pb {gr:Nat->Option Nat}{n:Nat}{first:Bool}(hn:0<n): ∀(l:List Nat){s:Mat},MatI n s->MatI n (l.foldl (Go.Abs.acc gr n first) s)
 |[],_,h=>h
 |i::l,_,h=>by
  rw[List.foldl_cons];exact MatI.Pb hn l (h.acc hn i)
theorem MatI.rnd {req:Nat->Nat->Bool}{n:Nat}{first:Bool}{s:Mat}(h:MatI n s)(hn:0<n):MatI n (rnd req n first s):=MatI.Pb hn _ h
theorem MatI.aAm {req:Nat->Nat->Bool}{n:Nat}(hn:0<n): ∀(k:Nat){s:Mat},MatI n s->MatI n (xZ req n k s)
 |0,_,h=>h
 |k+1,_,h=>MatI.aAm hn k (h.rnd hn)
theorem MatI.aAn {n:Nat}{g a:List Nat}(hg:g.length=n)(ha:a.length=n)(h1: ∀x∈g,x<n)(h2: ∀x∈a,x<n):MatI n ⟨List.replicate n (-1),g,a⟩:=
 ⟨by simp,hg,ha,λx hx=>by simp at hx;exact .inl hx.2,h1,h2⟩
theorem MatI.aAl {req:Nat->Nat->Bool}{n rounds:Nat}{g a:List Nat}(hn:0<n)(hg:g.length=n)(ha:a.length=n)(h1: ∀x∈g,x<n)(h2: ∀x∈a,x<n):MatI n (o6 req n rounds g a):=
 MatI.aAm hn _ ((MatI.aAn hg ha h1 h2).rnd hn)
end
end Go.Abs
noncomputable section
namespace Go.Proofs.YtndnnndnhnlkdaaGreatDoor
open Go.Proofs.Tryz
open Go.Abs Go.Abs.M
variable (O:aG)(L:LV)(k:KV)(N P Q R S T U V W X Y Z a b c d e f g i j l m n o p q r s t u v w x y z A B C D E F G H I J zz zy zx zw zv zu zt zs zr zq zp zo zn zm zl zk zj zi zh zg zf ze zd zc zb za yz yy yx yw yv yu yt ys yr yq yp yo yn ym yl yk yj yi yh yg yf ye yd yc yb ya xz xy xx xw xv xu xt xs xr xq xp xo xn xm xl xk xj xi xh xg xf xe xd xc xb xa wz wy wx ww wv wu wt ws wr wq wp wo wn wm wl wk wj wi wh wg wf we wd wc wb wa vz:Value)(h:aE)
theorem aMj:cL prog O L 55 [N,P,Q] h=ob (O (.func 87) [Q] h) λaa h=>ob (aF (bin prog .eql 167 aa (.pointer none)) h) λab h=>ob (gd ab false (c9 N) h) λac h=>ob (gd ab false (aF (bin prog .lss 3 ac (.I 1))) h) λad h=>ob (aF (dO ab (.bool true) ad) h) λae h=>ob (gd ae false (c9 N) h) λaf h=>ob (gd ae false (aF (bin prog .gtr 3 af (.I 16))) h) λag h=>ob (aF (dO ae (.bool true) ag) h) λah h=>ob (gd ah false (c9 P) h) λai h=>ob (gd ah false (aF (bin prog .lss 3 ai (.I 1))) h) λaj h=>ob (aF (dO ah (.bool true) aj) h) λak h=>ob (gd ak false (c9 P) h) λal h=>ob (gd ak false (aF (bin prog .gtr 3 al (.I 3))) h) λam h=>ob (aF (dO ak (.bool true) am) h) λan h=>aN an (some (aL [(.pointer none)],h)) (ob (oK h) λao h=>ob (aF (bld prog 171 [(0,aa),(1,ao),(2,N),(3,P)]) h) λap h=>ob (dD 171 (Value.cells ap).toList .fix h) λaq h=>some (aL [aq],h)):=by kernel_rfl
theorem aMk:cL prog O L 62 [N,P,Q,R] h=ob (aF (aT N) h) λaa h=>ob (aF (aJ 1 aa) h) λab h=>ob (ld1 ab h) λac h=>ob (aF (bld prog 173 [(0,P),(1,Q),(2,R)]) h) λad h=>ob (mU (.str [true,true,true]) (.slice none 0 0) false ac ad h) λae h=>ob (aF (cK ae) h) λaf h=>some (aL [af],h):=by kernel_rfl
def Pd:Code:=bU [1,1,1,0,1,0,0] (cE prog 87)
def Pe:KV:=(dP 0 (dY prog O L (bU [1,1,1,1] (cE prog 87)) (eQ prog Tryz.f87)))
theorem aMl:Pe O L (.exit 0) [a,b,c,d,e,f,g,i,j,l,m,n,o,p,q,r,s,t,u,v,w,x,y,z,A,B,C,D,E,F,G,H,I,J,zz,zy,zx,zw,zv,zu,zt,zs,zr] h=ob (aF (aT d) h) λaa h=>ob (aF (aJ 0 aa) h) λab h=>ob (ld1 ab h) λac h=>ob (aF (bin prog .sub 3 a (.I 1)) h) λad h=>ob (aF (bS 2 ac ad) h) λae h=>ob (aF (aJ 1 ae) h) λaf h=>ob (stN 1 af (.I (-1)) h) λag h=>some (aL [d],h):=by kernel_rfl
theorem aAx:aM prog O L Pd k [a,b,c,d,e,f,g,i,j,l,m,n,o,p,q,r,s,t,u,v,w,x,y,z,A,B,C,D,E,F,G,H,I,J,zz,zy,zx,zw,zv,zu,zt,zs,zr] h=ob (aF (bin prog .lss 3 x w) h) λaa h=>aN aa (ob (aF (aT d) h) λab h=>ob (aF (aJ 0 ab) h) λac h=>ob (ld1 ac h) λad h=>ob (aF (bin prog .add 3 x (.I 1)) h) λae h=>ob (aF (bS 2 ad x) h) λaf h=>ob (aF (aJ 1 af) h) λag h=>ob (stN 1 ag ae h) λah h=>ob (aF (bin prog .add 3 x (.I 1)) h) λai h=>k .normal [a,b,c,d,x,f,g,i,j,l,m,n,o,p,q,r,s,t,u,v,w,ai,aa,x,d,ab,ac,ad,x,x,ae,af,ag,ai,zz,zy,zx,zw,zv,zu,zt,zs,zr] h) (k (.exit 0) [a,b,c,d,e,f,g,i,j,l,m,n,o,p,q,r,s,t,u,v,w,x,aa,z,A,B,C,D,E,F,G,H,I,J,zz,zy,zx,zw,zv,zu,zt,zs,zr] h):=by kernel_rfl
theorem aMm:cL prog O L 87 [N] h=ob (aF (bin prog .lss 3 N (.I 1)) h) λaa h=>ob (gd aa false (c9 N) h) λab h=>ob (gd aa false (aF (bin prog .gtr 3 ab (.I 200))) h) λac h=>ob (aF (dO aa (.bool true) ac) h) λad h=>aN ad (some (aL [(.pointer none)],h)) (ob (lD 207 2 16 [(.pointer none),(.I 0)] N N h) λae h=>ob (aF (bld prog 204 [(0,ae),(2,N)]) h) λaf h=>ob (dD 204 (Value.cells af).toList .fix h) λag h=>ob (aF (aT ag) h) λah h=>ob (aF (aJ 0 ah) h) λai h=>ob (ld1 ai h) λaj h=>ob (aF (cK aj) h) λak h=>L (aM prog O L Pd) (Pe O L) [N,undef,(.pointer none),ag,undef,N,aa,aa,ab,ac,ad,N,ae,N,af,ag,ag,ah,ai,aj,ak,(.I 0),undef,undef,undef,undef,undef,undef,undef,undef,undef,undef,undef,undef,undef,undef,undef,undef,undef,undef,undef,undef,undef] h):=by kernel_rfl
theorem Pf:cL prog O L 94 [N,P,Q,R,S] h=ob (dD 39 (Value.cells S).toList .fix h) λaa h=>ob (aF (bld prog 173 [(0,P),(1,Q),(2,R)]) h) λab h=>ob (dD 173 [(.I 0),(.I 0),(.I 0)] .fix h) λac h=>ob (stN 3 ac ab h) λad h=>ob (ldN 3 ac h) λae h=>ob (O (.func 115) [N,ae] h) λaf h=>ob (aF (un prog .not af) h) λag h=>aN ag (some (aL [(.bool false)],h)) (ob (aF (aT N) h) λah h=>ob (aF (aJ 0 ah) h) λai h=>ob (ld1 ai h) λaj h=>ifB (true) (ob (ldN 4 aa h) λak h=>ifB (true) (ob (O (.func 116) [aj,ak] h) λal h=>ifB (true) (ob (aF (ext 0 al) h) λam h=>ob (aF (ext 1 al) h) λan h=>aN an (ob (aF (aT N) h) λao h=>ob (aF (aJ 1 ao) h) λap h=>ob (ld1 ap h) λaq h=>ifB (true) (ob (ldN 3 ac h) λar h=>ifB (true) (ob (dR 3 1 1 [(.I 0)] [(0,am)] h) λau h=>ob (sV (.str [true,true,true]) (.slice none 0 0) aq ar h) λav h=>ifB (true) (ob (aF (ext 0 av) h) λaw h=>ob (app 3 1 8 aw au h) λax h=>ifB (true) (ob (aF (ext 1 av) h) λay h=>ob (sT aq ay ax h) λaz h=>ifB (true) (some (aL [an],h))))))) (some (aL [an],h)))))):=by kernel_rfl
theorem Pc:cL prog O L 102 [N,P,Q,R] h=ob (dD 39 [(.I 0),(.I 0),(.I 0),(.int .u32 0)] .fix h) λaa h=>ob (O (.func 124) [N,P,Q,R] h) λab h=>ob (aF (ext 0 ab) h) λac h=>ob (aF (ext 1 ab) h) λad h=>ob (dD 39 [(.I 0),(.I 0),(.I 0),(.int .u32 0)] .fix h) λae h=>ob (stN 4 ae ac h) λaf h=>aN ad (ob (aF (bld prog 173 [(0,P),(1,Q),(2,R)]) h) λag h=>ob (dD 173 [(.I 0),(.I 0),(.I 0)] .fix h) λah h=>ob (stN 3 ah ag h) λai h=>ob (aF (aT N) h) λaj h=>ob (aF (aJ 0 aj) h) λak h=>ob (ld1 ak h) λal h=>ifB (true) (ob (aF (aT N) h) λam h=>ob (aF (aJ 1 am) h) λan h=>ob (ld1 an h) λao h=>ifB (true) (ob (ldN 3 ah h) λap h=>ifB (true) (ob (mU (.str [true,true,true]) (.slice none 0 0) false ao ap h) λaq h=>ifB (true) (ob (aF (bS 1 aq (.I 0)) h) λar h=>ob (ld1 ar h) λau h=>ifB (true) (ob (O (.func 125) [al,au] h) λav h=>ifB (true) (ob (aF (aT N) h) λaw h=>ob (aF (aJ 1 aw) h) λax h=>ob (ld1 ax h) λay h=>ifB (true) (ob (ldN 3 ah h) λaz h=>ifB (true) (ob (aF (aT N) h) λba h=>ob (aF (aJ 1 ba) h) λbb h=>ob (ld1 bb h) λbc h=>ifB (true) (ob (ldN 3 ah h) λbd h=>ifB (true) (ob (mU (.str [true,true,true]) (.slice none 0 0) false bc bd h) λbe h=>ifB (true) (ob (slc prog 1 be (some (.I 1)) none none h) λbf h=>ifB (true) (ob (nU (.str [true,true,true]) ay az bf h) λbg h=>ifB (true) (ob (aF (aT N) h) λbh h=>ob (aF (aJ 1 bh) h) λbi h=>ob (ld1 bi h) λbj h=>ifB (true) (ob (ldN 3 ah h) λbk h=>ifB (true) (ob (mU (.str [true,true,true]) (.slice none 0 0) false bj bk h) λbl h=>ifB (true) (ob (aF (cK bl) h) λbm h=>ob (aF (bin prog .eql 3 bm (.I 0)) h) λbn h=>aN bn (ob (aF (aT N) h) λbo h=>ob (aF (aJ 1 bo) h) λbp h=>ob (ld1 bp h) λbq h=>ifB (true) (ob (ldN 3 ah h) λbr h=>ifB (true) (ob (tI (.str [true,true,true]) bq br h) λbs h=>ifB (true) (ob (ldN 4 ae h) λbt h=>ob (stN 4 aa bt h) λbu h=>ob (ldN 4 aa h) λw45 _=>some (aL [w45,ad],h))))) (ob (ldN 4 ae h) λbv h=>ob (stN 4 aa bv h) λbw h=>ob (ldN 4 aa h) λw48 _=>some (aL [w48,ad],h))))))))))))))))))) (ob (ldN 4 ae h) λbx h=>ob (stN 4 aa bx h) λbz h=>ob (ldN 4 aa h) λw51 _=>some (aL [w51,ad],h)):=by kernel_rfl
theorem aAv:cL prog O L 143 [N,P] h=ob (dD 39 [(.I 0),(.I 0),(.I 0),(.int .u32 0)] .fix h) λaa h=>ob (O (.func 144) [N,P] h) λab h=>ob (aF (bin prog .neq 235 ab (.pointer none)) h) λac h=>aN ac (ob (aF (aT ab) h) λad h=>ob (aF (aJ 0 ad) h) λae h=>ob (ld1 ae h) λaf h=>ob (aF (aT af) h) λag h=>ob (ldN 4 ag h) λah h=>ob (stN 4 aa ah h) λai h=>ob (ldN 4 aa h) λw9 _=>some (aL [w9,(.bool true)],h)) (ob (aF (bld prog 39 []) h) λaj h=>ob (stN 4 aa aj h) λak h=>ob (ldN 4 aa h) λw12 _=>some (aL [w12,(.bool false)],h)):=by kernel_rfl
theorem aMh:cL prog O L 115 [N,P] h=ob (dD 173 (Value.cells P).toList .fix h) λaa h=>ob (aF (aJ 0 aa) h) λab h=>ob (ld1 ab h) λac h=>ifB (true) (ob (aF (aJ 1 aa) h) λad h=>ob (ld1 ad h) λae h=>ifB (true) (ob (aF (aJ 2 aa) h) λaf h=>ob (ld1 af h) λag h=>ifB (true) (ob (aF (mV prog false [ac,ae,ag]) h) λah h=>ob (aF (bin prog .geq 3 ah (.I 0)) h) λai h=>ob (gd ai true (aF (aJ 0 aa)) h) λaj h=>ob (gd ai true (ld1 aj) h) λak h=>ifB (true) (ob (gd ai true (aF (aJ 1 aa)) h) λal h=>ob (gd ai true (ld1 al) h) λam h=>ifB (true) (ob (gd ai true (aF (mV prog true [ak,am])) h) λan h=>ob (gd ai true (c9 N) h) λao h=>ob (gd ai true (aF (aT ao)) h) λap h=>ob (gd ai true (aF (aJ 2 ap)) h) λaq h=>ob (gd ai true (ld1 aq) h) λar h=>ifB (true) (ob (gd ai true (aF (bin prog .lss 3 an ar)) h) λau h=>ob (aF (dO ai au (.bool false)) h) λav h=>ob (gd av true (aF (aJ 2 aa)) h) λaw h=>ob (gd av true (ld1 aw) h) λax h=>ifB (true) (ob (gd av true (c9 N) h) λay h=>ob (gd av true (aF (aT ay)) h) λaz h=>ob (gd av true (aF (aJ 3 az)) h) λba h=>ob (gd av true (ld1 ba) h) λbb h=>ifB (true) (ob (gd av true (aF (bin prog .lss 3 ax bb)) h) λbc h=>ob (aF (dO av bc (.bool false)) h) λbd h=>some (aL [bd],h))))))))):=by kernel_rfl
theorem aAt:cL prog O L 116 [N,P] h=ob (dD 39 (Value.cells P).toList .fix h) λaa h=>ob (aF (aT N) h) λab h=>ob (aF (aJ 1 ab) h) λac h=>ob (ld1 ac h) λad h=>ob (aF (bin prog .eql 3 ad (.I (-1))) h) λae h=>aN ae (some (aL [(.I 0),(.bool false)],h)) (ob (aF (aT N) h) λaf h=>ob (aF (aJ 0 af) h) λag h=>ob (ld1 ag h) λah h=>ob (aF (bS 2 ah ad) h) λai h=>ob (aF (aT ai) h) λaj h=>ob (aF (aJ 1 aj) h) λak h=>ob (ld1 ak h) λal h=>ob (aF (aT ai) h) λam h=>ob (aF (aJ 0 am) h) λan h=>ob (stN 1 an aa h) λao h=>ob (aF (aT N) h) λap h=>ob (aF (aJ 1 ap) h) λaq h=>ob (stN 1 aq al h) λar h=>ob (aF (aT N) h) λau h=>ob (aF (aJ 2 au) h) λav h=>ob (ld1 av h) λaw h=>ob (aF (bin prog .sub 3 aw (.I 1)) h) λax h=>ob (aF (aT N) h) λay h=>ob (aF (aJ 2 ay) h) λaz h=>ob (stN 1 az ax h) λba h=>some (aL [ad,(.bool true)],h)):=by kernel_rfl
theorem aAu:cL prog O L 124 [N,P,Q,R] h=ob (dD 39 [(.I 0),(.I 0),(.I 0),(.int .u32 0)] .fix h) λaa h=>ob (aF (aT N) h) λab h=>ob (aF (aJ 1 ab) h) λac h=>ob (ld1 ac h) λad h=>ob (aF (bld prog 173 [(0,P),(1,Q),(2,R)]) h) λae h=>ob (mU (.str [true,true,true]) (.slice none 0 0) false ad ae h) λaf h=>ob (aF (cK af) h) λag h=>ob (aF (bin prog .eql 3 ag (.I 0)) h) λah h=>aN ah (ob (aF (bld prog 39 []) h) λai h=>ob (stN 4 aa ai h) λaj h=>ob (ldN 4 aa h) λw10 _=>some (aL [w10,(.bool false)],h)) (ob (aF (aT N) h) λak h=>ob (aF (aJ 0 ak) h) λal h=>ob (ld1 al h) λam h=>ifB (true) (ob (aF (bS 1 af (.I 0)) h) λan h=>ob (ld1 an h) λao h=>ifB (true) (ob (O (.func 143) [am,ao] h) λap h=>ifB (true) (ob (aF (ext 0 ap) h) λaq h=>ob (aF (ext 1 ap) h) λar h=>ob (stN 4 aa aq h) λau h=>ifB (true) (ob (ldN 4 aa h) λw20 _=>some (aL [w20,ar],h)))))):=by kernel_rfl
theorem aMi:cL prog O L 125 [N,P] h=ob (O (.func 144) [N,P] h) λaa h=>ob (aF (bin prog .eql 235 aa (.pointer none)) h) λab h=>aN ab (some (aL [(.bool false)],h)) (ob (aF (aT N) h) λac h=>ob (aF (aJ 1 ac) h) λad h=>ob (ld1 ad h) λae h=>ob (aF (aT aa) h) λaf h=>ob (aF (aJ 0 af) h) λag h=>ob (stN 1 ag (.pointer none) h) λah h=>ob (aF (aT aa) h) λai h=>ob (aF (aJ 1 ai) h) λaj h=>ob (stN 1 aj ae h) λak h=>ob (aF (aT N) h) λal h=>ob (aF (aJ 1 al) h) λam h=>ob (stN 1 am P h) λan h=>ob (aF (aT N) h) λao h=>ob (aF (aJ 2 ao) h) λap h=>ob (ld1 ap h) λaq h=>ob (aF (bin prog .add 3 aq (.I 1)) h) λar h=>ob (aF (aT N) h) λau h=>ob (aF (aJ 2 au) h) λav h=>ob (stN 1 av ar h) λaw h=>some (aL [(.bool true)],h)):=by kernel_rfl
theorem aAw:cL prog O L 144 [N,P] h=ob (aF (bin prog .lss 3 P (.I 0)) h) λaa h=>ob (gd aa false (c9 P) h) λab h=>ob (gd aa false (c9 N) h) λac h=>ob (gd aa false (aF (aT ac)) h) λad h=>ob (gd aa false (aF (aJ 0 ad)) h) λae h=>ob (gd aa false (ld1 ae) h) λaf h=>ob (gd aa false (aF (cK af)) h) λag h=>ob (gd aa false (aF (bin prog .geq 3 ab ag)) h) λah h=>ob (aF (dO aa (.bool true) ah) h) λai h=>ob (gd ai false (c9 N) h) λaj h=>ob (gd ai false (aF (aT aj)) h) λak h=>ob (gd ai false (aF (aJ 0 ak)) h) λal h=>ob (gd ai false (ld1 al) h) λam h=>ob (gd ai false (c9 P) h) λan h=>ob (gd ai false (aF (bS 2 am an)) h) λao h=>ob (gd ai false (aF (aJ 0 ao)) h) λap h=>ob (gd ai false (ld1 ap) h) λaq h=>ob (gd ai false (aF (bin prog .eql 205 aq (.pointer none))) h) λar h=>ob (aF (dO ai (.bool true) ar) h) λau h=>aN au (some (aL [(.pointer none)],h)) (ob (aF (aT N) h) λav h=>ob (aF (aJ 0 av) h) λaw h=>ob (ld1 aw h) λax h=>ob (aF (bS 2 ax P) h) λay h=>some (aL [ay],h)):=by kernel_rfl
end Go.Proofs.YtndnnndnhnlkdaaGreatDoor
end
namespace Go.Proofs.YtndnnndnhnlkdaaGreatDoor.Rg
open Go.Proofs.Tryz
open Go.Abs Go.Abs.M
theorem n73 (a:Addr):bin prog .neq 235 (.pointer (some a)) (.pointer none)=some (.bool true):=aEE 235 207 (by kernel_rfl) a
theorem aMw:bin prog .neq 235 (.pointer none) (.pointer none)=some (.bool false):=aEF 235 207 (by kernel_rfl)
theorem e73 (a:Addr):bin prog .eql 235 (.pointer (some a)) (.pointer none)=some (.bool false):=El 235 207 (by kernel_rfl) a
theorem e70 (a:Addr):bin prog .eql 205 (.pointer (some a)) (.pointer none)=some (.bool false):=El 205 39 (by kernel_rfl) a
theorem aMp:bin prog .eql 205 (.pointer none) (.pointer none)=some (.bool true):=T6 205 39 (by kernel_rfl)
theorem e22 (a:Addr):bin prog .eql 167 (.pointer (some a)) (.pointer none)=some (.bool false):=El 167 204 (by kernel_rfl) a
def pkB (x:Pkt):Blk:= .cells x.pA 39 .fix
abbrev kF:=Option (Nat×Pkt)×Int
def yM (x:Option (Nat×Pkt)):Value:= .pointer (x.map λb=>⟨b.1,0,none⟩)
def tC (x:kF):List Value:=[yM x.1,.I x.2]
def nR (l:List kF):Blk:= .cells (l.map tC).flatten 207 .row
def pD (s n:Nat)(top free:Int):Blk:= .cells [.slice (some ⟨s,0,none⟩) n n,.int .i64 top,.int .i64 free] 204 .fix
structure IsPool (H:aE)(p s:Nat)(l:List kF)(top free:Int):Prop where
 hp:H[p]? =some (pD s l.length top free)
 hs:H[s]? =some (nR l)
 hq: ∀(i q:Nat)(x:Pkt)(d:Int),l[i]? =some (some (q,x),d)->H[q]? =some (pkB x)
theorem Hr (l:List kF): ∀r∈l.map tC,r.length=2:=by
 intro r hr;simp only[aRN] at hr;obtain⟨x,_,rfl⟩:=hr;rfl
theorem aAE (l:List kF):(l.map tC).flatten.length=l.length*2:=by
 rw[tR _ (Hr l)];simp
theorem aAF (l:List kF)(i j:Nat)(v:Value)(x y:kF)(hi:l[i]? =some x)(hj:j<2)(hv:(tC x).set j v=tC y):(l.map tC).flatten.set (i*2+j) v=((l.set i y).map tC).flatten:=by
 have:=Kb (l.map tC) (Hr l) i j [v] (tC x) (by simp[hi]) (by simp;omega)
 simp only[eS] at this;rw[this,hv,List.map_set]
variable {pr : gQ} {H : aE} {p s : Nat} {l : List kF} {top free : Int}
@[simp] theorem aQ8 (i:Nat):ldC (some (nR l)) (i*2) H=xO ((l[i]?).map λx=>yM x.1) H:=by
 have:=Em _ (Hr l) i 0 aC
 simp only[Nat.add_zero] at this;unfold nR;rw[tP,this,aRn];cases l[i]? <;>rfl
@[simp] theorem aMu (i:Nat):ldC (some (nR l)) (i*2+1) H=xO ((l[i]?).map λx=> .I x.2) H:=by
 have:=Em _ (Hr l) i 1 aC
 unfold nR;rw[tP,this,aRn];cases l[i]? <;>rfl
theorem aAJ (b i:Nat)(a:Option Addr)(x:kF)(q:Option (Nat×Pkt))(hi:l[i]? =some x)(hq: .pointer a=yM q):stC (some (nR l)) b (i*2) [.pointer a] H=some (undef,H.set b (nR (l.set i (q,x.2)))):=by
 have hl:i<l.length:=(aRa.mp hi).1;unfold nR;rw[Kc _ _ _ _ _ rfl (by rw[aAE];simp;omega)]
 have:=aAF l i 0 (.pointer a) x (q,x.2) hi aC (by rw[hq];rfl)
 simp only[eS];rw[<-this,Nat.add_zero]
theorem Pk (b i:Nat)(d:Int)(x:kF)(hi:l[i]? =some x):stC (some (nR l)) b (i*2+1) [.I d] H=some (undef,H.set b (nR (l.set i (x.1,d)))):=by
 have hl:i<l.length:=(aRa.mp hi).1;unfold nR;rw[Kc _ _ _ _ _ rfl (by rw[aAE];simp;omega)]
 have:=aAF l i 1 (.I d) x (x.1,d) hi aC (by rfl)
 simp only[eS];rw[<-this]
@[simp] theorem Hp (n:Nat):ldC (some (pD s n top free)) 0 H=some (.slice (some ⟨s,0,none⟩) n n,H):=rfl
@[simp] theorem aAB (n:Nat):ldC (some (pD s n top free)) 1 H=some (.I top,H):=rfl
@[simp] theorem aAC (n:Nat):ldC (some (pD s n top free)) 2 H=some (.I free,H):=rfl
@[simp] theorem aAH (b n:Nat)(d:Int):stC (some (pD s n top free)) b 1 [.I d] H=some (undef,H.set b (pD s n d free)):=rfl
@[simp] theorem aAI (b n:Nat)(d:Int):stC (some (pD s n top free)) b 2 [.I d] H=some (undef,H.set b (pD s n top d)):=rfl
@[simp] theorem aMt (x:Pkt):Ek (some (pkB x)) 4 0 H=some (x.dV,H):=rfl
theorem Ht (b:Nat)(y:Pkt):stN 4 (.Q b 0) y.dV H=stC H[b]? b 0 y.pA H:=mE 4 b 0 _ rfl
@[simp] theorem aAG (b:Nat)(x y:Pkt):stC (some (pkB x)) b 0 y.pA H=some (undef,H.set b (pkB y)):=rfl
theorem yL:Blk.cells [.int .i64 0,.int .i64 0,.int .i64 0,.int .u32 0] 39 .fix=pkB pk0:=rfl
theorem aAD:bld prog 39 []=some pk0.dV:=by kernel_rfl
theorem Pj (H:aE)(a b:Blk):(H++[a]).set H.length b=H++[b]:=by simp
theorem aMn (hn:pr (.func 144)=none)(h:IsPool H p s l top free){m:Nat}(hm:0<m)(i:Int)(hi:i<0∨(l.length:Int)<=i∨ ∃d,l[i.toNat]? =some (none,d)):
  lvl prog pr m (.func 144) [.Q p 0,.I i] H=some (.pointer none,H):=by
 have hp:=h.hp;have hs:=h.hs;refine dH hn hm ?_;rw[aAw];by_cases h0:i<0
 ·simp[h0]
 ·by_cases h1:(l.length:Int)<=i
  ·simp[h0,h1,hp,hs]
  ·obtain⟨d,hd⟩: ∃d,l[i.toNat]? =some (none,d):=by
    rcases hi with hi|hi|hi
    ·exact absurd hi h0
    ·exact absurd hi h1
    ·exact hi
   simp -implicitDefEqProofs (disch:=first|omega|simp) [-getElem?_pos,h0,h1,hp,hs,hd,yM,aMp]
theorem aAz (hn:pr (.func 144)=none)(h:IsPool H p s l top free){m:Nat}(hm:0<m)(i:Nat)(q:Nat×Pkt)(d:Int)(hi:l[i]? =some (some q,d)):
  lvl prog pr m (.func 144) [.Q p 0,.I i] H=some (.Q s (i*2),H):=by
 have hp:=h.hp;have hs:=h.hs;have hl:i<l.length:=(aRa.mp hi).1;refine dH hn hm ?_;rw[aAw];have h0: ¬(i:Int)<0:=U
 have h1: ¬(l.length:Int)<=i:=U
 simp -implicitDefEqProofs (disch:=first|omega|simp) [-getElem?_pos,h0,h1,hp,hs,hi,yM,e70]
theorem IsPool.app (h:IsPool H p s l top free)(G:aE):IsPool (H++G) p s l top free:=by
 have up: ∀(b:Nat)(x:Blk),H[b]? =some x->(H++G)[b]? =some x:=λb x hb=>by
  rw[aRd (aRa.mp hb).1,hb]
 exact⟨up _ _ h.hp,up _ _ h.hs,λi q x d hi=>up _ _ (h.hq i q x d hi)⟩
theorem aQ7 (hn:pr (.func 144)=none)(hn':pr (.func 143)=none)(h:IsPool H p s l top free){m:Nat}(hm:1<m)(i:Int)(hi:i<0∨(l.length:Int)<=i∨ ∃d,l[i.toNat]? =some (none,d)):
  lvl prog pr m (.func 143) [.Q p 0,.I i] H=some (.tuple #[pk0.dV,.bool false],H++[pkB pk0]):=by
 refine dH hn' U ?_
 rw[aAv];have hc:=aMn hn (h.app [pkB pk0]) (m:=m-1) U i hi
 simp[yL,hc,aMw,aAD,Ht,Pj]
theorem aMs (hn:pr (.func 144)=none)(hn':pr (.func 143)=none)(h:IsPool H p s l top free){m:Nat}(hm:1<m)(i q:Nat)(x:Pkt)(d:Int)(hi:l[i]? =some (some (q,x),d)):
  lvl prog pr m (.func 143) [.Q p 0,.I i] H=some (.tuple #[x.dV,.bool true],H++[pkB x]):=by
 refine dH hn' U ?_
 rw[aAv];have h':=h.app [pkB pk0];have hc:=aAz hn h' (m:=m-1) U i _ d hi
 have hs:=h'.hs;have hq:=h'.hq i q x d hi;simp[yL,hc,n73,hs,hq,hi,yM,Ht,Pj]
theorem IsPool.ps (h:IsPool H p s l top free):p≠s:=by
 intro e;have h1:=h.hp;have h2:=h.hs;rw[e,h2] at h1;simp[nR,pD] at h1
theorem IsPool.Pg (h:IsPool H p s l top free):p<H.length:=(aRa.mp h.hp).1
theorem IsPool.sl (h:IsPool H p s l top free):s<H.length:=(aRa.mp h.hs).1
theorem IsPool.qs (h:IsPool H p s l top free){q:Nat}{x:Pkt}(hq:H[q]? =some (pkB x)):q≠p/\q≠s:=by
 constructor
 ·intro e
  have h1:=h.hp;rw[<-e,hq] at h1;simp[pkB,pD] at h1
 ·intro e
  have h1:=h.hs;rw[<-e,hq] at h1;simp[pkB,nR] at h1
theorem IsPool.aAy (h:IsPool H p s l top free)(l':List kF)(hl:l'.length=l.length)(top' free':Int)
  (hq: ∀(i q:Nat)(x:Pkt)(d:Int),l'[i]? =some (some (q,x),d)->H[q]? =some (pkB x)):IsPool ((H.set s (nR l')).set p (pD s l.length top' free')) p s l' top' free':=by
 have h1:=h.ps;have h2:=h.Pg;have h3:=h.sl;refine⟨?_,?_,?_⟩
 ·rw[hl,aRg (by simpa using h2)]
 ·rw[aRb U,aRg U]
 ·intro i q x d hi
  have hb:=hq i q x d hi;obtain⟨h4,h5⟩:=h.qs hb;rw[aRb U,aRb U,hb]
theorem aMo (hn:pr (.func 144)=none)(hn':pr (.func 125)=none)(h:IsPool H p s l top free){m:Nat}(hm:1<m)(i:Nat)(q:Nat×Pkt)(d:Int)(hi:l[i]? =some (some q,d))(hf0:0<=free)(hf1:free<1000):
  lvl prog pr m (.func 125) [.Q p 0,.I i] H=some (.bool true,(H.set s (nR (l.set i (none,top)))).set p (pD s l.length i (free+1))):=by
 refine dH hn' U ?_
 rw[aMi];have hc:=aAz hn h (m:=m-1) U i q d hi
 have hp:=h.hp;have hs:=h.hs;have h1:=h.ps;have h2:=h.Pg;have h3:=h.sl;have hl:i<l.length:=(aRa.mp hi).1;have w:IntKind.i64.wrap (free+1)=free+1:=dJ U U
 have s0:=λH=>aAJ (H:=H) (l:=l) s i none (some q,d) none hi rfl
 have s1:=λH=>Pk (H:=H) (l:=l.set i (none,d)) s i top (none,d) (by simp[hl])
 simp -implicitDefEqProofs (disch:=first|omega|(simp;omega)) only[hc,e73,hp,hs,s0,s1,w,cU,List.set_set,ob_some,iteV_false,iteV_true,r_opt,r_nil,r_fAddr,j9,aAB,aAC,Ep,Uc,aRv,Nat.add_zero,aRg,aRb,ne_eq,aAH,aAI,oneOf_one]
theorem aMz (hn:pr (.func 116)=none)(h:IsPool H p s l (-1) free){m:Nat}(hm:0<m)(x:Pkt):
  lvl prog pr m (.func 116) [.Q p 0,x.dV] H=some (.tuple #[.I 0,.bool false],H++[pkB x]):=by
 refine dH hn U ?_
 rw[aAt];have hp:=(h.app [pkB x]).hp;have e:Blk.cells (Value.cells x.dV).toList 39 .fix=pkB x:=rfl;simp[e,hp]
theorem aMA (hn:pr (.func 116)=none)(k:Nat)(h:IsPool H p s l k free){m:Nat}(hm:0<m)(x:Pkt)(q:Option (Nat×Pkt))(d:Int)(hk:l[k]? =some (q,d))(hf0: -10<=free)(hf1:free<1000):
  lvl prog pr m (.func 116) [.Q p 0,x.dV] H=
   some (.tuple #[.I k,.bool true],((H++[pkB x]).set s (nR (l.set k (some (H.length,x),d)))).set p (pD s l.length d (free-1))):=by
 refine dH hn U ?_
 rw[aAt];have h':=h.app [pkB x];have hp:=h'.hp;have hs:=h'.hs;have h1:=h'.ps;have h2:=h'.Pg;have h3:=h'.sl;have h4:p<H.length+1:=by simpa using h2
 have h5:s<H.length+1:=by simpa using h3
 have hl:k<l.length:=(aRa.mp hk).1;have w:IntKind.i64.wrap (free-1)=free-1:=dJ U U
 have e:Blk.cells (Value.cells x.dV).toList 39 .fix=pkB x:=rfl;have e2:((k:Int)== -1)=false:=by simp
 have e3:((l[k]?).map λx=>Value.I x.2)=some (.I d):=by rw[hk];rfl
 have s0:=λH'=>aAJ (H:=H') (l:=l) s k (some ⟨H.length,0,none⟩) (q,d) (some (H.length,x)) hk rfl
 simp -implicitDefEqProofs (disch:=first|omega|(simp;omega)) only[e,e2,e3,hp,hs,s0,w,b_eql,j8,x_newB,List.set_set,ob_some,iteV_false,iteV_true,r_opt,r_nil,r_fAddr,pM,j9,Hp,aAB,aAC,aMu,vW,Ep,Uc,aRv,Nat.add_zero,aRg,aRb,ne_eq,aAH,aAI,oneOf_two,aRC]
def kG (n i:Nat):List kF:=(List.range n).map λj=>(none,if j<i then(j:Int)+1 else 0)
def lJ (n:Nat):List kF:=(List.range n).map λj=>(none,if j+1<n then(j:Int)+1 else -1)
theorem Al (n i j:Nat)(h:j<n):(kG n i)[j]? =some (none,if j<i then(j:Int)+1 else 0):=by simp[kG,h]
theorem aMr (n i:Nat):(kG n i).set i (none,(i:Int)+1)=kG n (i+1):=by
 apply aRL;intro j;by_cases hj:j<n
 ·by_cases e:i=j
  ·subst e
   rw[aRg (by simpa[kG] using hj),Al _ _ _ hj,if_pos U]
  ·rw[aRb e,Al _ _ _ hj,Al _ _ _ hj]
   by_cases h:j<i
   ·rw[if_pos h,if_pos U]
   ·rw[if_neg h,if_neg U]
 ·rw[aRl (by simp[kG];omega),aRl (by simp[kG];omega)]
theorem aMq (n:Nat)(h:0<n):(kG n n).set (n-1) (none, -1)=lJ n:=by
 apply aRL;intro j;by_cases hj:j<n
 ·have e2:(lJ n)[j]? =some (none,if j+1<n then(j:Int)+1 else -1):=by simp[lJ,hj]
  by_cases e:n-1=j
  ·subst e
   rw[aRg (by simpa[kG] using hj),e2,if_neg U]
  ·rw[aRb e,Al _ _ _ hj,e2,if_pos hj,if_pos U]
 ·rw[aRl (by simp[kG];omega),aRl (by simp[lJ];omega)]
def mK (H:aE)(l:List kF):aE:=H++[nR l,pD H.length l.length 0 l.length]
theorem Ho (l:List kF):(mK H l)[H.length+1]? =some (pD H.length l.length 0 l.length):=by simp[mK]
theorem Ph (l:List kF):(mK H l)[H.length]? =some (nR l):=by simp[mK]
theorem aAA (l l':List kF)(h:l'.length=l.length):(mK H l).set H.length (nR l')=mK H l':=by simp[mK,h]
theorem aMx (n:Nat)(h200:n<=200)(h1:0<n)(O:aG)(L:aH (Value×aE)): ∀(r i m:Nat),n-i=r->i<=n->r<m-> ∀(x1 x2 x4 x5 x6 x7 x8 x9 bQ cG aS aP aQ aO bB bI aR bJ bN bP aU aV aW aX aY aZ bA bH bO bV cH cJ bX cC bY b9 cA cD cF:Value),
  aK m (aM prog O L Pd) (Pe O L) [.I n,x1,x2,.Q (H.length+1) 0,x4,x5,x6,x7,x8,x9,bQ,cG,aS,aP,aQ,aO,bB,bI,aR,bJ,.I n,.I i,bN,bP,aU,aV,aW,aX,aY,aZ,bA,bH,bO,bV,cH,cJ,bX,cC,bY,b9,cA,cD,cF] (mK H (kG n i))=some (.Q (H.length+1) 0,mK H (lJ n)):=by
 intro r;induction r with
 |zero=>
  intro i m hr hi hm x1 x2 x4 x5 x6 x7 x8 x9 bQ cG aS aP aQ aO bB bI aR bJ bN bP aU aV aW aX aY aZ bA bH bO bV cH cJ bX cC bY b9 cA cD cF;obtain⟨m,rfl⟩: ∃k,m=k+1:=⟨m-1,by omega⟩
  obtain rfl:i=n:=U
  rw[dG,aAx];have e:decide ((i:Int)<i)=false:=by simp
  have s1:=λH'=>Pk (H:=H') (l:=kG i i) H.length (i-1) (-1) (none,((i-1:Nat):Int)+1) (by rw[Al _ _ _ U,if_pos U])
  have w:IntKind.i64.wrap ((i:Int)-1)=((i-1:Nat):Int):=by rw[dJ U U];omega
  have hl:(kG i i).length=i:=by simp[kG]
  simp only[b_lss,e,r_opt,ob_some,iteV_false,again_exit];rw[aMl];simp -implicitDefEqProofs (disch:=first|omega|(simp[kG];omega)|simp[kG,lJ]) only[r_opt,ob_some,r_nil,r_fAddr,j9,Ho,Hp,j8,w,pM,aRv,Nat.add_zero,Ep,Ph,s1,aRC,aMq,hl,aAA,oneOf_one]
 |succ r ih=>
  intro i m hr hi hm x1 x2 x4 x5 x6 x7 x8 x9 bQ cG aS aP aQ aO bB bI aR bJ bN bP aU aV aW aX aY aZ bA bH bO bV cH cJ bX cC bY b9 cA cD cF;obtain⟨m,rfl⟩: ∃k,m=k+1:=⟨m-1,by omega⟩
  rw[dG,aAx];have e:decide ((i:Int)<n)=true:=by simp;omega
  have s1:=λH'=>Pk (H:=H') (l:=kG n i) H.length i ((i:Int)+1) (none,0) (by rw[Al _ _ _ U,if_neg U])
  have w:=aA (i:=i) U
  have w':((i+1:Nat):Int)=(i:Int)+1:=U
  have hl:(kG n i).length=n:=by simp[kG]
  simp -implicitDefEqProofs (disch:=first|omega|(simp[kG];omega)|simp[kG]) only[b_lss,e,r_opt,ob_some,iteV_true,again_normal,r_nil,r_fAddr,j9,Ho,Hp,cU,w,pM,aRv,Nat.add_zero,Ep,Ph,w',s1,aRC,aMr,hl,aAA,oneOf_one]
  rw[<-w'];exact ih (i+1) m U U U _ _ _ _ _ _ _ _ _ _ _ _ _ _ _ _ _ _ _ _ _ _ _ _ _ _ _ _ _ _ _ _ _ _ _ _ _ _ _
theorem Hq (n:Nat):(lJ n).length=n:=by simp[lJ]
theorem Pi (n j:Nat)(h:j<n):(lJ n)[j]? =some (none,if j+1<n then(j:Int)+1 else -1):=by simp[lJ,h]
theorem aMy (hn:pr (.func 87)=none)(n:Nat)(h1:0<n)(h200:n<=200){m:Nat}(hm:210<m):
  lvl prog pr m (.func 87) [.I n] H=some (.Q (H.length+1) 0,mK H (lJ n)):=by
 refine dH hn U ?_
 rw[aMm];have e1:decide ((n:Int)<1)=false:=by simp;omega
 have e2:decide ((200:Int)<n)=false:=by simp;omega
 have e3:bld prog 204 [(0,.slice (some ⟨H.length,0,none⟩) n n),(2,.I n)]=some (.agg #[.slice (some ⟨H.length,0,none⟩) n n,.I 0,.I n]):=by kernel_rfl
 have e4:H++[Blk.cells (List.replicate n [.pointer none,.int .i64 0]).flatten 207 .row]++[Blk.cells [.slice (some ⟨H.length,0,none⟩) n n,.int .i64 0,.int .i64 n] 204 .fix]=mK H (kG n 0):=by
  have:(kG n 0).map tC=List.replicate n [.pointer none,.I 0]:=by
   apply aRL;intro j;by_cases hj:j<n
   ·simp[kG,hj,tC,yM]
   ·rw[aRl (by simp[kG];omega),aRl (by simp;omega)]
  have hl:(kG n 0).length=n:=by simp[kG]
  simp[mK,nR,this,pD,hl]
 have e5:(Value.agg #[Value.slice (some ⟨H.length,0,none⟩) n n,.int .i64 0,.int .i64 n]).cells.toList=[Value.slice (some ⟨H.length,0,none⟩) n n,.int .i64 0,.int .i64 n]:=rfl;have e6: ∀b c:Blk,(H++[b]++[c])[H.length+1]? =some c:=λb c=>by simp
 have hl:(kG n 0).length=n:=by simp[kG]
 have ms:=vY (H:=H) 207 2 16 [.pointer none,.I 0] .i64 .i64 n U U U rfl
 rw[aRC] at ms;simp -implicitDefEqProofs (disch:=first|omega|rfl) only[b_lss,b_gtr,e1,e2,r_opt,ob_some,r_gdff,r_ret,pick_f,iteV_false,ms,aRC,e3,e5,x_newB,aRm,aRw,List.length_nil,aRv,r_nil,r_fAddr,j9,e4,Ho,Hp,hl,vV]
 exact aMx n h200 h1 _ _ n 0 (m-1) U U U ..
theorem aMv (n:Nat):IsPool (mK H (lJ n)) (H.length+1) H.length (lJ n) 0 n:=by
 refine⟨?_,Ph _,λi q x d hi=> ?_⟩
 ·rw[Ho,Hq]
 ·by_cases hl:i<n
  ·rw[Pi n i hl] at hi
   simp at hi
  ·rw[aRl (by simp[lJ];omega)] at hi
   cases hi
structure More (p s:Nat)(H H':aE):Prop where
 len:H.length<=H'.length
 same: ∀b,b<H.length->b≠p->b≠s->H'[b]? =H[b]?
theorem aME {pr:gQ}{H:aE}{p s:Nat}{l:List kF}{top free:Int}(hn:pr (.func 144)=none)(hn':pr (.func 125)=none)(h:IsPool H p s l top free){m:Nat}(hm:1<m)(i:Nat)(q:Nat×Pkt)(d:Int)(hi:l[i]? =some (some q,d))(hf0:0<=free)(hf1:free<1000):
  ∃H',lvl prog pr m (.func 125) [.Q p 0,.I i] H=some (.bool true,H')/\IsPool H' p s (l.set i (none,top)) i (free+1)/\More p s H H':=by
 refine⟨_,aMo hn hn' h hm i q d hi hf0 hf1,?_,by simp,?_⟩
 ·refine h.aAy _ (by simp) _ _ λj q y d hj=> ?_
  by_cases ej:i=j
  ·subst ej
   have hl:i<l.length:=(aRa.mp hi).1;rw[aRg hl] at hj;simp at hj
  ·rw[aRb ej] at hj
   exact h.hq j q y d hj
 ·intro b hb h1 h2
  rw[aRb U,aRb U]
theorem aAM: ∀(n:Nat)(l:List Nat),l.Nodup->(∀x∈l,x<n)->l.length<=n
 |0,l,_,h=>by
  cases l with
  |nil=>exact aRf _
  |cons a _=>exact absurd (h a (by simp)) U
 |n+1,l,hd,h=>by
  have:=aAM n (l.erase n) (hd.erase n) λx hx=>by
   rw[hd.mem_erase_iff] at hx;have:=h x hx.2;have:=hx.1;omega
  rw[List.length_erase] at this
  split at this<;>omega
def FreeL (l:List kF):Int->List Nat->Prop
 |top,[]=>top= -1
 |top,k::ks=>top=(k:Int)/\ ∃d,l[k]? =some (none,d)/\FreeL l d ks
theorem FreeL.Pm {l:List kF}{i:Nat}{x:kF}: ∀(fl:List Nat)(top:Int),FreeL l top fl->i∉fl->FreeL (l.set i x) top fl
 |[],_,h,_=>h
 |k::ks,top,⟨h1,d,h2,h3⟩,hi=>by
  simp only[aRt,not_or] at hi
  exact⟨h1,d,by rw[aRb hi.1];exact h2,FreeL.Pm ks d h3 hi.2⟩
structure Model (H:aE)(p s:Nat)(l:List kF)(top free:Int)(fl:List Nat):Prop where
 pool:IsPool H p s l top free
 chain:FreeL l top fl
 nodup:fl.Nodup
 full: ∀i,i∈fl↔ ∃d,l[i]? =some (none,d)
 cnt:free=fl.length
 len:l.length<=200
section
variable {pr : gQ} {H : aE} {p s : Nat} {l : List kF} {top free : Int} {fl : List Nat}
theorem Model.aAK (h:Model H p s l top free fl):fl.length<=200:=by
 refine aRq (aAM l.length fl h.nodup λx hx=> ?_) h.len
 obtain⟨d,hd⟩:=(h.full x).mp hx
 exact(aRa.mp hd).1
theorem Model.app (h:Model H p s l top free fl)(G:aE):Model (H++G) p s l top free fl:=⟨h.pool.app G,h.chain,h.nodup,h.full,h.cnt,h.len⟩
theorem Model.aMB (hn:pr (.func 144)=none)(hn':pr (.func 125)=none)(h:Model H p s l top free fl){m:Nat}(hm:1<m)(i:Nat)(q:Nat×Pkt)(d:Int)(hi:l[i]? =some (some q,d)):
  ∃H',lvl prog pr m (.func 125) [.Q p 0,.I i] H=some (.bool true,H')/\Model H' p s (l.set i (none,top)) i (free+1) (i::fl)/\More p s H H':=by
 have hl:=h.aAK;have hc:=h.cnt;obtain⟨H',e,hp,hm'⟩:=aME hn hn' h.pool hm i q d hi U U
 have hlt:i<l.length:=(aRa.mp hi).1;have hni:i∉fl:=λhh=>by
  obtain⟨d',hd⟩:=(h.full i).mp hh;rw[hi] at hd;simp at hd
 refine⟨H',e,⟨hp,⟨rfl,top,aRg hlt,h.chain.Pm _ _ hni⟩,List.nodup_cons.mpr ⟨hni,h.nodup⟩,λj=> ?_,by rw[hc];simp,by simpa using h.len⟩,hm'⟩
 by_cases ej:i=j
 ·subst ej
  rw[aRg hlt];simp
 ·rw[aRb ej,aRt,<-h.full j]
  constructor
  ·rintro (h1|h1)
   ·exact absurd h1.symm ej
   ·exact h1
  ·exact .inr
theorem Model.aMC (hn:pr (.func 116)=none){k:Nat}{ks:List Nat}(h:Model H p s l top free (k::ks)){m:Nat}(hm:0<m)(x:Pkt):
  ∃H' q d,lvl prog pr m (.func 116) [.Q p 0,x.dV] H=some (.tuple #[.I k,.bool true],H')/\Model H' p s (l.set k (some (q,x),d)) d (free-1) ks/\k<l.length/\
   H.length<=H'.length/\ ∀b,b<H.length->b≠p->b≠s->H'[b]? =H[b]? :=by
 obtain⟨ht,d,hk,hc⟩:=h.chain;have hp:=h.pool;have hcnt:=h.cnt;have hfl:=h.aAK;simp only[aRw] at hcnt hfl;rw[ht] at hp;have hlt:k<l.length:=(aRa.mp hk).1;have hnd:=List.nodup_cons.mp h.nodup;have e:=aMA hn k hp hm x none d hk U U
 refine⟨_,H.length,d,e,⟨?_,hc.Pm _ _ hnd.1,hnd.2,λj=> ?_,by omega,by simpa using h.len⟩,hlt,by simp,?_⟩
 ·have h':=hp.app [pkB x]
  refine h'.aAy _ (by simp) _ _ λj q y d' hj=> ?_
  by_cases ej:k=j
  ·subst ej
   rw[aRg hlt] at hj;simp only[aRB,Prod.mk.injEq] at hj;obtain⟨⟨rfl,rfl⟩,_⟩:=hj;simp
  ·rw[aRb ej] at hj
   exact h'.hq j q y d' hj
 ·by_cases ej:k=j
  ·subst ej
   rw[aRg hlt];simp[hnd.1]
  ·rw[aRb ej,<-h.full j,aRt]
   constructor
   ·exact .inr
   ·rintro (h1|h1)
    ·exact absurd h1.symm ej
    ·exact h1
 ·intro b hb h1 h2
  rw[aRb U,aRb U,aRd hb]
theorem Model.aMD (hn:pr (.func 116)=none)(h:Model H p s l top free []){m:Nat}(hm:0<m)(x:Pkt):
  lvl prog pr m (.func 116) [.Q p 0,x.dV] H=some (.tuple #[.I 0,.bool false],H++[pkB x]):=by
 have ht:top= -1:=h.chain;have hp:=h.pool;rw[ht] at hp;exact aMz hn hp hm x
end
theorem aAL (n:Nat): ∀(r k:Nat),k+r=n->FreeL (lJ n) (if k<n then(k:Int) else -1) (List.range' k r)
 |0,k,h=>by
  rw[if_neg U]
  rfl
 |r+1,k,h=>by
  rw[if_pos U,List.range'_succ]
  refine⟨rfl,_,Pi n k U,?_⟩
  exact aAL n r (k+1) U
theorem aMF {H:aE}(n:Nat)(h0:0<n)(hn:n<=200):Model (mK H (lJ n)) (H.length+1) H.length (lJ n) 0 n (List.range n):=by
 refine⟨aMv n,?_,List.nodup_range,λi=> ?_,by simp,by rw[Hq];exact hn⟩
 ·have:=aAL n n 0 U
  rw[<-List.range_eq_range'] at this;rw[if_pos h0] at this;exact this
 ·rw[aRO]
  constructor
  ·intro h
   exact⟨_,Pi n i h⟩
  ·rintro ⟨d,hd⟩
   have:=(aRa.mp hd).1;rw[Hq] at this;exact this
end Go.Proofs.YtndnnndnhnlkdaaGreatDoor.Rg
namespace Go.Abs
open M
section
variable {κ : Type} [DecidableEq κ]
theorem aAQ {α β:Type}(g:α->β): ∀(l:List α)(i:Nat),(l.map g).eraseIdx i=(l.eraseIdx i).map g
 |[],_=>rfl
 |a::l,0=>rfl
 |a::l,i+1=>by simp[aAQ g l i]
structure KeyC (kt:KeyT)(enc:κ->Value):Prop where
 eq: ∀a b:κ,kS kt (enc a) (enc b)=some (decide (a=b))
def kZ (enc:κ->Value)(e:κ×Value×Nat):Ent:=⟨enc e.1,e.2.1,e.2.2⟩
def upd (f:κ->Option Value)(k:κ)(v:Option Value):κ->Option Value:=λk'=>if k'=k then v else f k'
structure MapI (enc:κ->Value)(es:List (κ×Value×Nat))(clock:Nat)(f:κ->Option Value):Prop where
 keys:(es.map (·.1)).Nodup
 born:(es.map (·.2.2)).Nodup
 lt: ∀e∈es,e.2.2<clock
 no: ∀k,f k=none↔ ∀e∈es,e.1≠k
 yes: ∀(e:κ×Value×Nat),e∈es->f e.1=some e.2.1
def IsMap (enc:κ->Value)(H:aE)(mb:Nat)(f:κ->Option Value):Prop:= ∃es clock,H[mb]? =some (.map (es.map (kZ enc)) clock)/\MapI enc es clock f
variable {kt : KeyT} {enc : κ → Value} {H : aE} {mb : Nat} {f : κ → Option Value}
theorem MapI.Hu {es:List (κ×Value×Nat)}{clock:Nat}(h:MapI enc es clock f){k:κ}{v:Value}(hf:f k=some v): ∃(i:Nat)(b:Nat),es[i]? =some (k,v,b):=by
 by_cases hx: ∀e∈es,e.1≠k
 ·rw[(h.no k).mpr hx] at hf
  cases hf
 ·simp only[Classical.not_forall] at hx
  obtain⟨e,he,hk⟩:=hx;have hk:e.1=k:=Classical.not_not.mp hk;have:=h.yes e he;rw[hk,hf] at this;cases this;obtain⟨i,hi⟩:=List.getElem?_of_mem he
  exact⟨i,e.2.2,by rw[hi,<-hk]⟩
theorem C4 (hk:KeyC kt enc)(k:κ): ∀(es:List (κ×Value×Nat))(j:Nat),(∀e∈es,e.1≠k)->mT kt (enc k) (es.map (kZ enc)) j=some none
 |[],j,_=>rfl
 |e::es,j,h=>by
  have h1:kS kt (enc k) (kZ enc e).key=some false:=by
   show kS kt (enc k) (enc e.1)=some false
   rw[hk.eq,aRV (λhh=>h e (by simp) hh.symm)]
  simp only[aRF,mT,h1];exact C4 hk k es (j+1) λe' he'=>h e' (by simp[he'])
theorem Am (hk:KeyC kt enc): ∀(es:List (κ×Value×Nat))(i j:Nat)(e:κ×Value×Nat),(es.map (·.1)).Nodup->es[i]? =some e->mT kt (enc e.1) (es.map (kZ enc)) j=some (some (j+i,kZ enc e))
 |[],i,j,e,_,h=>by simp at h
 |x::es,i,j,e,hn,h=>by
  simp only[aRF,List.nodup_cons] at hn;cases i with
  |zero=>
   simp only[List.getElem?_cons_zero,aRB] at h;subst h;have h1:kS kt (enc x.1) (kZ enc x).key=some true:=by
    show kS kt (enc x.1) (enc x.1)=some true
    rw[hk.eq,aRU rfl]
   simp only[aRF,mT,h1,Nat.add_zero]
  |succ i=>
   simp only[List.getElem?_cons_succ] at h;have hne:e.1≠x.1:=λhh=>hn.1 (by rw[<-hh];exact List.mem_map_of_mem (aRk h))
   have h1:kS kt (enc e.1) (kZ enc x).key=some false:=by
    show kS kt (enc e.1) (enc x.1)=some false
    rw[hk.eq,aRV hne]
   simp only[aRF,mT,h1];rw[Am hk es i (j+1) e hn.2 h]
   congr 3
   omega
theorem wP (hk:KeyC kt enc)(k:κ):kS kt (enc k) (enc k)=some true:=by rw[hk.eq,aRU rfl]
theorem IsMap.yO {H':aE}(h:IsMap enc H mb f)(hk:H'[mb]? =H[mb]?):IsMap enc H' mb f:=by
 obtain⟨es,c,h1,h2⟩:=h
 exact⟨es,c,by rw[hk,h1],h2⟩
theorem IsMap.yN (hk:KeyC kt enc)(h:IsMap enc H mb f)(k:κ)(z:Value):mU kt z false (.map (some mb)) (enc k) H=some ((f k).getD z,H):=by
 obtain⟨es,c,h1,h2⟩:=h;unfold mU;rw[if_pos (wP hk k)];simp only;rw[h1];simp only;cases hf:f k with
 |none=>
  rw[C4 hk k es 0 ((h2.no k).mp hf)];rfl
 |some v=>
  obtain⟨i,b,hi⟩:=h2.Hu hf;rw[Am hk es i 0 _ h2.keys hi];rfl
theorem MapI.Pn {es:List (κ×Value×Nat)}{clock:Nat}(h:MapI enc es clock f){k:κ}{v0 v:Value}{i b:Nat}(hi:es[i]? =some (k,v0,b)):MapI enc (es.set i (k,v,b)) clock (upd f k (some v)):=by
 have hlt:=(aRa.mp hi).1;have hmap1:(es.set i (k,v,b)).map (·.1)=es.map (·.1):=by
  rw[List.map_set];apply aRL;intro j;by_cases hj:i=j
  ·subst hj
   rw[aRg (by simpa using hlt),aRn,hi]
   rfl
  ·rw[aRb hj]
 have hmap2:(es.set i (k,v,b)).map (·.2.2)=es.map (·.2.2):=by
  rw[List.map_set];apply aRL;intro j;by_cases hj:i=j
  ·subst hj
   rw[aRg (by simpa using hlt),aRn,hi]
   rfl
  ·rw[aRb hj]
 refine⟨by rw[hmap1];exact h.keys,by rw[hmap2];exact h.born,λe he=> ?_,λk'=> ?_,λe he=> ?_⟩
 ·rcases List.mem_or_eq_of_mem_set he with he|rfl
  ·exact h.lt e he
  ·have:=h.lt _ (aRk hi)
   exact this
 ·unfold upd
  by_cases hk:k'=k
  ·rw[if_pos hk]
   constructor
   ·intro hh;cases hh
   ·intro hh
    exact absurd hk.symm (hh (k,v,b) (aRk (aRg hlt)))
  ·rw[if_neg hk,h.no k']
   have key: ∀e,e∈es.map (·.1)↔e∈(es.set i (k,v,b)).map (·.1):=λe=>by rw[hmap1]
   constructor
   ·intro hh e he hek
    have:=(key e.1).mpr (List.mem_map_of_mem he);obtain⟨e',he',hee⟩:=aRN.mp this;exact hh e' he' (by rw[hee,hek])
   ·intro hh e he hek
    have:=(key e.1).mp (List.mem_map_of_mem he);obtain⟨e',he',hee⟩:=aRN.mp this;exact hh e' he' (by rw[hee,hek])
 ·unfold upd
  obtain⟨j,hj⟩:=List.getElem?_of_mem he;by_cases hij:i=j
  ·subst hij
   rw[aRg hlt] at hj;cases hj;rw[if_pos rfl]
  ·rw[aRb hij] at hj
   have hne:e.1≠k:=λhh=>by
    have h1:(es.map (·.1))[i]? =some k:=by rw[aRn,hi];rfl
    have h2:(es.map (·.1))[j]? =some k:=by rw[aRn,hj,<-hh];rfl
    have l1:=(aRa.mp h1);have l2:=(aRa.mp h2);exact hij ((List.getElem_inj h.keys).mp (l1.2.trans l2.2.symm))
   rw[if_neg hne];exact h.yes e (aRk hj)
theorem MapI.aAO {es:List (κ×Value×Nat)}{clock:Nat}(h:MapI enc es clock f){k:κ}(v:Value)(hf:f k=none):MapI enc (es++[(k,v,clock)]) (clock+1) (upd f k (some v)):=by
 have hno:=(h.no k).mp hf;refine⟨?_,?_,λe he=> ?_,λk'=> ?_,λe he=> ?_⟩
 ·rw[List.map_append,List.nodup_append]
  refine⟨h.keys,by simp,λa ha b hb hab=> ?_⟩
  obtain⟨e,he,rfl⟩:=aRN.mp ha;simp at hb;exact hno e he (hab.trans hb)
 ·rw[List.map_append,List.nodup_append]
  refine⟨h.born,by simp,λa ha b hb hab=> ?_⟩
  obtain⟨e,he,rfl⟩:=aRN.mp ha;have:=h.lt e he;simp at hb;omega
 ·rcases List.mem_append.mp he with he|he
  ·have:=h.lt e he
   omega
  ·rw[List.mem_singleton] at he
   subst he;simp
 ·unfold upd
  by_cases hk:k'=k
  ·rw[if_pos hk]
   constructor
   ·intro hh;cases hh
   ·intro hh
    exact absurd hk.symm (hh (k,v,clock) (by simp))
  ·rw[if_neg hk,h.no k']
   constructor
   ·intro hh e he hek
    rcases List.mem_append.mp he with he|he
    ·exact hh e he hek
    ·rw[List.mem_singleton] at he
     subst he;exact hk hek.symm
   ·intro hh e he
    exact hh e (by simp[he])
 ·unfold upd
  rcases List.mem_append.mp he with he|he
  ·rw[if_neg (hno e he)]
   exact h.yes e he
  ·rw[List.mem_singleton] at he
   subst he;rw[if_pos rfl]
theorem MapI.aMJ {es:List (κ×Value×Nat)}{clock:Nat}(h:MapI enc es clock f){k:κ}{v0:Value}{i b:Nat}(hi:es[i]? =some (k,v0,b)):MapI enc (es.eraseIdx i) clock (upd f k none):=by
 have hsub:=List.eraseIdx_sublist es i;have hlt:=(aRa.mp hi).1;have hin: ∀e,e∈es.eraseIdx i↔e∈es/\e.1≠k:=by
  intro e;constructor
  ·intro he
   refine⟨hsub.subset he,λhek=> ?_⟩
   obtain⟨j,hj⟩:=List.getElem?_of_mem he;rw[List.getElem?_eraseIdx] at hj;obtain⟨j',hj',hne⟩: ∃j':Nat,es[j']? =some e/\j'≠i:=by
    by_cases hji:j<i
    ·rw[if_pos hji] at hj
     exact⟨j,hj,by omega⟩
    ·rw[if_neg hji] at hj
     exact⟨j+1,hj,by omega⟩
   have h1:(es.map (·.1))[i]? =some k:=by rw[aRn,hi];rfl
   have h2:(es.map (·.1))[j']? =some k:=by rw[aRn,hj',<-hek];rfl
   have l1:=(aRa.mp h1);have l2:=(aRa.mp h2);exact hne ((List.getElem_inj h.keys).mp (l2.2.trans l1.2.symm))
  ·rintro ⟨he,hek⟩
   obtain⟨j,hj⟩:=List.getElem?_of_mem he;have hne:j≠i:=by
    rintro rfl
    rw[hi] at hj;cases hj;exact hek rfl
   by_cases hji:j<i
   ·exact aRk (i:=j) (by rw[List.getElem?_eraseIdx,if_pos hji,hj])
   ·refine aRk (i:=j-1) ?_
    rw[List.getElem?_eraseIdx,if_neg U,show j-1+1=j by omega,hj]
 refine⟨(hsub.map _).nodup h.keys,(hsub.map _).nodup h.born,λe he=>h.lt e ((hin e).mp he).1,λk'=> ?_,λe he=> ?_⟩
 ·unfold upd
  by_cases hk:k'=k
  ·rw[if_pos hk]
   exact⟨λ_ e he hek=>((hin e).mp he).2 (hek.trans hk),λ_=>rfl⟩
  ·rw[if_neg hk,h.no k']
   constructor
   ·intro hh e he
    exact hh e ((hin e).mp he).1
   ·intro hh e he hek
    exact hh e ((hin e).mpr ⟨he,by rw[hek];exact hk⟩) hek
 ·unfold upd
  rw[if_neg ((hin e).mp he).2];exact h.yes e ((hin e).mp he).1
theorem C5 (es:List (κ×Value×Nat))(i:Nat)(e:κ×Value×Nat):(es.map (kZ enc)).set i (kZ enc e)=(es.set i e).map (kZ enc):=by rw[List.map_set]
theorem IsMap.aMI (hk:KeyC kt enc)(h:IsMap enc H mb f)(k:κ)(v:Value)(hf:f k≠none): ∃X,nU kt (.map (some mb)) (enc k) v H=some (undef,H.set mb X)/\IsMap enc (H.set mb X) mb (upd f k (some v))/\ ∃es c,X= .map es c:=by
 obtain⟨es,c,h1,h2⟩:=h;obtain⟨v0,hv0⟩:=Option.ne_none_iff_exists'.mp hf;obtain⟨i,b,hi⟩:=h2.Hu hv0;have hlt:=(aRa.mp h1).1;refine⟨.map ((es.set i (k,v,b)).map (kZ enc)) c,?_,⟨_,c,by rw[aRg hlt],h2.Pn hi⟩,_,_,rfl⟩
 unfold nU;rw[if_pos (wP hk k)];simp only;rw[h1];simp only;have:=Am hk es i 0 _ h2.keys hi;simp only at this;rw[this];simp only[aRv];rw[<-C5];rfl
theorem IsMap.aMG (hk:KeyC kt enc)(h:IsMap enc H mb f)(k:κ)(hf:f k≠none): ∃X,tI kt (.map (some mb)) (enc k) H=some (.tuple #[],H.set mb X)/\IsMap enc (H.set mb X) mb (upd f k none)/\ ∃es c,X= .map es c:=by
 obtain⟨es,c,h1,h2⟩:=h;obtain⟨v0,hv0⟩:=Option.ne_none_iff_exists'.mp hf;obtain⟨i,b,hi⟩:=h2.Hu hv0;have hlt:=(aRa.mp h1).1;refine⟨.map ((es.eraseIdx i).map (kZ enc)) c,?_,⟨_,c,by rw[aRg hlt],h2.aMJ hi⟩,_,_,rfl⟩
 unfold tI;rw[if_pos (wP hk k)];simp only;rw[h1];simp only;have:=Am hk es i 0 _ h2.keys hi;simp only at this;rw[this];simp only[aRv];rw[aAQ]
theorem aAP (es:List (κ×Value×Nat))(hn:(es.map (·.2.2)).Nodup){i:Nat}{e:κ×Value×Nat}(hi:es[i]? =some e):(es.map (kZ enc)).findIdx? (λx=>(x.born:Int)==(e.2.2:Int))=some i:=by
 have hlt:=(aRa.mp hi).1;have he:=(aRa.mp hi).2;rw[List.findIdx?_eq_some_iff_getElem];refine⟨by simpa using hlt,?_,λj hji=> ?_⟩
 ·simp[kZ,he]
 ·have hne:es[j].2.2≠e.2.2:=λhh=>by
   have h1:(es.map (·.2.2))[i]'(by simpa using hlt)=e.2.2:=by simp[he]
   have h2:(es.map (·.2.2))[j]'(by simp;omega)=e.2.2:=by simp[hh]
   have:=(List.getElem_inj hn).mp (h1.trans h2.symm);omega
  simp[kZ];omega
theorem IsMap.aMH (hk:KeyC kt enc)(h:IsMap enc H mb f)(k:κ)(z:Value): ∃(b:Nat)(X:Blk),sV kt z (.map (some mb)) (enc k) H=some (.tuple #[(f k).getD z,.int .i64 b],H.set mb X)/\(∃es c,X= .map es c)/\
  ∀(H2:aE)(v:Value),H2[mb]? =some X-> ∃X',sT (.map (some mb)) (.int .i64 b) v H2=some (undef,H2.set mb X')/\IsMap enc (H2.set mb X') mb (upd f k (some v))/\ ∃es c,X'= .map es c:=by
 obtain⟨es,c,h1,h2⟩:=h;cases hf:f k with
 |none=>
  refine⟨c,.map ((es++[(k,z,c)]).map (kZ enc)) (c+1),?_,⟨_,_,rfl⟩,λH2 v hX=> ?_⟩
  ·unfold sV
   rw[if_pos (wP hk k)];simp only;rw[h1];simp only;rw[C4 hk k es 0 ((h2.no k).mp hf)];simp[kZ]
  ·have hp:=h2.aAO z hf
   have hi:(es++[(k,z,c)])[es.length]? =some (k,z,c):=by simp
   have hlt:=(aRa.mp hX).1;have hs:=hp.Pn (v:=v) hi;have hup:upd (upd f k (some z)) k (some v)=upd f k (some v):=by
    funext k'
    unfold upd
    split<;>rfl
   rw[hup] at hs;refine⟨.map (((es++[(k,z,c)]).set es.length (k,v,c)).map (kZ enc)) (c+1),?_,⟨_,_,by rw[aRg hlt],hs⟩,_,_,rfl⟩
   unfold sT;simp only;rw[hX];simp only;have:=aAP (enc:=enc) (es++[(k,z,c)]) hp.born hi;simp only at this;rw[this];simp only;rw[aRn,hi];simp only[Option.map_some];rw[<-C5];rfl
 |some v0=>
  obtain⟨i,b,hi⟩:=h2.Hu hf;have hset:es.set i (k,v0,b)=es:=by
   apply aRL;intro j;by_cases hj:i=j
   ·subst hj
    rw[aRg (aRa.mp hi).1,hi]
   ·rw[aRb hj]
  refine⟨b,.map (es.map (kZ enc)) c,?_,⟨_,_,rfl⟩,λH2 v hX=> ?_⟩
  ·unfold sV
   rw[if_pos (wP hk k)];simp only;rw[h1];simp only;have:=Am hk es i 0 _ h2.keys hi;simp only at this;rw[this];simp only[aRv];have e1:(⟨enc k,(kZ enc (k,v0,b)).val,(kZ enc (k,v0,b)).born⟩:Ent)=kZ enc (k,v0,b):=rfl;rw[e1,C5,hset];rfl
  ·have hlt:=(aRa.mp hX).1
   refine⟨.map ((es.set i (k,v,b)).map (kZ enc)) c,?_,⟨_,c,by rw[aRg hlt],h2.Pn hi⟩,_,_,rfl⟩
   unfold sT;simp only;rw[hX];simp only;have:=aAP (enc:=enc) es h2.born hi;simp only at this;rw[this];simp only;rw[aRn,hi];simp only[Option.map_some];rw[<-C5];rfl
theorem IsMap.aAN (H:aE):IsMap enc (H++[.map [] 0]) H.length (λ_=>none):=
 ⟨[],0,by simp,⟨by simp,by simp,by simp,λk=>by simp,λe he=>by simp at he⟩⟩
end
end Go.Abs
namespace Go.Proofs.YtndnnndnhnlkdaaGreatDoor.Rg
open Go.Proofs.Tryz
open Go.Abs Go.Abs.M
abbrev lB:=Int×Int×Int
def nS (w:lB):Value:= .agg #[.I w.1,.I w.2.1,.I w.2.2]
abbrev kW:KeyT:= .str [true,true,true]
theorem wQ:KeyC kW nS:=⟨λa b=>by
 obtain⟨a1,a2,a3⟩:=a;obtain⟨b1,b2,b3⟩:=b;have h:((a1,a2,a3)=(b1,b2,b3))=(a1=b1/\a2=b2/\a3=b3):=by simp
 simp[kS,nS,eqT];by_cases h1:a1=b1<;>by_cases h2:a2=b2<;>by_cases h3:a3=b3<;>simp[h1,h2,h3]⟩
theorem bW (a b c:Int):bld prog 173 [(0,.I a),(1,.I b),(2,.I c)]=some (nS (a,b,c)):=rfl
theorem szI:prog.cellsOf 3=1:=by kernel_rfl
def AR (x:Blk):Prop:=match x with
 | .map _ _=>True
 | .dead=>True
 | .cells _ e k=>(e=204/\k= .fix)∨(e=207/\k= .row)∨(e=3/\k= .row)
def AS (x:Blk):Prop:=AR x∨match x with
 | .cells _ e k=>(e=39/\k= .fix)∨(e=171/\k= .fix)
 |_=>False
abbrev En:=lB×Nat×Pkt
def qOf (L:List En)(w:lB):List Nat:=(L.filter λe=>decide (e.1=w)).map (·.2.1)
def oI (L:List En)(w:lB):List Pkt:=(L.filter λe=>decide (e.1=w)).map (·.2.2)
def nC (k:Nat):Value:= .I k
theorem Pt (L:List En)(w:lB):(qOf L w).length=(oI L w).length:=by simp[qOf,oI]
structure RI (H:aE)(a:Nat)(L:List En)(n ports lanes:Nat)(p s mb:Nat)(l:List kF)(top free:Int)(fl:List Nat)(f:lB->Option Value):Prop where
 hd:H[a]? =some (.cells [.Q p 0,.map (some mb),.I ports,.I lanes] 171 .fix)
 pool:Model H p s l top free fl
 len:l.length=n
 cnt:L.length+fl.length=n
 nd:(L.map (·.2.1)).Nodup
 full: ∀e∈L,∃q d,l[e.2.1]? =some (some (q,e.2.2),d)
 mp:IsMap nS H mb f
 no: ∀w,f w=none->qOf L w=[]
 yes: ∀w v,f w=some v->RowO 3 H v ((qOf L w).map nC)/\qOf L w≠[]
 sep: ∀w w' v v' b,f w=some v->f w'=some v'->w≠w'->cP v b-> ¬cP v' b
 b1:1<=n/\n<=200
 b2:ports<=16/\lanes<=3
def IsRings (H:aE)(a:Nat)(L:List En)(n ports lanes:Nat):Prop:= ∃p s mb l top free fl f,RI H a L n ports lanes p s mb l top free fl f
section
variable {H H' : aE} {a n ports lanes p s mb : Nat} {L : List En} {l : List kF} {top free : Int} {fl : List Nat} {f : lB → Option Value}
theorem RI.Hv (h:RI H a L n ports lanes p s mb l top free fl f)(hk: ∀(b:Nat)(x:Blk),H[b]? =some x->AS x->H'[b]? =some x):RI H' a L n ports lanes p s mb l top free fl f:=by
 refine⟨hk _ _ h.hd (.inr (.inr ⟨rfl,rfl⟩)),⟨⟨hk _ _ h.pool.pool.hp (.inl (.inl ⟨rfl,rfl⟩)),hk _ _ h.pool.pool.hs (.inl (.inr (.inl ⟨rfl,rfl⟩))),λi q x d hi=>hk _ _ (h.pool.pool.hq i q x d hi) (.inr (.inl ⟨rfl,rfl⟩))⟩,h.pool.chain,h.pool.nodup,h.pool.full,h.pool.cnt,h.pool.len⟩,
  h.len,h.cnt,h.nd,h.full,?_,h.no,λw v hv=>⟨?_,(h.yes w v hv).2⟩,h.sep,h.b1,h.b2⟩
 ·obtain⟨es,c,h1,h2⟩:=h.mp
  exact⟨es,c,hk _ _ h1 (.inl trivial),h2⟩
 ·refine(h.yes w v hv).1.tV λb hb=> ?_
  obtain⟨xs,hx⟩:=(h.yes w v hv).1.blk hb;rw[hx];exact hk _ _ hx (.inl (.inr (.inr ⟨rfl,rfl⟩)))
theorem RI.app (h:RI H a L n ports lanes p s mb l top free fl f)(G:aE):RI (H++G) a L n ports lanes p s mb l top free fl f:=h.Hv λb x hx _=>(Ch.app (λ_=>False) H G).2 b x hx id
theorem IsRings.app (h:IsRings H a L n ports lanes)(G:aE):IsRings (H++G) a L n ports lanes:=by
 obtain⟨p,s,mb,l,top,free,fl,f,hi⟩:=h
 exact⟨p,s,mb,l,top,free,fl,f,hi.app G⟩
theorem RI.ld0 (h:RI H a L n ports lanes p s mb l top free fl f):ld1 (.Q a 0) H=some (.Q p 0,H):=by rw[j9,h.hd];rfl
theorem RI.ld1 (h:RI H a L n ports lanes p s mb l top free fl f):ld1 (.Q a 1) H=some (.map (some mb),H):=by rw[j9,h.hd];rfl
theorem RI.ld2 (h:RI H a L n ports lanes p s mb l top free fl f):Go.Abs.ld1 (.Q a 2) H=some (.I ports,H):=by rw[j9,h.hd];rfl
theorem RI.ld3 (h:RI H a L n ports lanes p s mb l top free fl f):Go.Abs.ld1 (.Q a 3) H=some (.I lanes,H):=by rw[j9,h.hd];rfl
end
theorem Pr (L:List En)(e:En)(w:lB):qOf (e::L) w=if e.1=w then e.2.1::qOf L w else qOf L w:=by
 unfold qOf;by_cases h:e.1=w<;>simp[h]
theorem aAR (L:List En)(e:En)(w:lB):oI (e::L) w=if e.1=w then e.2.2::oI L w else oI L w:=by
 unfold oI;by_cases h:e.1=w<;>simp[h]
theorem Pp (L:List En)(e:En)(w:lB):qOf (L++[e]) w=if e.1=w then qOf L w++[e.2.1] else qOf L w:=by
 unfold qOf;by_cases h:e.1=w<;>simp[List.filter_append,h]
def oA (L:List En)(w:lB):List En:=L.eraseP λe=>decide (e.1=w)
theorem C6 (w w':lB): ∀L:List En,qOf (oA L w) w'=if w=w' then(qOf L w').tail else qOf L w'
 |[]=>by simp[oA,qOf]
 |e::L=>by
  have ih:=C6 w w' L;unfold oA at ih⊢;by_cases h:e.1=w
  ·simp only[List.eraseP_cons,h,decide_true,cond_true,Pr]
   by_cases hw:w=w'
   ·simp[hw]
   ·simp[hw]
  ·simp only[List.eraseP_cons,h,decide_false,cond_false,Pr,ih]
   by_cases hw:w=w'
   ·subst hw
    simp[h]
   ·simp[hw]
theorem Po {w:lB}: ∀{L:List En}{k:Nat}{ks:List Nat},qOf L w=k::ks-> ∃x xs,oI L w=x::xs/\(w,k,x)∈L/\L.length=(oA L w).length+1/\ ∀e,e∈oA L w->e∈L/\((L.map (·.2.1)).Nodup->e.2.1≠k)
 |[],k,ks,h=>by simp[qOf] at h
 |e::L,k,ks,h=>by
  obtain⟨we,ke,xe⟩:=e;rw[Pr] at h;by_cases hw:we=w
  ·subst hw
   simp only[if_pos] at h;cases h;refine⟨xe,oI L we,by rw[aAR];simp,by simp,by simp[oA],λe he=> ?_⟩
   have he':e∈L:=by simpa[oA] using he
   refine⟨by simp[he'],λhn=> ?_⟩
   simp only[aRF,List.nodup_cons] at hn;intro hh;exact hn.1 (by rw[<-hh];exact List.mem_map_of_mem he')
  ·simp only[hw,if_false] at h
   obtain⟨x,xs,h1,h2,h3,h4⟩:=Po h;refine⟨x,xs,by rw[aAR];simp[hw,h1],by simp[h2],by simp[oA,hw] at h3 ⊢; omega,λe he=> ?_⟩
   have he':e=(we,ke,xe)∨e∈oA L w:=by
    simp only[oA,List.eraseP_cons,hw,decide_false,cond_false] at he;simpa[oA] using he
   rcases he' with rfl|he'
   ·refine⟨by simp,λhn=> ?_⟩
    simp only[aRF,List.nodup_cons] at hn;intro hh;exact hn.1 (by rw[show ke=k from hh];exact List.mem_map_of_mem h2)
   ·obtain⟨g1,g2⟩:=h4 e he'
    refine⟨by simp[g1],λhn=> ?_⟩
    simp only[aRF,List.nodup_cons] at hn;exact g2 hn.2
end Go.Proofs.YtndnnndnhnlkdaaGreatDoor.Rg
