/-
  PARTS OF THIS CLAIM'S PROOF, laid together by a program of mine.
-/
import Derived.Test.YtciiopkbmjppfaaGreatDoorAbsM6
set_option linter.unusedVariables false
set_option linter.unusedSimpArgs false
set_option linter.unusedSectionVars false
set_option maxRecDepth 100000
namespace Go.Proofs.YtciiopkbmjppfaaGreatDoor
open Go.Proofs.Tryz
open Go.Abs Go.Abs.M
open Classical
section
variable {Hs H : aF} {F : Part → Nat → Prop} {ev wv nv : Value} {y : Lay} {c : Cfg} {p : PlanD} {m : Nat}
def Rz (Hs:aF)(p:PlanD)(ev wv nv:Value)(c:Cfg)(H':aF)(r:Value):Prop:= ∃F y,r=pt y.nb/\NodeAt Hs H' F y p ev wv nv c 0 (NS.kZ c)
theorem aDr (a b:Nat)(h:a*b<100000):IntKind.i64.wrap ((a:Int)*b)=((a*b:Nat):Int):=by
 have e:(a:Int)*b=((a*b:Nat):Int):=by push_cast;rfl
 rw[e];exact bJ U U
theorem aRh {pl:Nat}{pv:Value}(hok:c.ok)(hc:c=cT p c.me)(hop: ∃n,OkP p n)(hPV:PV Hs p ev wv nv)(hpl:Hs[pl]? =some (plB p ev wv nv))(e2:p.lanes=(c.lanes:Int))(e3:p.room=(c.room:Int))(hm:400<m)
  (h:BN Hs H F p.bag ev wv nv y c c.aJ c.aJ 0 0 pv)(hfe:FE F c c.aJ c.aJ 0 0): ∀(x4 x8 Av x48 x49 qK Aw:Value),
  ∃H2 r,Ov (lvl prog pkN m) (aL m) (pt pl) x4 (pt y.nb) x8 Av x48 x49 qK Aw H=some (r,H2)/\Rz Hs p ev wv nv c H2 r:=by
 intros;have h6:c.aJ<=6:=by have:=hok.by';unfold Cfg.aJ;omega
 have hp1:1<=c.aJ:=by unfold Cfg.aJ;omega
 have hlanes:=hok.lanes;have hroom:=hok.room;obtain⟨pb,pcap,prest,hpv,hpc,hpb⟩: ∃b cap rest,pv= .slice (some ⟨b,0,none⟩) c.aJ cap/\c.aJ<=cap/\H[b]? =some (.cells (((List.range c.aJ).map (dK y c)).flatten++rest) 145 .row):=by
  obtain⟨_,⟨_,h0⟩|⟨c',cap,rest,h1,h2,_,h3⟩⟩:=h.ports
  ·rw[aUH] at h0
   omega
  ·rw[aUH] at h1 h2
   exact⟨c',cap,rest,h1,h2,h3⟩
 have hpbF:=h.pvF pb (by rw[hpv];exact⟨_,_,_,rfl⟩)
 have n13:ld1 (.Q y.nb 13) H=some (pv,H):=bA h.nb rfl;have lpv:cX pv=some (.I c.aJ):=by rw[hpv];rfl
 obtain⟨ab,ga,aa,H1,a1,a2,a3,x1,a4,a5,a6⟩:=aPU (H:=H) (m:=m) (n:=c.aJ) hp1 U U
 have hA1:Has (Blks (fB ab ga aa (List.replicate c.aJ 0) (List.replicate c.aJ 0))) (InB (fB ab ga aa (List.replicate c.aJ 0) (List.replicate c.aJ 0))) H1:=
  Has.Ie a2 (λq hq=>⟨q,hq,rfl⟩) λb ⟨q,hq,hb⟩=>by rw[<-hb];exact bU (a2 q hq)
 have hge1: ∀b,InB (fB ab ga aa (List.replicate c.aJ 0) (List.replicate c.aJ 0)) b->H.length<=b:=λb ⟨q,hq,hb⟩=>by
  rw[<-hb];simp only[fB,aUw,aUD,or_false] at hq;rcases hq with rfl|rfl|rfl
  ·exact a4
  ·exact a5
  ·exact a6
 have sep1:=h.sep.If .arb (C7 _ _ _ _ _ _) (hfe .arb id) hA1 x1 hge1;obtain⟨F1,hF1⟩:=aD (updI F .arb (InB (fB ab ga aa (List.replicate c.aJ 0) (List.replicate c.aJ 0))));obtain⟨A1,hA1'⟩: ∃A1,A1=updI (jB y c c.aJ c.aJ 0 0) .arb (Blks (fB ab ga aa (List.replicate c.aJ 0) (List.replicate c.aJ 0))):=⟨_,rfl⟩;rw[<-hF1,<-hA1'] at sep1;have dx1: ∀j,DX (A1 j):=λj=>by
  rw[hA1'];unfold updI;split
  ·exact Blks.dx _
  ·exact C7 _ _ _ _ _ _ j
 have hun1: ∀b,b<H.length-> ¬Un F b-> ¬Un F1 b:=λb hb hF hu=>by
  rw[hF1] at hu
  exact(sV hu).elim hF λhg=>by have:=hge1 b hg;omega
 have bn1:H1[y.nb]? =some (qC p.bag ev wv nv y c pv):=by rw[x1.2 _ (bU h.nb) id,h.nb]
 obtain⟨H2,hH2⟩:=aD (H1.set y.nb (.cells [pt ab,.I c.nodes,ev,.I c.lanes,.I c.room,.I c.queue,.I c.rounds,.I c.every,.I p.bag,wv,.int .u16 c.start,nv,.I c.me,pv,pt y.hb,.pointer none,.I 0] 120 .fix));have st1:stN 1 (.Q y.nb 0) (pt ab) H1=some (undef,H2):=by rw[hH2];exact nI bn1 aC (by simp) rfl rfl
 have bn2:H2[y.nb]? =some (.cells [pt ab,.I c.nodes,ev,.I c.lanes,.I c.room,.I c.queue,.I c.rounds,.I c.every,.I p.bag,wv,.int .u16 c.start,nv,.I c.me,pv,pt y.hb,.pointer none,.I 0] 120 .fix):=by rw[hH2];exact dN bn1
 have fr2:Fr (λb=>b=y.nb) H1 H2:=⟨by rw[hH2];simp,λb hb hn=>by rw[hH2,aUe (λhh=>hn hh.symm)]⟩
 have nbl:=bU h.nb;have nbF1:=hun1 _ nbl h.nbF;have mv2:Mv (λb=>b=y.nb) (λb=>b=y.nb) H1 H2:=⟨fr2.1,λ_ h=> .inl h,λb hb hn=>fr2.2 b hb hn⟩
 have sep2:=sep1.wO dx1 mv2 λb hb hh=>nbF1 (by rw[<-hh];exact hb)
 have hroom2:=aDd hok;have hpos:1<=c.aJ*c.lanes*c.room:=Nat.mul_pos (Nat.mul_pos U U) U
 obtain⟨r,H3,G3,r1,r2,x3,r3⟩:=Has.aCx (A:=λ_=>True) (H:=H2) qT (n:=m) (B:=λr D'=> ∃a,r=pt a/\RingsN D' a [] (c.aJ*c.lanes*c.room) c.aJ c.lanes) (λD _ _=>by
  obtain⟨a,D',g1,g2,_,_⟩:=aPa (D:=D) (m:=m) U c.aJ c.lanes (c.aJ*c.lanes*c.room) ⟨hp1,by omega,hlanes.1,hlanes.2,hpos,by omega⟩
  exact⟨_,D',g1,a,rfl,g2⟩)
 obtain⟨rg,hrg,_⟩:=r2.at_;have r2':Has (λD=>RingsN D rg [] (c.aJ*c.lanes*c.room) c.aJ c.lanes) G3 H3:=Has.vO r2 λD ⟨a,ha,hD⟩=>by
  rw[hrg] at ha;injection ha with ha;injection ha with ha;injection ha with ha;rw[ha];exact hD
 have fr1: ∀b,¬F1 .rings b:=λb hb=>by
  rw[hF1,cM _ _ (λhh=>by cases hh)] at hb
  exact hfe .rings id b hb
 have sep3:=sep2.If .rings dx1 fr1 r2' x3 r3;obtain⟨F3,hF3⟩:=aD (updI F1 .rings G3);obtain⟨A3,hA3⟩:=aD (updI A1 .rings (λD=>RingsN D rg [] (c.aJ*c.lanes*c.room) c.aJ c.lanes))
 rw[<-hF3,<-hA3] at sep3;have dx3: ∀j,DX (A3 j):=λj=>by
  rw[hA3];unfold updI;split
  ·exact λD D' h he=>h.ext he
  ·exact dx1 j
 have hl12:=fr2.1;have hl01:=x1.1;have hun3: ∀b,b<H.length-> ¬Un F b-> ¬Un F3 b:=λb hb hF hu=>by
  rw[hF3] at hu
  exact(sV hu).elim (hun1 b hb hF) λhg=>by have:=r3 b hg;omega
 have bn3:H3[y.nb]? =some (.cells [pt ab,.I c.nodes,ev,.I c.lanes,.I c.room,.I c.queue,.I c.rounds,.I c.every,.I p.bag,wv,.int .u16 c.start,nv,.I c.me,pv,pt y.hb,.pointer none,.I 0] 120 .fix):=by rw[x3.2 _ (bU bn2) id,bn2]
 obtain⟨y',hy'⟩: ∃y':Lay,y'={y with pb:=pb,pcap:=pcap,prest:=prest,ab:=ab,ga:=ga,aa:=aa,rg:=rg}:=⟨_,rfl⟩;have hnc:Blk.cells [pt ab,.int .i64 c.nodes,ev,.int .i64 c.lanes,.int .i64 c.room,.int .i64 c.queue,.int .i64 c.rounds,.int .i64 c.every,.int .i64 p.bag,wv,.int .u16 c.start,nv,.int .i64 c.me,pv,pt y.hb,pt rg,.int .i64 0] 120 .fix=vM p.bag ev wv nv y' c 0:=by
  rw[hy',hpv];rfl
 obtain⟨H4,hH4⟩:=aD (H3.set y.nb (vM p.bag ev wv nv y' c 0));have st2:stN 1 (.Q y.nb 15) (pt rg) H3=some (undef,H4):=by rw[hH4,<-hnc];exact nI bn3 aC (by simp) rfl rfl
 have fr4:Fr (λb=>b=y.nb) H3 H4:=⟨by rw[hH4];simp,λb hb hn=>by rw[hH4,aUe (λhh=>hn hh.symm)]⟩
 have mv4:Mv (λb=>b=y.nb) (λb=>b=y.nb) H3 H4:=⟨fr4.1,λ_ h=> .inl h,λb hb hn=>fr4.2 b hb hn⟩
 have nbF3:=hun3 _ nbl h.nbF;have sep4:=sep3.wO dx3 mv4 λb hb hh=>nbF3 (by rw[<-hh];exact hb)
 have keep: ∀b,b<H.length->b≠y.nb->H4[b]? =H[b]? :=λb hb hn=>by
  have hl23:=x3.1;rw[fr4.2 b U hn,x3.2 b U id,fr2.2 b U hn,x1.2 b hb id]
 have bn4:H4[y.nb]? =some (vM p.bag ev wv nv y' c 0):=by rw[hH4];exact dN bn3
 have enb:y'.nb=y.nb:=by rw[hy']
 have hpbn:pb≠y.nb:=λhh=>by
  have:=h.nb;rw[<-hh,hpb] at this;injection this with this;injection this with _ _ h3;cases h3
 have hlbn: ∀i,1<=i->i<c.aJ->y.lb i≠y.nb:=λi a b hh=>by
  have:=(h.lanes i a b).1;rw[hh,h.nb] at this;injection this with this;injection this with _ _ h3;cases h3
 have hnl:Blks (jA p.bag ev wv nv y' c 0) H4/\ ∀b,InB (jA p.bag ev wv nv y' c 0) b->b<H.length/\ ¬Un F b/\Hs.length<=b:=by
  have q0: ∀q∈jA p.bag ev wv nv y' c 0,H4[q.1]? =some q.2/\q.1<H.length/\ ¬Un F q.1/\Hs.length<=q.1:=λq hq=>by
   simp only[jA,aUw,aUQ,aUR] at hq;rcases hq with rfl|rfl|⟨j,hj,rfl⟩
   ·simp only
    rw[enb]
    exact⟨bn4,nbl,h.nbF,h.nb0⟩
   ·have e:y'.pb=pb:=by rw[hy']
    have e2:xQ y' c= .cells (((List.range c.aJ).map (dK y c)).flatten++prest) 145 .row:=by rw[hy'];rfl
    simp only;rw[e,e2]
    exact⟨by rw[keep _ (bU hpb) hpbn,hpb],bU hpb,hpbF.2,hpbF.1⟩
   ·have hjp:j+1<c.aJ:=by unfold Cfg.aJ;omega
    obtain⟨q1,q2,q3,q4⟩:=h.lanes (j+1) U hjp
    have e:y'.lb (j+1)=y.lb (j+1):=by rw[hy']
    have e2:mE y' c (j+1)=mE y c (j+1):=by rw[hy'];rfl
    simp only;rw[e,e2]
    exact⟨by rw[keep _ (bU q1) (hlbn _ U hjp),q1],bU q1,q3,q2⟩
  exact⟨λq hq=>(q0 q hq).1,λb ⟨q,hq,hb⟩=>by rw[<-hb];exact(q0 q hq).2⟩
 have hl4:H.length<=H4.length:=by
  have:=x3.1;have:=fr4.1;omega
 have fn3: ∀b,¬F3 .node b:=λb hb=>by
  rw[hF3,cM _ _ (λhh=>by cases hh),hF1,cM _ _ (λhh=>by cases hh)] at hb
  exact hfe .node id b hb
 have sep5:=Sep.aRg sep4 .node fn3 (B:=Blks (jA p.bag ev wv nv y' c 0)) (G:=InB (jA p.bag ev wv nv y' c 0)) (Has.Ie hnl.1 (λq hq=>⟨q,hq,rfl⟩) λb hb=>by have:=(hnl.2 b hb).1;omega) λb hb=>hun3 b (hnl.2 b hb).1 (hnl.2 b hb).2.1
 have hx4:Ext Hs H4:=by
  have hsl:=h.ext.1;have hnb0:=h.nb0
  exact⟨by omega,λb hb _=>by rw[keep b U U,h.ext.2 b hb id]⟩
 have hnode:NodeAt Hs H4 (updI F3 .node (InB (jA p.bag ev wv nv y' c 0))) y' p ev wv nv c 0 (NS.kZ c):=by
  refine⟨hok,hc,hop,⟨?_,?_,?_,?_⟩,hx4,λb hb=> ?_,hPV,NInv.aOo hok,sep5.wN λj D hD=> ?_⟩
  ·rw[hy'];exact hpc
  ·rw[hy'];exact λi h1 h2=>(h.lanes i h1 h2).2.2.2
  ·rw[hy'];exact a3
  ·rw[hy'];exact h.ww
  ·have hsl:=h.ext.1
   rcases sV hb with hb|hb
   ·rw[hF3] at hb
    rcases sV hb with hb|hb
    ·rw[hF1] at hb
     rcases sV hb with hb|hb
     ·exact h.new b hb
     ·have:=hge1 b hb;omega
    ·have:=r3 b hb;omega
   ·exact(hnl.2 b hb).2.2
  ·cases j with
   |node=>
    rw[eY] at hD;exact hD
   |rings=>
    rw[cM _ _ (λhh=>by cases hh),hA3,eY] at hD
    rw[hy'];exact hD
   |arb=>
    rw[cM _ _ (λhh=>by cases hh),hA3,cM _ _ (λhh=>by cases hh),hA1',eY] at hD
    rw[hy'];exact hD
   |host=>
    rw[cM _ _ (λhh=>by cases hh),hA3,cM _ _ (λhh=>by cases hh),hA1',cM _ _ (λhh=>by cases hh)] at hD
    rw[hy'];exact hD
   |whl i=>
    rw[cM _ _ (λhh=>by cases hh),hA3,cM _ _ (λhh=>by cases hh),hA1',cM _ _ (λhh=>by cases hh)] at hD
    rw[hy'];exact hD
   |snd i k=>
    rw[cM _ _ (λhh=>by cases hh),hA3,cM _ _ (λhh=>by cases hh),hA1',cM _ _ (λhh=>by cases hh)] at hD
    rw[hy'];simp only[jB,iL] at hD⊢;by_cases hd:1<=i/\i<c.aJ/\k<c.lanes
    ·rw[if_pos (.inl hd)] at hD
     rw[if_pos hd];exact hD
    ·rw[if_neg (by unfold DnB;omega)] at hD
     rw[if_neg hd];exact hD
   |rcv i k=>
    rw[cM _ _ (λhh=>by cases hh),hA3,cM _ _ (λhh=>by cases hh),hA1',cM _ _ (λhh=>by cases hh)] at hD
    rw[hy'];simp only[jB,iL] at hD⊢;by_cases hd:1<=i/\i<c.aJ/\k<c.lanes
    ·rw[if_pos (.inl hd)] at hD
     rw[if_pos hd];exact hD
    ·rw[if_neg (by unfold DnB;omega)] at hD
     rw[if_neg hd];exact hD
 have hp: ∀G:aF,Ext Hs G->G[pl]? =some (plB p ev wv nv):=λG hG=>by rw[hG.2 _ (bU hpl) id,hpl]
 have hx2:Ext Hs H2:=by
  have hsl:=h.ext.1;have hnb0:=h.nb0
  exact⟨by omega,λb hb _=>by rw[fr2.2 b U U,x1.2 b U id,h.ext.2 b hb id]⟩
 have l2:ld1 (.Q pl 2) H2=some (.I c.lanes,H2):=by rw[cQ (hp H2 hx2) 2 (.I p.lanes) rfl,e2]
 have l3:ld1 (.Q pl 3) H2=some (.I c.room,H2):=by rw[cQ (hp H2 hx2) 3 (.I p.room) rfl,e3]
 have n13':ld1 (.Q y.nb 13) H2=some (pv,H2):=bA bn2 rfl;have hpl18:c.aJ*c.lanes<=18:=Nat.mul_le_mul h6 hlanes.2;have m1:=aDr c.aJ c.lanes U
 have m2:=aDr (c.aJ*c.lanes) c.room U
 rw[hrg] at r1;refine⟨H4,pt y.nb,?_,updI F3 .node (InB (jA p.bag ev wv nv y' c 0)),y',by rw[enb],hnode⟩
 unfold Ov;simp only[gsR,n13,lpv,a1,st1,n13',l2,We,m1,l3,m2,r1,st2]
end
theorem aRi (a b d e f g h i:Int)(ev wv nv:Value)(me:Int)(q:Nat):bld prog 120 [(1,.agg ⟨[.I a,ev,.I b,.I d,.I e,.I f,.I g,.I h,wv,.int .u16 i,nv]⟩),(2,.I me),(4,pt q)]=
  some (.agg ⟨[.pointer none]++[.I a,ev,.I b,.I d,.I e,.I f,.I g,.I h,wv,.int .u16 i,nv]++[.I me,.N,pt q,.pointer none,.I 0]⟩):=by kernel_rfl
section
variable {Hs H : aF} {F : Part → Nat → Prop} {ev wv nv : Value} {y : Lay} {c : Cfg} {p : PlanD} {m : Nat}
theorem aRk {pl:Nat}{bv:Value}(hok:c.ok)(hc:c=cT p c.me)(hop: ∃n,OkP p n)(hPV:PV Hs p ev wv nv)(hpl:Hs[pl]? =some (plB p ev wv nv))(e2:p.lanes=(c.lanes:Int))(e3:p.room=(c.room:Int))(e9:p.start=(c.start:Int))(hwo:wOk p.weights=true)
  {Hb:aF}(hbv:Iw Hb bv (bes p.edges c.me))(hbl:(bes p.edges c.me).length=c.by'.length)(hbg: ∀i,i<c.by'.length->(bes p.edges c.me)[i]? =some ((c.by'.getD i 0:Nat):Int))(hm:500<m)(hm2:m<=72057594037927936){nb:Nat}:
  ∀(q i l:Nat)(H:aF)(F:Part->Nat->Prop)(y:Lay)(pv:Value),c.by'.length-i=q->i<=c.by'.length->q<l->y.nb=nb->BN Hs H F p.bag ev wv nv y c (i+1) (i+1) 0 0 pv->FE F c (i+1) (i+1) 0 0->Krow Hb H-> ∀(x4 x8 qK Aw:Value),
  ∃H2 r,aL l (aO prog (lvl prog pkN m) (aL m) Ot) (Ox (lvl prog pkN m) (aL m)) (aG 2 (some (pt pl)::aG 1 (x4::some (pt nb)::aG 2 (x8::aG 38 (bv::some (.I c.by'.length)::some (.I (i:Nat))::aG 9 (qK::Aw::aG 63 [])))))) H=some (r,H2)/\Rz Hs p ev wv nv c H2 r:=by
 intro q;induction q with
 |zero=>
  intro i l H F y pv hq hi hl hnb h hfe hkr;intros;obtain⟨l,rfl⟩: ∃l',l=l'+1:=⟨l-1,by omega⟩
  have hie:i+1=c.aJ:=by unfold Cfg.aJ;omega
  have c1:decide ((i:Int)<(c.by'.length:Int))=false:=by rw[decide_eq_false_iff_not];omega
  rw[aL,aAX];simp only[gsR,c1];rw[aM9];rw[hie] at h hfe;rw[<-hnb];exact aRh hok hc hop hPV hpl e2 e3 U h hfe ..
 |succ q ih=>
  intro i l H F y pv hq hi hl hnb h hfe hkr;intros;obtain⟨l,rfl⟩: ∃l',l=l'+1:=⟨l-1,by omega⟩
  have h5:=hok.by';have hil:i<c.by'.length:=U
  have c1:decide ((i:Int)<(c.by'.length:Int))=true:=by rw[decide_eq_true_eq];omega
  have hpH: ∀G:aF,Ext Hs G->G[pl]? =some (plB p ev wv nv):=λG hG=>by rw[hG.2 _ (bU hpl) id,hpl]
  obtain⟨b,o,a1,_,a3⟩:=(hkr.iw hbv).rs.dM eP (hbg i hil) .i64;have a3:ld1 (.Q b o) H=some (.I (c.by'.getD i 0:Nat),H):=(a3 H rfl).2.1 0 _ rfl;have l8:ld1 (.Q pl 8) H=some (wv,H):=cQ (hpH H h.ext) 8 wv rfl;have hcw:c.weights=p.weights:=by have:=congrArg Cfg.weights hc;rw[this];rfl
  have hwl:=hok.wlen;rw[hcw] at hwl;have hlanes:=hok.lanes;obtain⟨H1,wh,ww,wl,wc,lc,wr,lr,w1,x1,w2,w3,w4,w5,w6⟩:=aDn (m:=m) (hPV.w.ext h.ext) hwo U hm2
  rw[<-hcw] at w2;have g1:=h.whl (λj hj b hb=>hfe (.whl j) (by show¬j<i+1;omega) b hb) w2 x1 w3 w4 w5 w6
  have fe1:=hfe.Ir (i:= .whl (i+1)) (G:=InB (iK wh ww wl wc lc wr lr c.weights ⟨c.weights,0⟩)) (n':=i+1) (nw':=i+1+1) (cs':=0) (cr':=0) (show i+1<i+1+1 by omega) (λj hj=>by
   cases j<;>simp only[qD] at hj⊢ <;>(try exact hj);omega)
  obtain⟨y1,hy1⟩: ∃y1:Lay,y1={y with wh:=up1 y.wh (i+1) wh,ww:=up1 y.ww (i+1) ww,wl:=up1 y.wl (i+1) wl,wc:=up1 y.wc (i+1) wc,lc:=up1 y.lc (i+1) lc,wr:=up1 y.wr (i+1) wr,lr:=up1 y.lr (i+1) lr}:=⟨_,rfl⟩;obtain⟨F1,hF1⟩:=aD (updI F (.whl (i+1)) (InB (iK wh ww wl wc lc wr lr c.weights ⟨c.weights,0⟩)));rw[<-hF1] at g1 fe1;have g1:BN Hs H1 F1 p.bag ev wv nv y1 c (i+1) (i+1+1) 0 0 pv:=by rw[hy1];exact g1
  have hwh:y1.wh (i+1)=wh:=by rw[hy1];exact lT _ _ _
  have eb:bld prog 145 [(0,.int .i64 (c.by'.getD i 0:Nat)),(2,pt wh)]=some (.agg #[.int .i64 (c.by'.getD i 0:Nat),.slice none 0 0,pt wh]):=rfl;obtain⟨H2,hH2⟩:=aD (H1++[Blk.cells [.int .i64 (c.by'.getD i 0:Nat),.slice none 0 0,pt wh] 145 .fix]);have x2:Ext H1 H2:=by rw[hH2];exact Fr.app _ _ _
  have st:stN 3 (.pointer (some ⟨H1.length,0,none⟩)) (.agg #[.int .i64 (c.by'.getD i 0:Nat),.slice none 0 0,pt wh]) (H1++[Blk.cells [Value.int .i64 0,.slice none 0 0,.pointer none] 145 .fix])=some (undef,H2):=by
   rw[qV (n:=3) (vs:=[.I (c.by'.getD i 0:Nat),.N,pt wh]) (cG H1 _) aC rfl rfl (aUi 3) rfl,gZ,hH2]
   rfl
  have g2:=g1.aDo x2;have hx2:XN Hs H2 F1 y1 (i+1) 0 H1.length (c.by'.getD i 0) (.N):=by
   have hs1:=g1.ext.1;refine⟨by rw[hwh,hH2];exact cG _ _,λhu=>by have:=g1.sep.oB _ hu;omega,hs1,Rw.fD,λb ⟨_,_,_,hh⟩=>(by cases hh)⟩
  have l2:ld1 (.Q pl 2) H2=some (.I c.lanes,H2):=by rw[cQ (hpH H2 g2.ext) 2 (.I p.lanes) rfl,e2]
  rw[aL,aAX];simp only[gsR,c1,a1,a3,l8,w1,eb,st,l2];refine aRe (nb:=nb) (Hb:=Hb) (p:=p) (pl:=pl) (i:=i) (w:=c.by'.getD i 0) (xb:=H1.length) hok hpl U e3 e9 U ?_ c.lanes 0 m H2 F1 y1 (.N) U U U (by rw[hy1];exact hnb) g2 fe1 hx2 (hkr.ext (x1.tr x2)) ..
  intro H3 F3 y3 lv hnb3 g3 fe3 hx3 hkr3;intros;obtain⟨y',pv',H4,H5,H6,q1,q2,q3,q4,q5,q6,q7⟩:=g3.aRf fe3 hx3 U U hlanes.1 (by unfold fZ;rw[if_neg U];rfl)
  have n13:ld1 (.Q nb 13) H3=some (pv,H3):=by rw[<-hnb3];exact bA g3.nb rfl
  have lx:ldN 3 (.Q H1.length 0) H3=some (.agg #[.I (c.by'.getD i 0:Nat),lv,pt (y3.wh (i+1))],H3):=mV hx3.blk (aUi 3);have e1:=mC i U
  rw[hnb3] at q4;unfold Ow;simp only[gsR,n13,lx,q2,q3,q4,aV,e1];exact ih (i+1) l H6 F3 y' pv' U U U (by rw[q1,hnb3]) q5 q6 (λb cs hb=>q7 b cs (hkr3 b cs hb)) ..
theorem aRj (hp:PV H p ev wv nv)(hck:kE p=0)(hst:0<=p.start/\p.start<65536)(hm:17592186045500<m)(hm2:m<=72057594037927936)(me:Nat)(hme:(me:Int)<p.nodes):
  ∃H' F y,lvl prog pkN m (.func 47) [plV p ev wv nv,.I me] H=some (pt y.nb,H')/\NodeAt H H' F y p ev wv nv (cT p me) 0 (NS.kZ (cT p me)):=by
 have hcheck:dT p=true:=by
  unfold kE at hck
  split at hck
  ·assumption
  ·omega
 obtain⟨hok,k1,k2,k3,k4,k5,k6,k7,hbg,hwo⟩:=aRb hcheck hme hst;obtain⟨c,hc⟩:=aD (cT p me);rw[<-hc] at hok k1 k2 k3 k4 k5 k6 k7 hbg⊢;have hcme:c.me=me:=by rw[hc];rfl
 have hc':c=cT p c.me:=by rw[hcme];exact hc
 have hlanes:=hok.lanes;have hqueue:=hok.queue;have hbl:(bes p.edges me).length=c.by'.length:=by rw[hc];show _=((bes p.edges me).map Int.toNat).length;simp
 have hop:=nG hcheck;have hel:p.edges.length<=15:=by
  obtain⟨n,hn⟩:=hop;exact hn.e15
 obtain⟨H1,hH1⟩:=aD (H++[plB p ev wv nv]);have x1:Ext H H1:=by rw[hH1];exact Fr.app _ _ _
 have b1:H1[H.length]? =some (plB p ev wv nv):=by rw[hH1];exact cV _ _
 have p1:=hp.ext x1;have l11:=fE b1;obtain⟨H2,g1,x2⟩:=aAJ p1 (m:=m-1) U U
 rw[hck] at g1;have eA:=x1.tr x2;have b2:H2[H.length]? =some (plB p ev wv nv):=by rw[x2.2 _ (bU b1) id,b1]
 have l0:ld1 (.Q H.length 0) H2=some (.I c.nodes,H2):=by rw[cQ b2 0 (.I p.nodes) rfl,k1]
 have l2:ld1 (.Q H.length 2) H2=some (.I c.lanes,H2):=by rw[cQ b2 2 (.I p.lanes) rfl,k2]
 have l4:ld1 (.Q H.length 4) H2=some (.I c.queue,H2):=by rw[cQ b2 4 (.I p.queue) rfl,k4]
 have l11':=fE b2;have hmn:=hok.me;rw[hcme] at hmn;have c1:decide ((me:Int)<0)=false:=by rw[decide_eq_false_iff_not];omega
 have c2:decide ((c.nodes:Int)<=(me:Int))=false:=by rw[decide_eq_false_iff_not];omega
 obtain⟨r,H3,G3,r1,r2,x3,r3⟩:=Has.aCx (A:=λ_=>True) (H:=H2) qT (n:=m-1) (B:=λr D'=> ∃a,r=pt a/\HostAt D' a [] [] c.lanes c.queue) (λD _ _=>by
  obtain⟨a,D',q1,q2,_,_⟩:=aOg (D:=D) (m:=m-1) U c.lanes c.queue hlanes hqueue
  exact⟨_,D',q1,a,rfl,q2⟩)
 obtain⟨hb,hrb,_⟩:=r2.at_;have r2':Has (λD=>HostAt D hb [] [] c.lanes c.queue) G3 H3:=Has.vO r2 λD ⟨a,ha,hD⟩=>by
  rw[hrb] at ha;injection ha with ha;injection ha with ha;injection ha with ha;rw[ha];exact hD
 rw[hrb] at r1;have b3:H3[H.length]? =some (plB p ev wv nv):=by rw[x3.2 _ (bU b2) id,b2]
 have l11c:=fE b3;have eplc:plC p ev wv nv=[.I c.nodes,ev,.I c.lanes,.I c.room,.I c.queue,.I c.rounds,.I c.every,.I p.bag,wv,.int .u16 c.start,nv]:=by
  unfold plC;rw[k1,k2,k3,k4,k5,k6,k7]
 have ebn:bld prog 120 [(1,plV p ev wv nv),(2,.I me),(4,pt hb)]=some (.agg ⟨[.pointer none]++plC p ev wv nv++[.I me,.N,pt hb,.pointer none,.I 0]⟩):=by
  exact aRi ..
 obtain⟨y0,hy0⟩: ∃y0:Lay,y0=⟨H3.length,0,0,[],λ_=>0,λ_=>0,λ_=>[],λ_=>0,λ_=>0,λ_=>0,λ_=>0,λ_=>0,λ_=>[],λ_=>[],λ_ _=>0,λ_ _=>0,0,0,0,hb,0⟩:=⟨_,rfl⟩
 have y0n:y0.nb=H3.length:=by rw[hy0]
 have y0h:y0.hb=hb:=by rw[hy0]
 obtain⟨H4,hH4⟩:=aD (H3++[qC p.bag ev wv nv y0 c (.slice none 0 0)]);have e4:H3++[Blk.cells (Value.cells (.agg ⟨[.pointer none]++plC p ev wv nv++[.int .i64 me,.slice none 0 0,pt hb,.pointer none,.int .i64 0]⟩)).toList 120 .fix]=H4:=by
  rw[hH4,eplc];unfold qC;rw[hcme,y0h];rfl
 have x4:Ext H3 H4:=by rw[hH4];exact Fr.app _ _ _
 have bn4:H4[y0.nb]? =some (qC p.bag ev wv nv y0 c (.N)):=by rw[y0n,hH4];exact cG _ _
 obtain⟨F0,hF0⟩: ∃F0:Part->Nat->Prop,F0=updI (λ_ _=>False) .host G3:=⟨_,rfl⟩
 have sep0:Sep (jB y0 c 0 0 0 0) F0 H4:=by
  have s0:Sep (λ_:Part=>Blks []) (λ_ _=>False) H2:=⟨λi=>⟨λq hq=>(by cases hq),λb hb=>hb.elim⟩,λi j b hb=>hb.elim⟩
  have s1:=s0.If .host (λ_=>Blks.dx _) (λb hb=>hb) r2' x3 r3
  rw[<-hF0] at s1;have s2:=s1.ext (λj=>by
   unfold updI;split
   ·exact λD D' h he=>h.ext he
   ·exact Blks.dx _) x4
  refine s2.wN λj D hD=> ?_
  cases j with
  |host=>
   rw[eY] at hD;show HostAt D y0.hb [] [] c.lanes c.queue
   rw[y0h];exact hD
  |whl i=>
   rw[cM _ _ (λhh=>by cases hh)] at hD
   simp only[jB];rw[if_neg U]
   exact hD
  |snd i k=>
   rw[cM _ _ (λhh=>by cases hh)] at hD
   simp only[jB];rw[if_neg (by unfold DnB;omega)]
   exact hD
  |rcv i k=>
   rw[cM _ _ (λhh=>by cases hh)] at hD
   simp only[jB];rw[if_neg (by unfold DnB;omega)]
   exact hD
  |_=>
   rw[cM _ _ (λhh=>by cases hh)] at hD
   exact hD
 have unF0: ∀b,Un F0 b->G3 b:=λb hb=>by
  rw[hF0] at hb;rcases sV hb with⟨_,hb⟩|hb
  ·exact hb.elim
  ·exact hb
 have hg3l: ∀b,G3 b->b<H3.length:=λb hb=>r2'.lt b hb
 have bnN:BN H2 H4 F0 p.bag ev wv nv y0 c 0 0 0 0 (.N):=
  ⟨x3.tr x4,sep0,λb hb=>r3 b (unF0 b hb),bn4,λhu=>by have:=hg3l _ (unF0 _ hu);omega,by rw[y0n];exact x3.1,Rw.fD,λb ⟨_,_,_,hh⟩=>(by cases hh),λi a b=>by omega,λi j a b=>by omega,λi hi=>by omega⟩
 have fe0:FE F0 c 0 0 0 0:=λj hj b hb=>by
  rw[hF0] at hb;cases j with
  |host=>exact hj trivial
  |_=>
   rw[cM _ _ (λhh=>by cases hh)] at hb
   exact hb
 have hpH: ∀G:aF,Ext H2 G->G[H.length]? =some (plB p ev wv nv):=λG hG=>by rw[hG.2 _ (bU b2) id,b2]
 have n13:ld1 (.Q H3.length 13) H4=some (.N,H4):=by rw[<-y0n];exact bA bn4 rfl
 have l8:ld1 (.Q H.length 8) H4=some (wv,H4):=cQ (hpH H4 bnN.ext) 8 wv rfl;have hcw:c.weights=p.weights:=by rw[hc];rfl
 have hwl:=hok.wlen;rw[hcw] at hwl;obtain⟨H5,wh,ww,wl,wc,lc,wr,lr,w1,x5,w2,w3,w4,w5,w6⟩:=aDn (m:=m-1) (hp.w.ext (eA.tr bnN.ext)) hwo U U
 rw[<-hcw] at w2;have g5:=bnN.whl (λj hj b hb=>fe0 (.whl j) (by show¬j<0;omega) b hb) w2 x5 w3 w4 w5 w6
 have fe5:=fe0.Ir (i:= .whl 0) (G:=InB (iK wh ww wl wc lc wr lr c.weights ⟨c.weights,0⟩)) (n':=0) (nw':=1) (cs':=0) (cr':=0) (show 0<1 by omega) (λj hj=>by
  cases j<;>simp only[qD] at hj⊢ <;>(try exact hj);omega)
 obtain⟨y1,hy1⟩: ∃y1:Lay,y1={y0 with wh:=up1 y0.wh 0 wh,ww:=up1 y0.ww 0 ww,wl:=up1 y0.wl 0 wl,wc:=up1 y0.wc 0 wc,lc:=up1 y0.lc 0 lc,wr:=up1 y0.wr 0 wr,lr:=up1 y0.lr 0 lr}:=⟨_,rfl⟩;obtain⟨F1,hF1⟩:=aD (updI F0 (.whl 0) (InB (iK wh ww wl wc lc wr lr c.weights ⟨c.weights,0⟩)));rw[<-hF1] at g5 fe5;have g5:BN H2 H5 F1 p.bag ev wv nv y1 c 0 1 0 0 (.N):=by rw[hy1];exact g5
 have y1n:y1.nb=H3.length:=by rw[hy1];exact y0n
 have n13':ld1 (.Q H3.length 13) H5=some (.N,H5):=by rw[<-y1n];exact bA g5.nb rfl
 have hpc0:dK y1 c 0=[.I me,.N,pt wh]:=by
  unfold dK fZ jX;rw[if_pos rfl,if_pos rfl,hcme,hy1];simp only;rw[lT]
 have eb:bld prog 145 [(0,.int .i64 me),(2,pt wh)]=some (.agg #[.int .i64 me,.slice none 0 0,pt wh]):=rfl;obtain⟨H6,hH6⟩:=aD (H5++[Blk.cells [.int .i64 me,.slice none 0 0,pt wh] 145 .row]);have es:b9 145 3 1 [.int .i64 0,.slice none 0 0,.pointer none] [(0,.agg #[.int .i64 me,.slice none 0 0,pt wh])] H5=some (.slice (some ⟨H5.length,0,none⟩) 1 1,H6):=by rw[hH6];rfl
 have hw1:Rr (dK y1 c) 145 H6 (.slice (some ⟨H5.length,0,none⟩) 1 1) [0]:=by
  have:=wK (el:=dK y1 c) (e:=145) 0 H5;rw[hpc0] at this;rw[hH6];exact this
 have hrw0:Rw (dK y1 c) 145 3 H6 (.N) []:=Rw.fD;obtain⟨pv,H7,k1',k2',k3',k4',k5'⟩:=hrw0.wL (C3 y1 c) (aDp y1 c) aC (by':=40) hw1.rs aC
 have hnh: ∀b,¬aT (.N) b:=λb ⟨_,_,_,hh⟩=>by cases hh
 have h6l:H6.length=H5.length+1:=by rw[hH6];simp
 have nbl:=bU g5.nb;have bn7:H7[y1.nb]? =some (qC p.bag ev wv nv y1 c (.N)):=by rw[k4' _ U (hnh _),hH6,aUg nbl,g5.nb]
 have sh:=xV k2';obtain⟨H8,hH8⟩:=aD (H7.set y1.nb (qC p.bag ev wv nv y1 c pv));have st:stN 1 (.Q H3.length 13) pv H7=some (undef,H8):=by rw[<-y1n,hH8];exact nI bn7 aC (by simp) sh.1 sh.2
 have hfr:Fr (λb=>b=y1.nb) H5 H8:=⟨by rw[hH8];simp;omega,λb hb hn=>by
  rw[hH8,aUe (λhh=>hn hh.symm),k4' b U (hnh _),hH6,aUg hb]⟩
 obtain⟨x8,s8⟩:=g5.Rx (pv':=pv) (n':=0) hfr λb hb=>by rw[hb];exact⟨g5.nbF,g5.nb0⟩
 have hpvn: ¬aT pv y1.nb:=λhh=>by
  rcases k5' _ hh with hh|hh
  ·exact hnh _ hh
  ·omega
 have hsl:=g5.ext.1;have g8:BN H2 H8 F1 p.bag ev wv nv y1 c 1 1 0 0 pv:=by
  refine⟨x8,s8.wN λj D hD=> ?_,g5.new,by rw[hH8];exact dN bn7,g5.nbF,g5.nb0,?_,λb hb=> ?_,λi a b=>by omega,λi j a b=>by omega,g5.ww⟩
  ·cases j with
   |snd i k=>
    simp only[jB] at hD⊢;rw[if_neg (by unfold DnB;omega)] at hD⊢
    exact hD
   |rcv i k=>
    simp only[jB] at hD⊢;rw[if_neg (by unfold DnB;omega)] at hD⊢
    exact hD
   |_=>exact hD
  ·refine(show Rw (dK y1 c) 145 3 H7 pv (List.range 1) from k2').cZ λb hb=> ?_
   rw[hH8];exact aUe λhh=>hpvn (by rw[hh];exact hb)
  ·rcases k5' b hb with hb|hb
   ·exact absurd hb (hnh b)
   ·exact⟨by omega,λhu=>by have:=g5.sep.oB b hu;omega⟩
 have fe8:FE F1 c 1 1 0 0:=λj hj=>fe5 j λhd=>hj (by
  cases j<;>simp only[qD] at hd⊢ <;>(try exact hd)<;>(unfold DnB at hd ⊢; omega))
 have b8:=hpH H8 g8.ext;have l11d:=fE b8;obtain⟨H9,bv,q1,x9,q3,q4⟩:=B2 (hp.ext (eA.tr g8.ext)) (m:=m-1) U U (me:Int)
 have g9:=g8.aDo x9;have lbv:=q3.nY;rw[hbl] at lbv;have main: ∃H' r,lvl prog pkN m (.func 47) [plV p ev wv nv,.I me] H=some (r,H')/\Rz H2 p ev wv nv c H' r:=by
  refine dL (aQ rfl) U ?_
  rw[aNb];have e1:H++[Blk.cells (Value.cells (plV p ev wv nv)).toList 40 .fix]=H1:=by rw[hH1];rfl
  have c3:((0:Int)!=0)=false:=rfl;have pchk:=λG=>(hp.chk G)
  have nchk: ∀G:aF,chk (some (Value.N,G)) (.N)=true:=λ_=>by simp[chk,veq]
  simp only[gsR,e1,l11,g1,c3,c1,l0,c2,l11',l2,l4,r1,l11c,pchk,ebn,e4,n13,l8,w1,n13',nchk,eb,es,k1',st,l11d,q1,lbv];have y1n':y1.nb=H3.length:=y1n;exact aRk (pl:=H.length) (Hs:=H2) (Hb:=H9) hok hc' hop (hp.ext eA) b2 k2 k3 k7 hwo (by rw[hcme];exact q3) (by rw[hcme];exact hbl) (λi hi=>by rw[hcme];exact hbg i (by rw[hbl];exact hi)) U U c.by'.length 0 (m-1) H9 F1 y1 pv U U (by have:=hok.by';omega) y1n' g9 fe8 (λb cs hb=>hb) ..
 obtain⟨H',r,z1,F,y,rfl,z2⟩:=main;refine⟨H',F,y,z1,{z2 with ext:=eA.tr z2.ext,old:=λb hb=>aUt eA.1 (z2.old b hb),plan:=hp}⟩
end
end Go.Proofs.YtciiopkbmjppfaaGreatDoor
namespace Go.Proofs.YtciiopkbmjppfaaGreatDoor
open Go.Proofs.Tryz
open Go.Abs Go.Abs.M
section
variable {H : aF} {m : Nat}
theorem R3 (c:List Nat):fA (ofT c)=true/\1<=(ofT c).length:=by
 unfold ofT;split
 ·exact⟨by decide+kernel,by simp⟩
 ·rename_i h
  have hl:(ofL c (min c.length 5)).length=min c.length 5:=by simp[ofL]
  refine⟨?_,by rw[hl];omega⟩
  unfold fA;rw[hl,aUl,aUS];refine⟨λi hi=> ?_,aUX U⟩
  have hi':=aUR.mp hi;have e:(ofL c (min c.length 5)).getD i 0=((c.getD i 0%(i+1):Nat):Int):=by
   unfold ofL;rw[aUh,aUq,aUV hi'];rfl
  have hm:c.getD i 0%(i+1)<i+1:=Nat.mod_lt _ U
  rw[e,aUl]
  exact⟨aUX U,aUX U⟩
def oJ (c:List Nat)(room more start:Nat):PlanD:=pW (mkP 0 room more start []) (ofT c)
theorem R4 (c:List Nat)(room more start:Nat):kE (oJ c room more start)=0:=by
 obtain⟨hr,ht1⟩:=R3 c
 exact(aMj (Z3 0 room more start []) (aAO hr ht1)).1
theorem R0 {D H D' H':aF}(hs:Sub D H)(hf:Fs D H D' H')(he:Ext D D'):Ext H H':=by
 refine⟨by have:=hf.sub.1;have:=hs.1;have:=he.1;omega,λb hb _=> ?_⟩
 have hbD:b<D.length:=by rw[hs.1];exact hb
 by_cases hd:D[b]? =some .dead
 ·exact hf.keep b hd
 ·have hx:D[b]? =some D[b]:=aUf hbD
  have hn:D[b]≠ .dead:=λh=>hd (by rw[hx,h])
  rw[hs.2 b _ hx hn,hf.sub.2 b _ ((he.2 b hbD id).trans hx) hn]
theorem It {α:Type}{el:α->List Value}{e:TypeId}{D H:aF}{v:Value}{xs:List α}(h:Rs el e D v xs)(hk: ∀(b:Nat)(x:Blk),D[b]? =some x->x≠ .dead->H[b]? =some x):Rs el e H v xs:=by
 rcases h with h|⟨b,o,cap,h1,h2,h3⟩
 ·exact .inl h
 ·refine .inr ⟨b,o,cap,h1,h2,λhne=> ?_⟩
  obtain⟨e',k,pre,post,q1,q2,q3⟩:=h3 hne
  exact⟨e',k,pre,post,q1,q2,hk b _ q3 (λh=>by cases h)⟩
theorem aDt {D H:aF}{p:PlanD}{ev wv nv:Value}(h:PV D p ev wv nv)(hk: ∀(b:Nat)(x:Blk),D[b]? =some x->x≠ .dead->H[b]? =some x):PV H p ev wv nv:=by
 obtain⟨h1,h2,⟨us,h3,h4,h5⟩,h6,h7,h8⟩:=h
 exact⟨It h1 hk,It h2 hk,⟨us,It h3 hk,h4,λi u xs hu hx=>It (h5 i u xs hu hx) hk⟩,h6,h7,h8⟩
theorem aDs {cv:Value}{c:List Nat}(hc:Us H cv c)(hu8: ∀x∈c,x<256)(hl:c.length<=72057594037927936)(room more start:Nat)(h2:room<256)(h3:more<256)(h4:start<65536)(hm:700<m)(hm2:m<=72057594037927936):
  ∃H' ev wv nv,lvl prog aY m (.func 21) [cv,.int .u8 room,.int .u8 more,.int .u16 start] H=some (plV (oJ c room more start) ev wv nv,H')/\Ext H H'/\PV H' (oJ c room more start) ev wv nv:=by
 obtain⟨Ha,hHa⟩:=aD (H++[plZ]);obtain⟨Da,hDa⟩:=aD (H++[Blk.dead]);have xa:Ext H Ha:=by rw[hHa];exact Fr.app _ _ _
 have xd:Ext H Da:=by rw[hDa];exact Fr.app _ _ _
 have ba:Ha[H.length]? =some plZ:=by rw[hHa];exact cV _ _
 have bd:Da[H.length]? =some .dead:=by rw[hDa];exact cV _ _
 have sa:Sub Da Ha:=by
  rw[hHa,hDa];refine⟨by simp,λb x hb hx=> ?_⟩
  by_cases hlt:b<H.length
  ·rw[aUg hlt] at hb⊢
   exact hb
  ·have h9:=bU hb
   simp at h9;have:b=H.length:=U
   subst this;rw[cV] at hb;cases hb;exact absurd rfl hx
 obtain⟨D2,u,d2,hmd⟩:=aKA (H:=Da) (m:=m-1) 0 room more start U h2 h3 h4 (aKP Da) (by simp) (by simp) U
 obtain⟨H2,g2,f2⟩:=Bl _ qT _ _ _ Da Ha sa _ _ d2;obtain⟨ev,wv,nv,rfl,y2,hp⟩:=hmd.pv;have x2:=R0 sa f2 y2;have hok:=Z3 0 room more start [];have hwl:(mkP 0 room more start []).weights.length<=1000:=by simp[mkP];omega
 obtain⟨p,hpp⟩:=aD (mkP 0 room more start []);have hq0:oJ c room more start=pW p (ofT c):=by rw[hpp];rfl
 rw[hq0];rw[<-hpp] at hp g2 hok hwl;have z0:((0:Nat):Int)=0:=rfl;simp only[z0] at g2;obtain⟨D1,tv,d1,y1,qt,_⟩:=aL3 (hc.ext (xd.tr y2)) hu8 hl (m:=m-1) U
 obtain⟨H1,g1,f1⟩:=Bl _ qT _ _ _ D2 H2 f2.sub _ _ d1;have x1:=R0 f2.sub f1 y1;obtain⟨hr,ht1⟩:=R3 c;obtain⟨D3,_,d3,ev3,wv3,nv3,rfl,y3,hp3⟩:=aMi (hp.ext y1) hwl qt.rs hr ht1 (m:=m-1) U U
 obtain⟨H3,g3,f3⟩:=Bl _ qT _ _ _ D1 H1 f1.sub _ _ d3;have x3:=R0 f1.sub f3 y3;have bD:D3[H.length]? =some .dead:=cP bd ((y2.tr y1).tr y3);obtain⟨q,hq⟩:=aD (pW p (ofT c));rw[<-hq] at hp3 g3⊢;have hp3H:PV H3 q ev3 wv3 nv3:=aDt hp3 f3.sub.2;have cp:=Gb hp3H H3;obtain⟨H4,hH4⟩:=aD (H3++[plB q ev3 wv3 nv3]);rw[<-hH4] at cp;have x4:Ext H3 H4:=by rw[hH4];exact Fr.app _ _ _
 have b4:H4[H3.length]? =some (plB q ev3 wv3 nv3):=by rw[hH4];exact cV _ _
 have l4:=fE b4;have xx:=((x2.tr x1).tr x3).tr x4;have bz:H4[H.length]? =some plZ:=cP ba xx;have e1:(plV q ev3 wv3 nv3).cells.toList=plC q ev3 wv3 nv3:=rfl;have st:stN 11 (.Q H.length 0) (plV q ev3 wv3 nv3) H4=some (undef,H4.set H.length (plB q ev3 wv3 nv3)):=by
  rw[fV 11 _ _ _ rfl,bz,e1];unfold plZ;rw[iW _ _ _ _ _ _ aC (by simp[plC]) hp3H.B7]
  simp[cU,plC,plB]
 have hlt:H.length<H4.length:=bU bz;have x5:Ext H (H4.set H.length (plB q ev3 wv3 nv3)):=gM (xa.tr xx) (aUi _);have l5:ldN 11 (.Q H.length 0) (H4.set H.length (plB q ev3 wv3 nv3))=some (plV q ev3 wv3 nv3,H4.set H.length (plB q ev3 wv3 nv3)):=fE (by rw[aUj U])
 refine⟨H4.set H.length (plB q ev3 wv3 nv3),ev3,wv3,nv3,aS (aQ rfl) U ?_,x5,?_⟩
 ·rw[aKW]
  simp only[gsR,wW,<-hHa,g2,g1,g3,cp,l4,st,l5]
  done
 ·refine aDt hp3 λb x hb hx=> ?_
  have hne:b≠H.length:=λh=>by rw[h,bD] at hb;cases hb;exact hx rfl
  rw[aUe (Ne.symm hne),x4.2 b (bU (f3.sub.2 b x hb hx)) id];exact f3.sub.2 b x hb hx
end
end Go.Proofs.YtciiopkbmjppfaaGreatDoor
namespace Go.Proofs.YtciiopkbmjppfaaGreatDoor
open Go.Proofs.Tryz
open Go.Abs Go.Abs.M
open Classical
theorem sW (t:TypeId)(a:Addr)(h:gV prog t (.pointer none)=true):bin prog .eql t (.pointer (some a)) (.pointer none)=some (.bool false)/\bin prog .eql t (.pointer none) (.pointer none)=some (.bool true):=by
 have h2:gV prog t (.pointer (some a))=true:=by
  rw[<-h];unfold gV;cases prog.underlying t with
  |none=>rfl
  |some d=>cases d<;>rfl
 constructor<;>simp[bin,cL,jZ,h,h2,eqV]
section
variable {H00 H0 H H' : aF} {F : Part → Nat → Prop} {y : Lay} {p : PlanD} {ev wv nv : Value} {c : Cfg} {t : Nat} {s : NS} {N N' : Nat → Prop}
theorem NodeAt.aRl (h:NodeAt H0 H F y p ev wv nv c t s)(he:Ext H00 H0)(hp:PV H00 p ev wv nv):NodeAt H00 H F y p ev wv nv c t s:=
 {h with ext:=he.tr h.ext,old:=λb hb=>aUt he.1 (h.old b hb),plan:=hp}
theorem NodeAt.aDu (h:NodeAt H0 H F y p ev wv nv c t s)(he:Ext H0 H')(hm:Mv N N' H H')(hd: ∀b,Un F b-> ¬N b):NodeAt H0 H' F y p ev wv nv c t s/\ ∀b,Un F b-> ¬N' b:=
 ⟨{h with ext:=he,sep:=h.sep.wO (tU _ _ _ _ _ _ _) hm hd},λb hb hn=>(hm.own b hn).elim (hd b hb) λhl=>by have:=h.sep.oB b hb;omega⟩
end
def ptC (a:Option Addr):List Value:=[.pointer a]
theorem Iu (a:Option Addr):(ptC a).length=1:=rfl
theorem aRn (a:Option Addr):cA (ptC a)=true:=rfl
theorem aRm (t:TypeId)(a:Option Addr)(H:aF):b9 t 1 1 [.pointer none] [(0,.pointer a)] H=some (.slice (some ⟨H.length,0,none⟩) 1 1,H++[.cells (ptC a) t .row]):=rfl
theorem m9 {α:Type}{el:α->List Value}{e:TypeId}{sz:Nat}{H H':aF}{v:Value}{xs:List α}(h:Rw el e sz H v xs)(he:Ext H H'):Rw el e sz H' v xs:=h.cZ λb hb=>he.2 b (h.dO hb) id
theorem aRo {α β:Type}{el:α->List Value}{el':β->List Value}{e e':TypeId}{sz sz':Nat}{H H':aF}{u v:Value}{xs:List α}{ys:List β}(h:Rw el e sz H v xs)(hu:Rw el' e' sz' H u ys)(hne:e≠e')(hf:Fr (aT u) H H'):Rw el e sz H' v xs:=h.cZ λb hb=>hf.2 b (h.dO hb) λhh=>by
 obtain⟨c1,h1⟩:=h.blk hb;obtain⟨c2,h2⟩:=hu.blk hh;rw[h1] at h2;cases h2;exact hne rfl
end Go.Proofs.YtciiopkbmjppfaaGreatDoor
namespace Go.Proofs.YtciiopkbmjppfaaGreatDoor
open Go.Proofs.Tryz
open Go.Abs Go.Abs.M
def kx:Pkt:=⟨0,1,0,7⟩
theorem aRq {i:Int}(h:(Lit.int .u32 i).wf=true):0<=i/\i<4294967296:=by
 simp[Lit.wf,IntKind.min,IntKind.max,IntKind.signed,IntKind.bits] at h;omega
theorem R5 {i:Int}(h:(Lit.int .i64 i).wf=true): -9223372036854775808<=i/\i<9223372036854775808:=by
 simp[Lit.wf,IntKind.min,IntKind.max,IntKind.signed,IntKind.bits] at h;omega
theorem aRp {G:aF}{n:Nat}{cs:List Value}(h:Rp prog G n 31 cs): ∃x:Pkt,Value.agg ⟨cs⟩=x.cE/\x.ok:=by
 have hf:Ei prog 31=some [(3,0),(3,1),(3,2),(29,3)]:=by kernel_rfl
 have c0:prog.cellsOf 31=4:=by kernel_rfl
 have c1:prog.cellsOf 29=1:=by kernel_rfl
 obtain⟨m,hl,hh⟩:=h.Wx hf;rw[c0] at hl
 match cs,hl with
 |[x0,x1,x2,x3],_=>
  have f0:=hh (3,0) (by simp)
  have f1:=hh (3,1) (by simp)
  have f2:=hh (3,2) (by simp)
  have f3:=hh (29,3) (by simp)
  simp only[szI,c1,List.drop_zero,List.drop_succ_cons,List.take_succ_cons,List.take_zero] at f0 f1 f2 f3;obtain⟨a0,h0,w0⟩:=f0.rZ (k:= .i64) (by kernel_rfl)
  obtain⟨a1,h1,w1⟩:=f1.rZ (k:= .i64) (by kernel_rfl)
  obtain⟨a2,h2,w2⟩:=f2.rZ (k:= .i64) (by kernel_rfl)
  obtain⟨a3,h3,w3⟩:=f3.rZ (k:= .u32) (by kernel_rfl)
  cases h0;cases h1;cases h2;cases h3
  exact⟨⟨a0,a1,a2,a3⟩,rfl,R5 w0,R5 w1,R5 w2,aRq w3⟩
end Go.Proofs.YtciiopkbmjppfaaGreatDoor
noncomputable section
namespace Go.Proofs.YtciiopkbmjppfaaGreatDoor
open Go.Proofs.Tryz
open Go.Abs Go.Abs.M
variable (O:aH)(L:LV)(k:KV)(N P Q R S T U V W X Y Z a b c d e f g i j l m n o p q r s t u v w x y z A B C D E F G H I J zz zy zx zw zv zu zt zs zr zq zp zo zn zm zl zk zj zi zh zg zf ze zd zc zb za yz:Value)(rr:List Value)(h:aF)
theorem aRr:aR prog O L 13 [N]=aW 11 N λaa=>bC O 38 [aa] λab=>aM (aK [ab]):=by kernel_rfl
theorem aRs:aR prog O L 14 [N,P]=bB prog .lss 3 P (.I 0) λaa=>bG aa false (aX P) λab=>bG aa false (aX N) λac=>nX aa false 11 ac λad=>bG aa false (aP (cX ad)) λae=>bG aa false (aP (bin prog .geq 3 ab ae)) λaf=>bP aa (.bool true) af λag=>aN ag (aM (aK [(.pointer none)])) (aW 13 N λah=>aW 11 N λai=>bI 2 ai P λaj=>bM (ldN 2 aj) λak=>bM (jE (.str [true,true]) (.pointer none) false ah ak) λal=>aM (aK [al])):=by kernel_rfl
def R7:CC:=cc prog 246290617204782 22 [1,1,1,1,0,1,0,0]
def R9:KV:=(bV 2 (cJ prog O L (cc prog 246290617204782 22 [1,1,1,1,1]) (cS prog Tryz.f22)))
theorem aRu:R9 O L (.exit 2) (aG 1 (b::c::d::aG 1 (f::aG 16 (y::z::aG 21 (zo::zn::zm::aG 13 [])))))=aM (aK [f,(.int .u16 0)]):=by kernel_rfl
theorem aDw:aO prog O L R7 k (aG 1 (b::c::d::aG 1 (f::aG 16 (y::z::aG 21 (zo::zn::zm::aG 13 [])))))=bB prog .lss 3 zm zn λaa=>aN aa (bI 2 zo zm λab=>bM (ldN 2 ab) λac=>bM (aZ 83 [(.I 0),(.I 0)] .fix) λad=>bM (stN 2 ad ac) λae=>bQF 13 f λaf=>bL af λag=>bM (ldN 2 ad) λah=>bFL 7 b λai=>bC O 48 [ai] λaj=>gH λh42=>ifK (chk ((ldN 2 ad) h42) ah&&(chk ((ld1 af) h42) ag&&(true))) (bM (kS (.str [true,true]) ag ah aj) λak=>bB prog .add 3 zm (.I 1) λal=>k .normal (aG 1 (b::c::d::aG 1 (f::aG 16 (y::z::aG 21 (zo::zn::al::aG 13 []))))))) (k (.exit 2) (aG 1 (b::c::d::aG 1 (f::aG 16 (y::z::aG 21 (zo::zn::zm::aG 13 [])))))):=by kernel_rfl
def R6:CC:=cc prog 246290617204782 22 [1,1,1,0,1,0,0]
def R8:KV:=(bV 0 (cJ prog O L (cc prog 246290617204782 22 [1,1,1,1]) (cS prog Tryz.f22)))
theorem aRt:R8 O L (.exit 0) (aG 1 (b::c::d::aG 1 (f::aG 16 (y::z::aG 21 (zo::zn::zm::aG 13 [])))))=aW 11 f λaa=>bN aa λab=>L (aO prog O L R7) (R9 O L) (aG 1 (b::c::d::aG 1 (f::aG 16 (y::z::aG 21 (aa::ab::some (.I 0)::aG 13 []))))):=by kernel_rfl
theorem aDv:aO prog O L R6 k (aG 1 (b::c::d::aG 1 (f::aG 16 (y::z::aG 21 (zo::zn::zm::aG 13 [])))))=bB prog .lss 3 z y λaa=>aN aa (bQF 12 f λab=>bL ab λac=>bQF 0 f λad=>bM (ldN 11 ad) λae=>bC O 47 [ae,z] λaf=>gH λh20=>ifK (chk ((ld1 ab) h20) ac&&(true)) (bM (b9 72 1 1 [(.pointer none)] [(0,af)]) λag=>bM (app 72 1 8 ac ag) λah=>bQF 12 f λai=>bT ai ah λaj=>bB prog .add 3 z (.I 1) λak=>k .normal (aG 1 (b::c::d::aG 1 (f::aG 16 (y::ak::aG 21 (zo::zn::zm::aG 13 []))))))) (k (.exit 0) (aG 1 (b::c::d::aG 1 (f::aG 16 (y::z::aG 21 (zo::zn::zm::aG 13 [])))))):=by kernel_rfl
theorem aRv:aR prog O L 22 [N]=bM (aZ 40 (Value.cells N).toList .fix) λaa=>bM (ldN 11 aa) λab=>bC O 44 [ab] λac=>bB prog .neq 59 ac (.int .u16 0) λad=>aN ad (aM (aK [(.pointer none),ac])) (bM (ldN 11 aa) λae=>gH λh4=>bC O 45 [ae] λaf=>bM (ldN 11 aa) λag=>ifK (chk ((ldN 11 aa) h4) ag&&(true)) (bC O 46 [ag] λah=>bM lV λai=>bO (bld prog 87 [(0,af),(1,ah),(3,ai)]) λaj=>bM (aZ 87 (Value.cells aj).toList .fix) λak=>bFL 0 aa λal=>L (aO prog O L R6) (R8 O L) (aG 1 (aa::some (.pointer none)::some (.int .u16 0)::aG 1 (ak::aG 16 (al::some (.I 0)::aG 21 (some aE::some aE::some aE::aG 13 []))))))):=by kernel_rfl
theorem aDx:aR prog O L 23 [N,P]=bM (aZ 31 (Value.cells P).toList .fix) λaa=>bFL 0 aa λab=>bC O 31 [N,ab] λac=>bB prog .neq 72 ac (.pointer none) λad=>aN ad (bM (ldN 4 aa) λae=>bC O 49 [ac,ae] λaf=>aM (aK [af])) (aM (aK [(.int .u16 1)])):=by kernel_rfl
theorem aRG:aR prog O L 37 [N]=bM (aZ 40 [(.I 0),(.N),(.I 0),(.I 0),(.I 0),(.I 0),(.I 0),(.I 0),(.N),(.int .u16 0),(.N)] .fix) λaa=>bQF 0 N λab=>bM (ldN 11 ab) λac=>bC O 45 [ac] λad=>bM (stN 11 aa ad) λae=>bR (ldN 11 aa) λw6=>aM (aK [w6]):=by kernel_rfl
def Sb:CC:=cc prog 394757 24 [1,1,0,0,1,1,0,0,1,1,0,0]
def Se:KV:=(bV 2 (bV 1 (cJ prog O L (cc prog 394757 24 [1,1,0,0,1,1,1]) (iO 394757 k))))
def Sc (O:aH)(L:LV) (k:KV) (a c l m t u:Value):MV:=bB prog .add 3 m (.I 1) λaa=>k .normal (a::aG 1 (c::aG 6 (l::aa::aG 6 (t::u::aG 6 []))))
theorem aRx:Se O L k (.exit 2) (a::aG 1 (c::aG 6 (l::m::aG 6 (t::u::aG 6 []))))=Sc O L k a c l m t u:=by kernel_rfl
theorem aDz:aO prog O L Sb k (a::aG 1 (c::aG 6 (l::m::aG 6 (t::u::aG 6 []))))=bB prog .lss 3 u t λaa=>aN aa (bC O 35 [a,c,(.I 0)] λab=>bB prog .add 3 u (.I 1) λac=>k .normal (a::aG 1 (c::aG 6 (l::m::aG 6 (t::ac::aG 6 []))))) (k (.exit 2) (a::aG 1 (c::aG 6 (l::m::aG 6 (t::u::aG 6 []))))):=by kernel_rfl
def Sa:CC:=cc prog 394757 24 [1,1,0,0]
def Sd (O:aH)(L:LV):KV:=(bV 0 (cS prog Tryz.f24))
theorem aRw:Sd O L (.exit 0) (a::aG 1 (c::aG 6 (l::m::aG 6 (t::u::aG 6 []))))=aM (aK []):=by kernel_rfl
theorem aDy:aO prog O L Sa k (a::aG 1 (c::aG 6 (l::m::aG 6 (t::u::aG 6 []))))=bB prog .lss 3 m l λaa=>aN aa (bC O 14 [a,m] λab=>bC O 15 [ab] λac=>bN ac λad=>L (aO prog O L Sb) (Se O L k) (a::aG 1 (m::aG 6 (l::m::aG 6 (ad::some (.I 0)::aG 6 []))))) (k (.exit 0) (a::aG 1 (c::aG 6 (l::m::aG 6 (t::u::aG 6 []))))):=by kernel_rfl
theorem aRy:aR prog O L 24 [N]=bC O 27 [N] λaa=>aW 11 N λab=>bN ab λac=>L (aO prog O L Sa) (Sd O L) (N::aG 1 (some aE::aG 6 (ac::some (.I 0)::aG 6 (some aE::some aE::aG 6 [])))):=by kernel_rfl
theorem aDA:aR prog O L 25 [N,P]=bC O 31 [N,P] λaa=>bB prog .neq 72 aa (.pointer none) λab=>aN ab (bC O 32 [aa] λac=>bC O 50 [ac] λad=>aM (aK [ad])) (aM (aK [(.N)])):=by kernel_rfl
theorem So:aR prog O L 35 [N,P,Q]=bC O 14 [N,P] λaa=>bB prog .eql 51 aa (.pointer none) λab=>aN ab (aM (aK [(.int .u16 1)])) (bC O 28 [aa,Q] λac=>bX 0 ac λad=>bX 1 ac λae=>bO (un prog .not ae) λaf=>aN af (aM (aK [(.int .u16 1)])) (aW 12 N λag=>aW 11 N λah=>bI 2 ah P λai=>bFL 1 ai λaj=>bIL 1 ag aj λak=>aW 11 N λal=>bI 2 al P λam=>bFL 0 am λan=>bC O 66 [ak,an,ad] λao=>aM (aK [ao]))):=by kernel_rfl
theorem aRD:aR prog O L 31 [N,P]=aW 12 N λaa=>bC O 65 [aa,P] λab=>aM (aK [ab]):=by kernel_rfl
def Sh:CC:=cc prog 15513425543237 27 [1,1,0,1,0,0,1,1,0,0,1,1,0,0]
def Sm:KV:=(bV 4 (bV 3 (cJ prog O L (cc prog 15513425543237 27 [1,1,0,1,0,0,1,1,1]) (iO 15513425543237 k))))
def Si (O:aH)(L:LV) (k:KV) (a c g v w x zz zy zx zs zr zq:Value):MV:=bB prog .add 3 zx (.I 1) λaa=>k .normal (a::aG 1 (c::aG 3 (g::aG 12 (v::w::x::aG 12 (zz::zy::aa::aG 4 (zs::zr::zq::aG 24 []))))))
theorem aRB:Sm O L k (.exit 4) (a::aG 1 (c::aG 3 (g::aG 12 (v::w::x::aG 12 (zz::zy::zx::aG 4 (zs::zr::zq::aG 24 []))))))=Si O L k a c g v w x zz zy zx zs zr zq:=by kernel_rfl
theorem aDD:aO prog O L Sh k (a::aG 1 (c::aG 3 (g::aG 12 (v::w::x::aG 12 (zz::zy::zx::aG 4 (zs::zr::zq::aG 24 []))))))=bB prog .lss 3 zq zr λaa=>aN aa (bI 2 zs zq λab=>bM (ldN 2 ab) λac=>bM (aZ 104 [(.I 0),(.N)] .fix) λad=>bM (stN 2 ad ac) λae=>aW 13 a λaf=>bFL 0 ad λag=>bO (bld prog 83 [(0,g),(1,ag)]) λah=>bM (jE (.str [true,true]) (.pointer none) false af ah) λai=>bFL 1 ad λaj=>bC O 52 [ai,aj] λak=>bB prog .add 3 zq (.I 1) λal=>k .normal (a::aG 1 (c::aG 3 (g::aG 12 (v::w::x::aG 12 (zz::zy::zx::aG 4 (zs::zr::al::aG 24 []))))))) (k (.exit 4) (a::aG 1 (c::aG 3 (g::aG 12 (v::w::x::aG 12 (zz::zy::zx::aG 4 (zs::zr::zq::aG 24 []))))))):=by kernel_rfl
def Sg:CC:=cc prog 15513425543237 27 [1,1,0,1,0,0]
def Sk:KV:=(bV 2 (cJ prog O L (cc prog 15513425543237 27 [1,1,1]) (cS prog Tryz.f27)))
theorem aRA:Sk O L (.exit 2) (a::aG 1 (c::aG 3 (g::aG 12 (v::w::x::aG 12 (zz::zy::zx::aG 4 (zs::zr::zq::aG 24 []))))))=aW 14 a λaa=>bB prog .add 3 aa (.I 1) λab=>bQF 14 a λac=>bT ac ab λad=>aM (aK []):=by kernel_rfl
theorem aDC:aO prog O L Sg k (a::aG 1 (c::aG 3 (g::aG 12 (v::w::x::aG 12 (zz::zy::zx::aG 4 (zs::zr::zq::aG 24 []))))))=bB prog .lss 3 zx zy λaa=>aN aa (bIL 1 zz zx λab=>bN ab λac=>L (aO prog O L Sh) (Sm O L k) (a::aG 1 (c::aG 3 (zx::aG 12 (v::w::x::aG 12 (zz::zy::zx::aG 4 (ab::ac::some (.I 0)::aG 24 []))))))) (k (.exit 2) (a::aG 1 (c::aG 3 (g::aG 12 (v::w::x::aG 12 (zz::zy::zx::aG 4 (zs::zr::zq::aG 24 []))))))):=by kernel_rfl
def Sf:CC:=cc prog 15513425543237 27 [1,0,1,0,0]
def Sj:KV:=(bV 0 (cJ prog O L (cc prog 15513425543237 27 [1,1]) (cS prog Tryz.f27)))
theorem aRz:Sj O L (.exit 0) (a::aG 1 (c::aG 3 (g::aG 12 (v::w::x::aG 12 (zz::zy::zx::aG 4 (zs::zr::zq::aG 24 []))))))=bN c λaa=>L (aO prog O L Sg) (Sk O L) (a::aG 1 (c::aG 3 (g::aG 12 (v::w::x::aG 12 (c::aa::some (.I 0)::aG 4 (zs::zr::zq::aG 24 [])))))):=by kernel_rfl
theorem aDB:aO prog O L Sf k (a::aG 1 (c::aG 3 (g::aG 12 (v::w::x::aG 12 (zz::zy::zx::aG 4 (zs::zr::zq::aG 24 []))))))=bB prog .lss 3 x w λaa=>aN aa (bIL 1 v x λab=>bM (kQ O (.func (.func 51) #[ab] #[]) []) λac=>bI 1 c x λad=>bT ad ac λae=>bB prog .add 3 x (.I 1) λaf=>k .normal (a::aG 1 (c::aG 3 (g::aG 12 (v::w::af::aG 12 (zz::zy::zx::aG 4 (zs::zr::zq::aG 24 []))))))) (k (.exit 0) (a::aG 1 (c::aG 3 (g::aG 12 (v::w::x::aG 12 (zz::zy::zx::aG 4 (zs::zr::zq::aG 24 []))))))):=by kernel_rfl
theorem aRC:aR prog O L 27 [N]=aW 12 N λaa=>bN aa λab=>bM (gU 102 1 24 [(.N)] ab ab) λac=>aW 12 N λad=>bN ad λae=>L (aO prog O L Sf) (Sj O L) (N::aG 1 (ac::aG 3 (some aE::aG 12 (ad::ae::some (.I 0)::aG 12 (some aE::some aE::some aE::aG 4 (some aE::some aE::some aE::aG 24 [])))))):=by kernel_rfl
theorem aRE:aR prog O L 33 [N]=bM (aZ 33 (Value.cells N).toList .fix) λaa=>bM (aZ 33 [(.int .u8 0),(.I 0),(.I 0),(.I 0),(.int .u32 0),(.bool false),(.I 0),(.I 0),(.I 0),(.int .u8 0)] .fix) λab=>bF 8 aa λac=>bT ac (.I 0) λad=>bM (ldN 10 aa) λae=>bM (stN 10 ab ae) λaf=>bR (ldN 10 ab) λw6=>aM (aK [w6]):=by kernel_rfl
theorem aRF:aR prog O L 34 [N,P,Q]=bM (aZ 33 (Value.cells N).toList .fix) λaa=>bM (aZ 40 (Value.cells P).toList .fix) λab=>bM (aZ 33 [(.int .u8 0),(.I 0),(.I 0),(.I 0),(.int .u32 0),(.bool false),(.I 0),(.I 0),(.I 0),(.int .u8 0)] .fix) λac=>bFL 5 aa λad=>aN ad (bF 1 aa λae=>bFL 0 ae λaf=>bO (gJ prog true [af,(.I 0)]) λag=>bFL 0 ab λah=>bB prog .rem 3 ag ah λai=>bF 1 aa λaj=>bF 0 aj λak=>bT ak ai λal=>bF 1 aa λam=>bFL 1 am λan=>bO (gJ prog true [an,(.I 0)]) λao=>bFL 0 ab λap=>bB prog .rem 3 ao ap λaq=>bF 1 aa λar=>bF 1 ar λau=>bT au aq λav=>bF 1 aa λaw=>bFL 2 aw λax=>bO (gJ prog true [ax,(.I 0)]) λay=>bFL 2 ab λaz=>bB prog .rem 3 ay az λba=>bF 1 aa λbb=>bF 2 bb λbc=>bT bc ba λbd=>bFL 6 aa λbe=>bO (gJ prog true [be,(.I 0)]) λbf=>bB prog .rem 3 bf Q λbg=>bF 6 aa λbh=>bT bh bg λbi=>bM (ldN 10 aa) λbj=>bM (stN 10 ac bj) λbk=>bR (ldN 10 ac) λw43=>aM (aK [w43])) (bM (ldN 10 aa) λbl=>bM (stN 10 ac bl) λbm=>bR (ldN 10 ac) λw46=>aM (aK [w46])):=by kernel_rfl
theorem aDE:aR prog O L 38 [N]=bB prog .eql 48 N (.N) λaa=>aN aa (aM (aK [(.N)])) (bM (b9 83 2 0 [(.I 0),(.I 0)] []) λab=>bM (app 83 2 16 ab N) λac=>aM (aK [ac])):=by kernel_rfl
def Sp:CC:=cc prog 1835014 45 [1,1,0,1,0,0]
def Sq:KV:=(bV 0 (cJ prog O L (cc prog 1835014 45 [1,1,1]) (cS prog Tryz.f45)))
theorem aRH:Sq O L (.exit 0) (aG 1 (b::c::aG 15 (u::v::w::aG 12 [])))=bM (ldN 11 b) λaa=>bM (stN 11 c aa) λab=>bR (ldN 11 c) λw31=>aM (aK [w31]):=by kernel_rfl
theorem aDF:aO prog O L Sp k (aG 1 (b::c::aG 15 (u::v::w::aG 12 [])))=bB prog .lss 3 w v λaa=>aN aa (bIL 1 u w λab=>bF 10 b λac=>bL ac λad=>bC O 78 [ab] λae=>gH λh25=>ifK (chk ((ld1 ac) h25) ad&&(true)) (bI 1 ad w λaf=>bT af ae λag=>bB prog .add 3 w (.I 1) λah=>k .normal (aG 1 (b::c::aG 15 (u::v::ah::aG 12 []))))) (k (.exit 0) (aG 1 (b::c::aG 15 (u::v::w::aG 12 [])))):=by kernel_rfl
theorem aRI:aR prog O L 45 [N]=bM (aZ 40 (Value.cells N).toList .fix) λaa=>bM (aZ 40 [(.I 0),(.N),(.I 0),(.I 0),(.I 0),(.I 0),(.I 0),(.I 0),(.N),(.int .u16 0),(.N)] .fix) λab=>bFL 1 aa λac=>gH λh3=>bC O 77 [ac] λad=>bF 8 aa λae=>bL ae λaf=>gH λh6=>ifK (chk ((ld1 ae) h3) af&&(true)) (bC O 78 [af] λag=>bF 10 aa λah=>bL ah λai=>ifK (chk ((ld1 ah) h6) ai&&(chk ((ld1 ah) h3) ai&&(true))) (bC O 79 [ai] λaj=>bF 1 aa λak=>bT ak ad λal=>bF 8 aa λam=>bT am ag λan=>bF 10 aa λao=>bT ao aj λap=>bFL 10 aa λaq=>bN aq λar=>L (aO prog O L Sp) (Sq O L) (aG 1 (aa::ab::aG 15 (aq::ar::some (.I 0)::aG 12 []))))):=by kernel_rfl
theorem aRJ:aR prog O L 65 [N,P]=bB prog .lss 3 P (.I 0) λaa=>bG aa false (aX P) λab=>bG aa false (aX N) λac=>bG aa false (aP (cX ac)) λad=>bG aa false (aP (bin prog .geq 3 ab ad)) λae=>bP aa (.bool true) ae λaf=>aN af (aM (aK [(.pointer none)])) (bIL 1 N P λag=>aM (aK [ag])):=by kernel_rfl
theorem aDG:aR prog O L 77 [N]=bB prog .eql 36 N (.N) λaa=>aN aa (aM (aK [(.N)])) (bM (b9 128 2 0 [(.I 0),(.I 0)] []) λab=>bM (app 128 2 16 ab N) λac=>aM (aK [ac])):=by kernel_rfl
theorem aDH:aR prog O L 79 [N]=bB prog .eql 38 N (.N) λaa=>aN aa (aM (aK [(.N)])) (bM (b9 37 1 0 [(.N)] []) λab=>bM (app 37 1 24 ab N) λac=>aM (aK [ac])):=by kernel_rfl
end Go.Proofs.YtciiopkbmjppfaaGreatDoor
end
namespace Go.Abs
open M
theorem aDJ {n:Nat}(h:n<65536):dC (dU n)=n:=((aBm h).mp rfl).symm
theorem aRQ {f:Frm}(h:dB f=true)(hk:f.kind≠1):f.src=0/\f.dst=0/\f.body=0:=by
 unfold dB at h;rw[if_neg hk] at h;simp only[aUl,decide_eq_true_eq] at h
 exact⟨h.2.1.1.2,h.2.1.2,h.2.2⟩
theorem xW {n:Nat}(h:n<256):(by8 n).toNat=n:=by rw[sQ];omega
theorem aRO {f:Frm}(h:f.ok)(hk:f.kind≠1)(hs:dB f=true):fG (jM f)=f:=by
 obtain⟨s1,s2,s3⟩:=aRQ hs hk;have hb:iQ f=[by8 f.kind,by8 f.lane,by8 (f.seq/256),by8 f.seq]:=by unfold iQ;rw[if_neg hk];rfl
 have he:jM f=[by8 f.kind,by8 f.lane,by8 (f.seq/256),by8 f.seq]++dU (crc (iQ f)):=by unfold jM;rw[hb]
 have h1:=xW h.kind;have h2:=xW h.lane;have h3:dC [by8 (f.seq/256),by8 f.seq]=f.seq:=aDJ h.seq;rw[he];cases f;simp only at*;simp only[fG,List.cons_append,List.getD_cons_zero,List.getD_cons_succ,h1,h2,h3,s1,s2,s3]
theorem aRP {f:Frm}(h:f.ok)(hk:f.kind=1):kG (jM f)=f:=by
 have hb:iQ f=[by8 f.kind,by8 f.lane,by8 (f.seq/256),by8 f.seq,by8 f.src,by8 f.dst,by8 (f.body/65536/256),by8 (f.body/65536),by8 (f.body/256),by8 f.body]:=by unfold iQ;rw[if_pos hk];rfl
 have he:jM f=[by8 f.kind,by8 f.lane,by8 (f.seq/256),by8 f.seq,by8 f.src,by8 f.dst,by8 (f.body/65536/256),by8 (f.body/65536),by8 (f.body/256),by8 f.body]++dU (crc (iQ f)):=by unfold jM;rw[hb]
 have h1:=xW h.kind;have h2:=xW h.lane;have h4:=xW h.src;have h5:=xW h.dst;have h3:dC [by8 (f.seq/256),by8 f.seq]=f.seq:=aDJ h.seq;have h6:dC [by8 (f.body/65536/256),by8 (f.body/65536),by8 (f.body/256),by8 f.body]=f.body:=by
  have:=h.body;rw[aBl,sQ,sQ,sQ,sQ];omega
 rw[he];cases f;simp only at*;simp only[kG,fG,List.cons_append,List.getD_cons_zero,List.getD_cons_succ,h1,h2,h3,h4,h5,h6]
theorem aDI {f:Frm}(h:f.ok):((jM f).getD 0 0).toNat=f.kind:=by
 unfold jM iQ wZ;simp only[List.cons_append,List.getD_cons_zero];exact xW h.kind
theorem aRK {f:Frm}(h:f.ok)(hs:dB f=true):fF (jM f)=some f:=by
 rw[aNL];unfold Pz;have hl:=P0 f;by_cases hk:f.kind=1
 ·rw[if_pos hk] at hl
  rw[if_neg U]
  simp only[if_pos (show((jM f).getD 0 0).toNat=1/\12<=(jM f).length from⟨by rw[aDI h];exact hk,by omega⟩)]
  rw[aRP h hk,if_pos (by unfold lP;rw[if_pos hs])]
 ·rw[if_neg hk] at hl
  rw[if_neg U]
  simp only[if_neg (show¬(((jM f).getD 0 0).toNat=1/\12<=(jM f).length) from λhh=>hk (by rw[<-aDI h];exact hh.1))]
  rw[aRO h hk hs,if_pos (by unfold lP;rw[if_pos hs])]
theorem aRM {f:Frm}(hs:dB f=true):mW f=jM f:=by unfold mW lP;rw[if_pos hs];rfl
theorem aRL {bs:List UInt8}(h6:bs.length≠6)(h12:bs.length≠12):fF bs=none:=by
 unfold fF;rw[if_neg U,if_neg U]
theorem aRN {l:List Nat}{w:Nat}(h:w∈l): ∃j,(l.findIdx? λz:Nat=>decide ((z:Int)=(w:Int)))=some j:=by
 cases hf:(l.findIdx? λz:Nat=>decide ((z:Int)=(w:Int))) with
 |some j=>exact⟨j,rfl⟩
 |none=>
  rw[List.findIdx?_eq_none_iff] at hf;exact absurd (hf w h) (by simp)
end Go.Abs
namespace Go.Proofs.YtciiopkbmjppfaaGreatDoor
open Go.Proofs.Tryz
open Go.Abs Go.Abs.M
open Classical
theorem aDK (t:TypeId)(a:Addr)(h:gV prog t (.pointer none)=true):bin prog .neq t (.pointer (some a)) (.pointer none)=some (.bool true):=by
 have h2:gV prog t (.pointer (some a))=true:=by
  rw[<-h];unfold gV;cases prog.underlying t with
  |none=>rfl
  |some d=>cases d<;>rfl
 simp[bin,cL,jZ,h,h2,eqV]
section
variable {m : Nat} {H0 H : aF} {F : Part → Nat → Prop} {y : Lay} {p : PlanD} {ev wv nv : Value} {c : Cfg}
end
section
variable {H : aF} {m : Nat} {p : PlanD} {ev wv nv v : Value}
theorem Iz {t e:TypeId}(h:prog.underlying t=some (.slice e)):bin prog .eql t (.N) (.N)=some (.bool true)/\ ∀b o n c,bin prog .eql t (.slice (some ⟨b,o,none⟩) n c) (.N)=some (.bool false):=by
 constructor
 ·simp[bin,cL,jZ,gV,eqV,h]
 ·intro b o n c
  simp[bin,cL,jZ,gV,eqV,h]
theorem Iv {α:Type}{el:α->List Value}{e:TypeId}{sz by':Nat}(hsz: ∀x,(el x).length=sz)(hall: ∀x,cA (el x)=true)(h0:0<sz){xs:List α}(h:Rs el e H v xs)(hr:eH xs.length by'=true):
  (v= .N/\xs=[])∨((∃b o n c,v= .slice (some ⟨b,o,none⟩) n c)/\ ∃u H',app e sz by' (.slice (some ⟨H.length,0,none⟩) 0 0) v (H++[.cells [] e .row])=some (u,H')/\Ext H H'/\Rw el e sz H' u xs/\New H u):=by
 have hx:Ext H (H++[.cells [] e .row]):=Fr.app _ _ _;have hc:=h;rcases h with h|⟨b,o,cap,h,_⟩
 ·exact .inl h
 ·have z:Rw el e sz (H++[.cells [] e .row]) (.slice (some ⟨H.length,0,none⟩) 0 0) []:=⟨by simp,.inr ⟨H.length,0,[],rfl,aUi _,by simp,by simp⟩⟩
  obtain⟨u,H',g1,g2,g3,g4⟩:=z.wM hsz hall h0 (by':=by') (H0:=H) (hc.ext hx) (λb ⟨_,_,_,h⟩=>by cases h;exact aUi _) hx (by simpa using hr)
  exact .inr ⟨⟨b,o,_,_,h⟩,u,H',g1,g4,g2,g3⟩
theorem aDL {xs:List Int}(h:Is H v xs)(hl:xs.length<=1000)(hm:0<m): ∃u H',lvl prog pkN m (.func 78) [v] H=some (u,H')/\Ext H H'/\Iw H' u xs/\New H u:=by
 have q:=Iz (t:=37) (e:=3) (by kernel_rfl)
 rcases Iv (by':=8) eP mQ aC h (eD (n:=1000) aC hl) with⟨rfl,rfl⟩|⟨⟨b,o,n,c,rfl⟩,u,H',g1,g2⟩
 ·refine⟨_,H,aS (aQ rfl) hm ?_,Fr.dS _ _,Rw.fD,New.iE _⟩
  rw[Ml];simp only[gsR,q.1]
 ·have b0:b9 3 1 0 [.I 0] [] H=some (.slice (some ⟨H.length,0,none⟩) 0 0,H++[.cells [] 3 .row]):=rfl
  refine⟨u,H',aS (aQ rfl) hm ?_,g2⟩;rw[Ml];simp only[gsR,q.2,b0,g1]
theorem aRR {xs:List Ed}(h:Es H v xs)(hl:xs.length<=1000)(hm:0<m): ∃u H',lvl prog pkN m (.func 77) [v] H=some (u,H')/\Ext H H'/\Ew H' u xs/\New H u:=by
 have q:=Iz (t:=36) (e:=128) (by kernel_rfl)
 rcases Iv (by':=16) nF wR aC h (eD (n:=1000) aC hl) with⟨rfl,rfl⟩|⟨⟨b,o,n,c,rfl⟩,u,H',g1,g2⟩
 ·refine⟨_,H,aS (aQ rfl) hm ?_,Fr.dS _ _,Rw.fD,New.iE _⟩
  rw[aDG];simp only[gsR,q.1]
 ·have b0:b9 128 2 0 [.I 0,.I 0] [] H=some (.slice (some ⟨H.length,0,none⟩) 0 0,H++[.cells [] 128 .row]):=rfl
  refine⟨u,H',aS (aQ rfl) hm ?_,g2⟩;rw[aDG];simp only[gsR,q.2,b0,g1]
theorem aRS {xs:List Ed}(h:Hs H v xs)(hl:xs.length<=1000)(hm:0<m): ∃u H',lvl prog pkN m (.func 38) [v] H=some (u,H')/\Ext H H'/\Hw H' u xs/\New H u:=by
 have q:=Iz (t:=48) (e:=83) (by kernel_rfl)
 rcases Iv (by':=16) nF wR aC h (eD (n:=1000) aC hl) with⟨rfl,rfl⟩|⟨⟨b,o,n,c,rfl⟩,u,H',g1,g2⟩
 ·refine⟨_,H,aS (aQ rfl) hm ?_,Fr.dS _ _,Rw.fD,New.iE _⟩
  rw[aDE];simp only[gsR,q.1]
 ·have b0:b9 83 2 0 [.I 0,.I 0] [] H=some (.slice (some ⟨H.length,0,none⟩) 0 0,H++[.cells [] 83 .row]):=rfl
  refine⟨u,H',aS (aQ rfl) hm ?_,g2⟩;rw[aDE];simp only[gsR,q.2,b0,g1]
theorem aRT {us:List SV}(h:Rs sC 37 H v us)(hl:us.length<=1000)(hm:0<m): ∃u H',lvl prog pkN m (.func 79) [v] H=some (u,H')/\Ext H H'/\Rw sC 37 1 H' u us/\New H u:=by
 have q:=Iz (t:=38) (e:=37) (by kernel_rfl)
 rcases Iv (by':=24) B5 F9 aC h (eD (n:=1000) aC hl) with⟨rfl,rfl⟩|⟨⟨b,o,n,c,rfl⟩,u,H',g1,g2⟩
 ·refine⟨_,H,aS (aQ rfl) hm ?_,Fr.dS _ _,Rw.fD,New.iE _⟩
  rw[aDH];simp only[gsR,q.1]
 ·have b0:b9 37 1 0 [.N] [] H=some (.slice (some ⟨H.length,0,none⟩) 0 0,H++[.cells [] 37 .row]):=rfl
  refine⟨u,H',aS (aQ rfl) hm ?_,g2⟩;rw[aDH];simp only[gsR,q.2,b0,g1]
theorem Sr {e:TypeId}{us:List SV}(h:Rw sC e 1 H v us){i:Nat}(hi:i<us.length)(x:SV): ∃c cs,aT v c/\H[c]? =some (.cells cs e .row)/\cN 1 v (.I (i:Nat))=some (.Q c i)/\ld1 (.Q c i) H=some (us[i].1,H)/\
  stN 1 (.Q c i) x.1 H=some (undef,H.set c (.cells (cs.set i x.1) e .row))/\Rw sC e 1 (H.set c (.cells (cs.set i x.1) e .row)) v (us.set i x):=by
 have hf: ∀us:List SV,(us.map sC).flatten=us.map (·.1):=by
  intro us;induction us with
  |nil=>rfl
  |cons a us ih=>rw[aUI,aUN,ih];rfl
 rcases h with⟨h1,⟨rfl,h2⟩|⟨c,cap,rest,rfl,h2,h3,h4⟩⟩
 ·omega
 ·rw[hf] at h4
  refine⟨c,_,⟨_,_,_,rfl⟩,h4,?_,bA h4 ?_,nI h4 aC (by simp;omega) (by rw[x.2.2]) x.2.1,?_⟩
  ·rw[mP _ _ _ _ _ _ _ U U]
   simp
  ·rw[aUg (by simpa using hi),aUq,aUf hi]
   rfl
  ·refine⟨by rw[hf];simp,.inr ⟨c,cap,rest,by rw[List.length_set],by rw[List.length_set];exact h2,by rw[List.length_set];exact h3,?_⟩⟩
   rw[aUj (aUd.mp h4).1,hf,List.map_set,List.set_append_left _ _ (by simpa using hi)]
theorem aRV {xss:List (List Int)}(h:Rows H v xss): ∃us:List SV,Rs sC 37 H v us/\us.length=xss.length/\ ∀(i:Nat)(u:SV)(xs:List Int),us[i]? =some u->xss[i]? =some xs->Is H u.1 xs:=by
 obtain⟨us,h1,h2,h3⟩:=h;have hs: ∀u∈us,cA [u]=true/\u.cells= #[u]:=λu hu=>by
  obtain⟨i,hi⟩:=List.getElem?_of_mem hu;have hl:=(aUd.mp hi).1;rcases h3 i u _ hi (aUf U) with⟨rfl,_⟩|⟨b,o,cap,rfl,_⟩<;>exact⟨rfl,rfl⟩
 obtain⟨ws,hw⟩: ∃ws:List SV,ws.map (·.1)=us:=by
  clear h1 h2 h3;induction us with
  |nil=>exact⟨[],rfl⟩
  |cons a us ih=>
   obtain⟨ws,hw⟩:=ih λu hu=>hs u (aUu _ hu)
   exact⟨⟨a,hs a (aUm ..)⟩::ws,congrArg (a:: ·) hw⟩
 have hl:ws.length=us.length:=by rw[<-hw,aUr]
 refine⟨ws,?_,by omega,λi u xs hu hx=>h3 i u.1 xs (by rw[<-hw,aUq,hu];rfl) hx⟩
 unfold Rs at h1⊢;rw[B6,hw,hl];rcases h1 with⟨a,b⟩|⟨b,o,cap,a1,a2,a3⟩
 ·exact .inl ⟨a,aUv.mp (by rw[hl,b];rfl)⟩
 ·exact .inr ⟨b,o,cap,a1,a2,λhne=>a3 λhz=>hne (aUv.mp (by rw[hl,hz];rfl))⟩
theorem Iy {xss:List (List Int)}{us:List SV}(h:Rs sC 37 H v us)(hl:us.length=xss.length)(h3: ∀(i:Nat)(u:SV)(xs:List Int),us[i]? =some u->xss[i]? =some xs->Is H u.1 xs):Rows H v xss:=by
 refine⟨us.map (·.1),?_,by rw[aUr,hl],λi u xs hu hx=> ?_⟩
 ·unfold Rs at h⊢
  rw[<-B6,aUr];rcases h with⟨a,b⟩|⟨b,o,cap,a1,a2,a3⟩
  ·exact .inl ⟨a,by rw[b];rfl⟩
  ·exact .inr ⟨b,o,cap,a1,a2,λhne=>a3 λhz=>hne (by rw[hz];rfl)⟩
 ·rw[aUq] at hu
  cases hw:us[i]? with
  |none=>rw[hw] at hu;cases hu
  |some w=>
   rw[hw] at hu;cases hu;exact h3 i w xs hw hx
structure Clo (H H':aF)(p:PlanD)(ev wv nv:Value):Prop where
 pv:PV H' p ev wv nv
 ext:Ext H H'
 e:Ew H' ev p.edges/\New H ev
 w:Iw H' wv p.weights/\New H wv
 n: ∃us:List SV,Rw sC 37 1 H' nv us/\New H nv/\us.length=p.next.length/\ ∀(i:Nat)(u:SV)(xs:List Int),us[i]? =some u->p.next[i]? =some xs->Iw H' u.1 xs/\New H u.1
theorem aRU {Hb:aF}{pb zb:Nat}(hb0:Hb.length<=pb)(hb1:Hb.length<=zb)(hne:pb≠zb)(hE:p.edges.length<=17592186043000)(hW:p.weights.length<=17592186043000)(hN:p.next.length<=1000)(hN2: ∀xs∈p.next,xs.length<=1000)(hm:100<m):
  ∀(q i l:Nat)(H1:aF)(us:List SV),p.next.length-i=q->i<=p.next.length->q<l->Ext Hb H1->H1[pb]? =some (plB p ev wv nv)->H1[zb]? =some plZ->Ew H1 ev p.edges->New Hb ev->Iw H1 wv p.weights->New Hb wv->Rw sC 37 1 H1 nv us->New Hb nv->us.length=p.next.length->
   (∀(j:Nat)(u:SV)(xs:List Int),us[j]? =some u->p.next[j]? =some xs->Is H1 u.1 xs/\(∀b,aT nv b-> ¬aT u.1 b)/\(j<i->Iw H1 u.1 xs/\New Hb u.1))-> ∃H2 u2,aL l (aO prog (lvl prog pkN m) (aL m) Sp) (Sq (lvl prog pkN m) (aL m)) (aG 1 (some (.Q pb 0)::some (.Q zb 0)::aG 15 (nv::some (.I (p.next.length:Nat))::some (.I (i:Nat))::aG 12 []))) H1=some (u2,H2)/\u2=plV p ev wv nv/\Clo Hb H2 p ev wv nv:=by
 intro q;induction q with
 |zero=>
  intro i l H1 us hq hi hl he hb hz e1 e2 w1 w2 r1 r2 hul hall;intros;obtain⟨l,rfl⟩:=aB l U
  obtain rfl:i=p.next.length:=U
  have e:decide ((p.next.length:Int)<(p.next.length:Nat))=false:=by simp
  have l11:=fE hb;obtain⟨H2,hH2⟩:=aD (H1.set zb (plB p ev wv nv));have st:stN 11 (.Q zb 0) (plV p ev wv nv) H1=some (undef,H2):=by
   have e1':(plV p ev wv nv).cells.toList=plC p ev wv nv:=rfl;have hpv:PV H1 p ev wv nv:=⟨e1.rs,w1.rs,Iy r1.rs hul λj u xs hu hx=>(hall j u xs hu hx).1,hE,by omega,by omega⟩
   rw[fV 11 _ _ _ rfl,hz,e1',hH2];unfold plZ;rw[iW _ _ _ _ _ _ aC (by simp[plC]) hpv.B7]
   simp[cU,plC,plB]
  have hzl:=bU hz;have b2:H2[zb]? =some (plB p ev wv nv):=by rw[hH2,aUj hzl]
  have l11z:=fE b2;have hk: ∀b,b≠zb->H2[b]? =H1[b]? :=λb hbz=>by rw[hH2,aUe (λhh=>hbz hh.symm)]
  have hnh: ∀{α:Type}{el:α->List Value}{e:TypeId}{sz:Nat}{w:Value}{xs:List α},Rw el e sz H1 w xs->Rw el e sz H2 w xs:=λh=>h.cZ λb hbb=>hk b λhh=>by
   obtain⟨cs,hc⟩:=h.blk hbb;rw[hh,hz] at hc;cases hc
  have he2:Ext Hb H2:=by rw[hH2];exact gM he hb1
  refine⟨H2,_,?_,rfl,⟨⟨(hnh e1).rs,(hnh w1).rs,Iy (hnh r1).rs hul λj u xs hu hx=>(hnh ((hall j u xs hu hx).2.2 (aUd.mp hx).1).1).rs,hE,by omega,by omega⟩,he2,⟨hnh e1,e2⟩,⟨hnh w1,w2⟩,us,hnh r1,r2,hul,λj u xs hu hx=> ?_⟩⟩
  ·rw[bS,aDF]
   simp only[gsR,e];rw[aRH];simp only[gsR,l11,st,l11z]
  ·have:=(hall j u xs hu hx).2.2 (aUd.mp hx).1
   exact⟨hnh this.1,this.2⟩
 |succ q ih=>
  intro i l H1 us hq hi hl he hb hz e1 e2 w1 w2 r1 r2 hul hall;intros;obtain⟨l,rfl⟩:=aB l U
  have e:decide ((i:Int)<(p.next.length:Nat))=true:=aUX U
  have e3:=aA (i:=i) U
  have hi1:i<us.length:=U
  have hxi:p.next[i]? =some p.next[i]:=aUf U
  have hui:us[i]? =some us[i]:=aUf hi1;obtain⟨hIs,hap,_⟩:=hall i _ _ hui hxi;obtain⟨u,H2,g1,x2,g2,g3⟩:=aDL hIs (hN2 _ (aUn hxi)) (m:=m) U
  obtain⟨su,rfl⟩: ∃su:SV,su.1=u:=by
   obtain⟨s1,s2⟩:=Rw.sI g2
   exact⟨⟨u,s2,Array.toList_inj.mp s1⟩,rfl⟩
  have r1':=m9 r1 x2;obtain⟨c,cs,p1,p2,p3,p4,_,_⟩:=Sr r1 hi1 su;obtain⟨c',cs',q1,q2,q3,_,q5,q6⟩:=Sr r1' hi1 su
  obtain rfl:c'=c:=by
   obtain⟨o,n,k,hh⟩:=p1;obtain⟨o',n',k',hh'⟩:=q1;rw[hh] at hh';cases hh';rfl
  have hcb:Hb.length<=c':=r2 _ q1;obtain⟨H3,hH3⟩:=aD (H2.set c' (.cells (cs'.set i su.1) 37 .row));rw[<-hH3] at q5 q6;have l10: ∀G,Ext H1 G->ld1 (.pointer (some ⟨pb,10,none⟩)) G=some (nv,G):=λG hG=>cQ (cP hb hG) 10 nv rfl
  have l10a:=l10 H1 (Fr.dS _ _);have l10b:=l10 H2 x2;have ck:chk (some (nv,H2)) nv=true:=by rcases r1 with⟨_,⟨rfl,_⟩|⟨_,_,_,rfl,_⟩⟩<;>exact Hm _ _ _ _
  have hk: ∀b,b≠c'->H3[b]? =H2[b]? :=λb hbz=>by rw[hH3,aUe (λhh=>hbz hh.symm)]
  have he3:Ext Hb H3:=by rw[hH3];exact gM (he.tr x2) hcb
  have hkR: ∀{α:Type}{el:α->List Value}{e:TypeId}{sz:Nat}{w:Value}{xs:List α},Rw el e sz H1 w xs->e≠37->Rw el e sz H3 w xs:=λh hne=>(m9 h x2).cZ λb hbb=>hk b λhh=>by
   obtain⟨cs,hc⟩:=(m9 h x2).blk hbb;rw[hh,q2] at hc;cases hc;exact hne rfl
  have hkF: ∀{b:Nat}{cs1:List Value},H1[b]? =some (.cells cs1 40 .fix)->H3[b]? =some (.cells cs1 40 .fix):=λh=>by
   have h2:=cP h x2;rw[hk _ (λhh=>by rw[hh,q2] at h2;cases h2),h2]
  rw[bS,aDF];simp only[gsR,e,p3,p4,l10a,g1,l10b,ck,q3,q5,aV,e3];have hnu: ∀b,aT su.1 b-> ¬aT nv b:=λb h1 h2=>by
   have:=g3 b h1;have:=r1.dO h2;omega
  refine ih (i+1) l H3 (us.set i su) U U U he3 (hkF hb) (hkF hz) (hkR e1 aC) e2 (hkR w1 aC) w2 q6 r2 (by rw[List.length_set];exact hul) (λj u xs hu hx=> ?_) ..
  have hjl:j<us.length:=by have:=(aUd.mp hu).1;rwa [List.length_set] at this
  by_cases hji:j=i
  ·subst hji
   rw[aUj hjl] at hu;cases hu;rw[hxi] at hx;cases hx;have hiw:Iw H3 su.1 p.next[j]:=g2.cZ λb hbb=>hk b λhh=>hnu b hbb (by rw[hh];exact q1)
   exact⟨hiw.rs,λb h1 h2=>hnu b h2 h1,λ_=>⟨hiw,λb hbb=>aUt he.1 (g3 b hbb)⟩⟩
  ·rw[aUe (λhh=>hji hh.symm)] at hu
   obtain⟨a1,a2,a3⟩:=hall j u xs hu hx;have hs:Is H3 u.1 xs:=(a1.ext x2).E4 λb hbb _=>hk b λhh=>a2 b (by rw[hh];exact q1) hbb
   refine⟨hs,a2,λhj=> ?_⟩
   obtain⟨a4,a5⟩:=a3 U
   exact⟨(m9 a4 x2).cZ λb hbb=>hk b λhh=>a2 b (by rw[hh];exact q1) hbb,a5⟩
theorem aDM (hp:PV H p ev wv nv)(hE:p.edges.length<=1000)(hW:p.weights.length<=1000)(hN:p.next.length<=1000)(hN2: ∀xs∈p.next,xs.length<=1000)(hN0: ∀xs∈p.next,xs≠[])(hm:2000<m):
  ∃H' ev' wv' nv',lvl prog pkN m (.func 45) [plV p ev wv nv] H=some (plV p ev' wv' nv',H')/\Clo H H' p ev' wv' nv':=by
 obtain⟨H0,hH0⟩:=aD (H++[plB p ev wv nv]);have x0:Ext H H0:=by rw[hH0];exact Fr.app _ _ _
 have b0:H0[H.length]? =some (plB p ev wv nv):=by rw[hH0];exact cV _ _
 have e0:H++[Blk.cells (plV p ev wv nv).cells.toList 40 .fix]=H0:=by rw[hH0];rfl
 obtain⟨H1,hH1⟩:=aD (H0++[plZ]);have x1:Ext H0 H1:=by rw[hH1];exact Fr.app _ _ _
 have z1:H1[H0.length]? =some plZ:=by rw[hH1];exact cV _ _
 have b1:=cP b0 x1;have hx1:=x0.tr x1;have hl0:H0.length=H.length+1:=by rw[hH0];simp
 obtain⟨e',H2,g2,x2,e2,ne2⟩:=aRR (hp.ext hx1).e hE (m:=m-1) U
 have l1:=cQ b1 1 ev rfl;have b2:=cP b1 x2;have l8a:=cQ b1 8 wv rfl;have l8:=cQ b2 8 wv rfl;obtain⟨w',H3,g3,x3,w3,nw3⟩:=aDL ((hp.ext hx1).ext x2).w hW (m:=m-1) U
 have b3:=cP b2 x3;have l10a:=cQ b1 10 nv rfl;have l10b:=cQ b2 10 nv rfl;have l10:=cQ b3 10 nv rfl;obtain⟨us,us1,us2,us3⟩:=aRV hp.n;obtain⟨n',H4,g4,x4,n4,nn4⟩:=aRT (us1.ext ((hx1.tr x2).tr x3)) U (m:=m-1) U
 have b4:=cP b3 x4;have hx4:Ext H H4:=((hx1.tr x2).tr x3).tr x4;have ckw: ∀G,chk (some (wv,G)) wv=true:=λG=>by rcases hp.w with⟨rfl,_⟩|⟨_,_,_,rfl,_⟩<;>exact Hm _ _ _ _
 have ckn: ∀G,chk (some (nv,G)) nv=true:=λG=>by
  obtain⟨us,h1,_⟩:=hp.n;rcases h1 with⟨rfl,_⟩|⟨_,_,_,rfl,_⟩<;>exact Hm _ _ _ _
 have hpb:H.length≠H0.length:=U
 have hs: ∀{G:aF}{a b c:Value},G[H.length]? =some (plB p a b c)-> ∀{α:Type}{el:α->List Value}{e:TypeId}{sz:Nat}{w:Value}{xs:List α}(G2:aF),Rw el e sz G w xs->(∀b,b≠H.length->G2[b]? =G[b]?)->Rw el e sz G2 w xs:=λhb _ _ _ _ _ _ _ h hk=>h.cZ λb hbb=>hk b λhh=>by
  obtain⟨cs,hc⟩:=h.blk hbb;rw[hh,hb] at hc;cases hc
 obtain⟨H5,hH5⟩:=aD (H4.set H.length (plB p e' wv nv));have k5: ∀b,b≠H.length->H5[b]? =H4[b]? :=λb hb=>by rw[hH5,aUe (λhh=>hb hh.symm)]
 have b5:H5[H.length]? =some (plB p e' wv nv):=by rw[hH5];exact dN b4
 have e4:=m9 (m9 e2 x3) x4;have w4:=m9 w3 x4;obtain⟨s1,s2⟩:=Rw.sI e2;obtain⟨s3,s4⟩:=Rw.sI w3;obtain⟨s5,s6⟩:=Rw.sI n4;have st5:stN 1 (.Q H.length 1) e' H4=some (undef,H5):=by rw[hH5];exact nI b4 aC (by simp[plC]) s1 s2
 obtain⟨H6,hH6⟩:=aD (H5.set H.length (plB p e' w' nv));have k6: ∀b,b≠H.length->H6[b]? =H4[b]? :=λb hb=>by rw[hH6,aUe (λhh=>hb hh.symm),k5 b hb]
 have b6:H6[H.length]? =some (plB p e' w' nv):=by rw[hH6];exact dN b5
 have st6:stN 1 (.Q H.length 8) w' H5=some (undef,H6):=by rw[hH6];exact nI b5 aC (by simp[plC]) s3 s4
 obtain⟨H7,hH7⟩:=aD (H6.set H.length (plB p e' w' n'));have k7: ∀b,b≠H.length->H7[b]? =H4[b]? :=λb hb=>by rw[hH7,aUe (λhh=>hb hh.symm),k6 b hb]
 have b7:H7[H.length]? =some (plB p e' w' n'):=by rw[hH7];exact dN b6
 have st7:stN 1 (.Q H.length 10) n' H6=some (undef,H7):=by rw[hH7];exact nI b6 aC (by simp[plC]) s5 s6
 have l10c:=cQ b7 10 n' rfl;have n7:=hs b4 H7 n4 k7;have hln:=n7.nY;rw[us2] at hln;have x7:Ext H H7:=⟨by rw[hH7,hH6,hH5];simp only[List.length_set];exact hx4.1,λb hb _=>by rw[k7 b U,hx4.2 b hb id]⟩
 have hxl:=hx1.1;have hx2l:=x2.1;have hx3l:=x3.1;have main: ∃H' u,lvl prog pkN m (.func 45) [plV p ev wv nv] H=some (u,H')/\u=plV p e' w' n'/\Clo H H' p e' w' n':=by
  refine dL (aQ rfl) U ?_
  rw[aRI];simp only[gsR,e0,wW,<-hH1,l1,g2,l8a,l8,ckw,g3,l10a,l10b,l10,ckn,g4,st5,st6,st7,l10c,hln];exact aRU (Hb:=H) (pb:=H.length) (zb:=H0.length) (m:=m-1) (aUi _) U hpb U U hN hN2 U p.next.length 0 (m-1) H7 us U U U x7 b7 (by rw[k7 _ (Ne.symm hpb),cP (cP (cP z1 x2) x3) x4]) (hs b4 H7 e4 k7) (λb hb=>aUt hxl (ne2 b hb)) (hs b4 H7 w4 k7) (λb hb=>aUt hxl (aUt hx2l (nw3 b hb))) n7 (λb hb=>aUt hxl (aUt hx2l (aUt hx3l (nn4 b hb)))) us2 (λj u xs hu hx=>by
    have hi:=us3 j u xs hu hx;have hlt: ∀b,aT u.1 b->b<H.length:=λb hb=>by
     rcases hi with⟨_,h2⟩|⟨b',o,cap,h1,_,h3⟩
     ·exact absurd h2 (hN0 _ (aUn hx))
     ·obtain⟨o',n,c,hh⟩:=hb
      rw[h1] at hh;cases hh;obtain⟨_,_,_,_,_,_,h4⟩:=h3 (hN0 _ (aUn hx));exact bU h4
    exact⟨hi.E4 λb hb _=>x7.2 b (hlt b hb) id,λb h1 h2=>by have:=hlt b h2;have:=nn4 b h1;omega,λh=>by omega⟩) ..
 obtain⟨H',u,h1,rfl,h2⟩:=main
 exact⟨H',_,_,_,h1,h2⟩
end
end Go.Proofs.YtciiopkbmjppfaaGreatDoor
namespace Go.Abs
open M
theorem Ah {α:Type}{f:Nat->List α}{L:Nat}: ∀{a:Nat},(∀i,i<a->(f i).length=L)->((List.range a).flatMap f).length=a*L
 |0,_=>by simp
 |a+1,h=>by
  rw[aUM,List.flatMap_append,aUp,Ah (a:=a) (λi hi=>h i U)]
  simp[h a U,Nat.add_mul]
theorem aRW (c:Cfg)(s:NS):(mX c s).length=2*c.by'.length*c.lanes:=by
 unfold mX;rw[Ah (L:=c.lanes*2) λi _=>Ah (L:=2) λk _=>rfl]
 rw[Nat.mul_comm c.lanes 2,<-Nat.mul_assoc,Nat.mul_comm c.by'.length 2]
theorem aRX (f:Frm):(mW f).length<=12:=by
 unfold mW lP;split
 ·rw[aUG,P0]
  split<;>omega
 ·simp
def OutOk (c:Cfg)(os:eQ):Prop:= ∀o∈os,o.1∈c.by'/\o.2.length<=12
theorem OutOk.Ss (c:Cfg):OutOk c []:=λ_ h=>by cases h
theorem OutOk.app {c:Cfg}{a b:eQ}(h1:OutOk c a)(h2:OutOk c b):OutOk c (a++b):=λo ho=>(List.mem_append.mp ho).elim (h1 o) (h2 o)
theorem aDP {c:Cfg}{o:Nat}(h1:1<=o)(h2:o<c.aJ)(f:Frm):(qW c o f).1∈c.by'/\(qW c o f).2.length<=12:=by
 unfold Cfg.aJ at h2;unfold qW;refine⟨?_,aRX f⟩;simp only;rw[aUh,aUf U,aUG]
 exact List.getElem_mem _
theorem aR0 {c:Cfg}(s:NS)(i:Nat){o:Nat}(h2:o<c.aJ):OutOk c (iA c s i o).2:=by
 unfold iA;split
 ·exact OutOk.Ss c
 ·simp only
  split
  ·exact OutOk.Ss c
  ·rename_i hne
   intro x hx;rw[List.mem_singleton] at hx;subst hx;exact aDP U h2 _
theorem aDO {c:Cfg}{m:List Int}(hm: ∀x∈m,x= -1∨0<=x/\x<(c.aJ:Int))(hp:0<c.aJ): ∀(l:List Nat)(s:NS×eQ),OutOk c s.2->OutOk c (k9 c m l s).2
 |[],_,h=>h
 |i::l,s,h=>by
  unfold k9;refine aDO hm hp l _ ?_;split
  ·rename_i h0
   have:(m.getD i 0).toNat<c.aJ:=by
    rw[aUh];cases hg:m[i]? with
    |none=>simpa using hp
    |some x=>
     rcases hm x (aUn hg) with h1|h1
     ·subst h1
      simpa using hp
     ·simp only[aUG]
      omega
   exact h.app (aR0 _ _ this)
  ·exact h
theorem aRY (c:Cfg)(s:NS):OutOk c (mX c s):=by
 intro o ho;unfold mX at ho;obtain⟨i,hi,ho⟩:=List.mem_flatMap.mp ho;obtain⟨k,hk,ho⟩:=List.mem_flatMap.mp ho;have hi:=aUR.mp hi;simp only[aUw,aUD,or_false] at ho;rcases ho with rfl|rfl<;>exact aDP U (by unfold Cfg.aJ;omega) _
theorem aR2 {c:Cfg}{t:Nat}{s:NS}(hc:c.ok)(h:NInv c t s):OutOk c (kJ c s).2:=by
 have h1:=h.aBK hc;have hp:0<c.aJ:=by unfold Cfg.aJ;omega
 have h2:=MatI.Qf (req:=hZ c (Go.Abs.eT c s)) (rounds:=c.rounds) hp h1.gl h1.al h1.g h1.a;unfold kJ;simp only;have h3:=aDO h2.m hp (List.range c.aJ) ({Go.Abs.eT c s with g:=(lX (hZ c (Go.Abs.eT c s)) c.aJ c.rounds (Go.Abs.eT c s).g (Go.Abs.eT c s).a).g,a:=(lX (hZ c (Go.Abs.eT c s)) c.aJ c.rounds (Go.Abs.eT c s).g (Go.Abs.eT c s).a).a},[]) (OutOk.Ss c);split
 ·exact h3.app (aRY _ _)
 ·exact h3
theorem aRZ (c:Cfg)(s:NS)(i o:Nat):(iA c s i o).2.length<=1:=by
 unfold iA;split
 ·exact Nat.zero_le _
 ·simp only
  split
  ·exact Nat.zero_le _
  ·exact aUi _
theorem aDN (c:Cfg)(m:List Int): ∀(l:List Nat)(s:NS×eQ),(k9 c m l s).2.length<=l.length+s.2.length
 |[],s=>by simp[k9]
 |i::l,s=>by
  unfold k9;refine aUt (aDN c m l _) ?_;split
  ·have:=aRZ c s.1 i (m.getD i 0).toNat
   simp only[aUp,aUz];omega
  ·simp only[aUz]
   omega
theorem aR1 {c:Cfg}(hc:c.ok)(s:NS):(kJ c s).2.length<=36:=by
 have h5:=hc.by';have h3:=hc.lanes.2;have h1:=aDN c (lX (hZ c (Go.Abs.eT c s)) c.aJ c.rounds (Go.Abs.eT c s).g (Go.Abs.eT c s).a).m (List.range c.aJ) ({Go.Abs.eT c s with g:=(lX (hZ c (Go.Abs.eT c s)) c.aJ c.rounds (Go.Abs.eT c s).g (Go.Abs.eT c s).a).g,a:=(lX (hZ c (Go.Abs.eT c s)) c.aJ c.rounds (Go.Abs.eT c s).g (Go.Abs.eT c s).a).a},[]);rw[aUH] at h1;have h2:2*c.by'.length*c.lanes<=2*5*3:=Nat.mul_le_mul U h3
 unfold kJ;simp only;unfold Cfg.aJ at h1;simp only[List.length_nil] at h1;split
 ·rw[aUp,aRW]
  unfold Cfg.aJ;omega
 ·unfold Cfg.aJ
  omega
structure FS where
 n:Nat->NS
 l:Nat->List (List UInt8)
 k:Nat
structure FC where
 c:Nat->Cfg
 N:Nat
 hs:List (Int×Int)
 bag:Nat
def I0 (room:Nat)(bss:List (List UInt8))(bs:List UInt8):List (List UInt8):=if bss.length=room then bss else bss++[bs]
def Ai (C:FC)(v w:Nat):Nat:=C.hs.idxOf ((v:Int),(w:Int))
def o9 (C:FC)(v:Nat)(l:Nat->List (List UInt8))(o:Nat×List UInt8):Nat->List (List UInt8):=up1 l (Ai C v o.1) (I0 C.bag (l (Ai C v o.1)) o.2)
def o8 (C:FC)(s:FS)(v:Nat):eQ:=(kJ (C.c v) (s.n v)).2
def nO (C:FC)(s:FS)(i v:Nat):NS:=if v<i then(kJ (C.c v) (s.n v)).1 else s.n v
def sX (C:FC)(s:FS)(i:Nat):Nat->List (List UInt8):=(List.range i).foldl (λl v=>(o8 C s v).foldl (o9 C v) l) s.l
def qG (C:FC)(s:FS):FS:=⟨nO C s C.N,sX C s C.N,s.k+1⟩
def oK (C:FC)(h k:Nat)(s:FS):Nat×FS:=
 match (s.l h)[k]? with
 |none=>(1,s)
 |some b=>
  let v:=(C.hs.getD h (0,0)).2.toNat
  let r:=jQ (C.c v) (C.hs.getD h (0,0)).1 b (s.n v)
  (r.1,{s with n:=up1 s.n v r.2,l:=up1 s.l h ((s.l h).eraseIdx k)})
def qF (C:FC)(h:Nat):Nat->FS->FS
 |0,s=>s
 |q+1,s=>qF C h q (oK C h 0 s).2
def tY (C:FC):List Nat->FS->FS
 |[],s=>s
 |h::l,s=>tY C l (qF C h (s.l h).length s)
def kP (C:FC)(s:FS):FS:=tY C (List.range C.hs.length) (qG C s)
def FS.qE (C:FC):FS:=⟨λv=>NS.kZ (C.c v),λ_=>[],0⟩
end Go.Abs
noncomputable section
namespace Go.Proofs.YtciiopkbmjppfaaGreatDoor
open Go.Proofs.Tryz
open Go.Abs Go.Abs.M
variable (O:aH)(L:LV)(k:KV)(N P Q R S T U V W X Y Z a b c d e f g i j l m n o p q r s t u v w x y z A B C D E F G H I J zz zy zx zw zv zu zt zs zr zq zp zo zn zm zl zk zj zi zh zg zf ze zd zc zb za yz:Value)(rr:List Value)(h:aF)
def St:CC:=cc prog 3596 15 [1,1,0,1,0,0]
def Su:KV:=(bV 0 (cJ prog O L (cc prog 3596 15 [1,1,1]) (cS prog Tryz.f15)))
theorem aR3:Su O L (.exit 0) (aG 2 (c::d::aG 5 (l::m::n::aG 10 [])))=aM (aK [d]):=by kernel_rfl
theorem aDQ:aO prog O L St k (aG 2 (c::d::aG 5 (l::m::n::aG 10 [])))=bB prog .lss 3 n m λaa=>aN aa (bIL 1 l n λab=>bC O 39 [ab] λac=>bM (b9 22 1 1 [(.N)] [(0,ac)]) λad=>bM (app 22 1 24 d ad) λae=>bB prog .add 3 n (.I 1) λaf=>k .normal (aG 2 (c::ae::aG 5 (l::m::af::aG 10 [])))) (k (.exit 0) (aG 2 (c::d::aG 5 (l::m::n::aG 10 [])))):=by kernel_rfl
theorem aR4:aR prog O L 15 [N]=aW 0 N λaa=>bN aa λab=>L (aO prog O L St) (Su O L) (aG 2 (some (.N)::some (.N)::aG 5 (aa::ab::some (.I 0)::aG 10 []))):=by kernel_rfl
theorem aDR:aR prog O L 28 [N,P]=bC O 53 [N,P] λaa=>bX 0 aa λab=>bX 1 aa λac=>aN ac (aW 0 N λad=>bB prog .add 3 P (.I 1) λae=>bC O 54 [ad,P,ae] λaf=>bQF 0 N λag=>bT ag af λah=>aM (aK [ab,ac])) (aM (aK [ab,ac])):=by kernel_rfl
theorem aDS:aR prog O L 30 [N,P]=bC O 53 [N,P] λaa=>bX 0 aa λab=>bX 1 aa λac=>bG ac true (aX N) λad=>bG ac true (aX ab) λae=>gO ac true O 52 [ad,ae] λaf=>bP ac af (.bool false) λag=>aM (aK [ag]):=by kernel_rfl
theorem aDT:aR prog O L 36 [N,P,Q,R]=bC O 53 [N,P] λaa=>bX 0 aa λab=>bX 1 aa λac=>bO (un prog .not ac) λad=>bG ad false (aX Q) λae=>bG ad false (aP (bin prog .lss 3 ae (.I 0))) λaf=>bP ad (.bool true) af λag=>bG ag false (aX R) λah=>bG ag false (aP (bin prog .eql 5 ah (.int .u8 0))) λai=>bP ag (.bool true) ai λaj=>bG aj false (aX ab) λak=>bG aj false (aP (cX ak)) λal=>bG aj false (aP (bin prog .eql 3 al (.I 0))) λam=>bP aj (.bool true) am λan=>aN an (aM (aK [(.bool false)])) (bN ab λao=>bB prog .rem 3 Q ao λap=>bIL 1 ab ap λaq=>bB prog .xor 5 aq R λar=>bI 1 ab ap λau=>bT au ar λav=>aM (aK [(.bool true)])):=by kernel_rfl
theorem aDU:aR prog O L 39 [N]=bB prog .eql 22 N (.N) λaa=>aN aa (aM (aK [(.N)])) (bM (b9 5 1 0 [(.int .u8 0)] []) λab=>bM (app 5 1 1 ab N) λac=>aM (aK [ac])):=by kernel_rfl
theorem aR5:aR prog O L 48 [N]=bB prog .lss 3 N (.I 1) λaa=>bG aa false (aX N) λab=>bG aa false (aP (bin prog .gtr 3 ab (.I 64))) λac=>bP aa (.bool true) ac λad=>aN ad (aM (aK [(.pointer none)])) (bO (bld prog 89 [(1,N)]) λae=>bM (aZ 89 (Value.cells ae).toList .fix) λaf=>aM (aK [af])):=by kernel_rfl
theorem aDV:aR prog O L 52 [N,P]=aW 0 N λaa=>bN aa λab=>aW 1 N λac=>bB prog .eql 3 ab ac λad=>aN ad (aM (aK [(.bool false)])) (bQF 0 N λae=>bL ae λaf=>bC O 39 [P] λag=>gH λh11=>ifK (chk ((ld1 ae) h11) af&&(true)) (bM (b9 22 1 1 [(.N)] [(0,ag)]) λah=>bM (app 22 1 24 af ah) λai=>bQF 0 N λaj=>bT aj ai λak=>aM (aK [(.bool true)]))):=by kernel_rfl
theorem I4:aR prog O L 53 [N,P]=bB prog .lss 3 P (.I 0) λaa=>bG aa false (aX P) λab=>bG aa false (aX N) λac=>nX aa false 0 ac λad=>bG aa false (aP (cX ad)) λae=>bG aa false (aP (bin prog .geq 3 ab ae)) λaf=>bP aa (.bool true) af λag=>aN ag (aM (aK [(.N),(.bool false)])) (aW 0 N λah=>bIL 1 ah P λai=>aM (aK [ai,(.bool true)])):=by kernel_rfl
theorem aR6:aR prog O L 54 [N,P,Q]=bN N λaa=>bM (slc prog 1 N (some P) (some Q) (some aa)) λab=>bB prog .eql 3 P Q λac=>aN ac (aM (aK [N])) (bN N λad=>bM (slc prog 1 N none (some P) none) λae=>bM (slc prog 1 N (some Q) none none) λaf=>bM (app 22 1 24 ae af) λag=>bN ag λah=>bM (slc prog 1 ag (some ah) (some ad) none) λai=>bM (clr 1 [(.N)] ai) λaj=>aM (aK [ag])):=by kernel_rfl
end Go.Proofs.YtciiopkbmjppfaaGreatDoor
end
namespace Go.Proofs.YtciiopkbmjppfaaGreatDoor.Lk
open Go.Proofs.Tryz
open Go.Abs Go.Abs.M
theorem eBn (a:Addr)(n c:Nat):bin prog .eql 22 (.slice (some a) n c) (.N)=some (.bool false):=by
 have h:prog.underlying 22=some (.slice 5):=by kernel_rfl
 simp[bin,cL,jZ,gV,h,eqV]
theorem aR8:bin prog .eql 22 (.N) (.N)=some (.bool true):=by
 have h:prog.underlying 22=some (.slice 5):=by kernel_rfl
 simp[bin,cL,jZ,gV,h,eqV]
theorem bL (n:Int):bld prog 89 [(1,.I n)]=some (.agg #[.N,.I n]):=rfl
theorem I5:prog.cellsOf 22=1:=by kernel_rfl
theorem neRU:22≠5:=by decide
abbrev sY:=Row 22 5
section
variable {pr : eK} {H : aF} {m : Nat}
theorem aSb {n:Nat}(h:n<=1000000):eH n 1=true:=by simp[eH];omega
theorem aDZ {n:Nat}(h:n<=1000000):eH n 24=true:=by simp[eH];omega
theorem aDW (hn:pr (.func 39)=none){u:Value}{bs:List UInt8}(h:Br H u bs)(hl:bs.length<=1000000)(hm:0<m):
  ∃u' H',lvl prog pr m (.func 39) [u] H=some (u',H')/\Ext H H'/\Bo 5 H' u' bs/\ ∀b,lW u' b->H.length<=b:=by
 rcases h.aH5 with rfl|⟨b,o,n,c,rfl⟩
 ·have hb:bs=[]:=by
   rcases h with⟨h,_⟩|⟨_,_,_,_,_,_,h,_⟩
   ·exact h
   ·cases h
  refine⟨.N,H,aS hn hm ?_,Fr.dS _ _,.inl ⟨hb,.inl rfl⟩,λb hl=> ?_⟩
  ·rw[aDU]
   simp -implicitDefEqProofs only[gsB,aR8,r_opt,ob_some,iteV_true,oneOf_one]
  ·obtain⟨o,n,c,hv⟩:=hl
   cases hv
 ·have g0:b9 5 1 0 [.int .u8 0] [] H=some (.slice (some ⟨H.length,0,none⟩) 0 0,H++[.cells [] 5 .row]):=rfl
  have hold: ∀b,b<H.length->(H++[Blk.cells [] 5 .row])[b]? =H[b]? :=λb hb=>aUg hb
  have hbr:Br (H++[Blk.cells [] 5 .row]) (.slice (some ⟨b,o,none⟩) n c) bs:=by
   rcases h with h|⟨b',o',c',cs,e,k,h1,h2,h3,h4⟩
   ·exact .inl h
   ·exact .inr ⟨b',o',c',cs,e,k,h1,h2,by rw[hold _ (aUd.mp h3).1,h3],h4⟩
  obtain⟨v',H',g1,g2,g3,g4,g5⟩:=Ll (by':=1) (v:= .slice (some ⟨H.length,0,none⟩) 0 0) (n:=0) (cs:=[]) (e:=5) (sz:=1) (H:=H++[Blk.cells [] 5 .row])
   ⟨rfl,.inr ⟨H.length,0,[],rfl,aUi _,rfl,by simp⟩⟩ hbr.aH8 hbr.aH7 (by rw[aUy];exact aSb hl) (aH9 bs) aC
  simp only[aUp,aUz,List.length_nil] at g3 g4 g5;refine⟨v',H',aS hn hm ?_,⟨by omega,λb hb _=> ?_⟩,Bo.aIc (by simpa using g2),λb hl=> ?_⟩
  ·rw[aDU]
   simp -implicitDefEqProofs only[gsB,eBn,r_opt,ob_some,iteV_false,oneOf_one,g0,g1]
  ·rw[g4 b U (λ⟨o,n,c,hh⟩=>by cases hh;omega),hold b hb]
  ·obtain⟨o,n,c,hv⟩:=hl
   rcases g5 b ⟨o,_,c,hv⟩ with⟨o,n,c,hh⟩|hh
   ·cases hh
    exact aUi _
   ·omega
structure IsLink (H:aF)(a:Nat)(bss:List (List UInt8))(room:Nat)(F:Nat->Prop):Prop where
 ex: ∃v G,H[a]? =some (.cells [v,.I room] 89 .fix)/\sY H v bss G/\ ¬G a/\ ∀b,G b->F b
 at_:F a
 lt: ∀b,F b->b<H.length
 few:bss.length<=room/\room<=64
 small: ∀bs∈bss,bs.length<=100000
theorem IsLink.Aj {H':aF}{a:Nat}{bss:List (List UInt8)}{room:Nat}{F:Nat->Prop}(h:IsLink H a bss room F)(hk: ∀b,F b->H'[b]? =H[b]?)(hl:H.length<=H'.length):IsLink H' a bss room F:=by
 obtain⟨v,G,h1,h2,h3,h4⟩:=h.ex
 exact⟨⟨v,G,by rw[hk a h.at_,h1],h2.E2 (λb hb=>hk b (h4 b hb)) hl,h3,h4⟩,h.at_,λb hb=>aUs (h.lt b hb) hl,h.few,h.small⟩
theorem IsLink.aR7 {a:Nat}{bss:List (List UInt8)}{room:Nat}{F F':Nat->Prop}(h:IsLink H a bss room F)(hF: ∀b,F b->F' b)(hl: ∀b,F' b->b<H.length):IsLink H a bss room F':=by
 obtain⟨v,G,h1,h2,h3,h4⟩:=h.ex
 exact⟨⟨v,G,h1,h2,h3,λb hb=>hF b (h4 b hb)⟩,hF a h.at_,hl,h.few,h.small⟩
theorem aSa (hn:pr (.func 48)=none)(hm:0<m)(n:Nat)(h:1<=n/\n<=64): ∃H',lvl prog pr m (.func 48) [.I n] H=some (.Q H.length 0,H')/\Ext H H'/\IsLink H' H.length [] n (Nw H H'):=by
 have e1:decide ((n:Int)<1)=false:=aUY U
 have e2:decide (64<(n:Int))=false:=aUY U
 refine⟨H++[.cells [.N,.I n] 89 .fix],aS hn hm ?_,Fr.app _ _ _,⟨⟨.N,λ_=>False,by simp,Row.Xt.mpr (λb hb=>hb.elim),id,λb hb=>hb.elim⟩,⟨aUi _,by simp⟩,λb hb=>hb.2,⟨by simp,h.2⟩,by simp⟩⟩
 rw[aR5];simp -implicitDefEqProofs only[gsB,b_lss,b_gtr,e1,e2,r_opt,r_ret,ob_some,r_gdff,r_gdff2,pick_f,iteV_false,bL,x_newB,oneOf_one];rfl
theorem xX (hv:Value)(room:Nat){a:Nat}(h:H[a]? =some (.cells [hv,.I room] 89 .fix)):ld1 (.Q a 0) H=some (hv,H):=by rw[fI,h];rfl
theorem aR9 (hv:Value)(room:Nat){a:Nat}(h:H[a]? =some (.cells [hv,.I room] 89 .fix)):ld1 (.Q a 1) H=some (.I room,H):=by rw[fI,h];rfl
section
variable {a room : Nat} {bss : List (List UInt8)} {F : Nat → Prop}
theorem Sv (hn:pr (.func 53)=none)(h:IsLink H a bss room F)(hm:0<m)(i:Int)(hi:i<0∨(bss.length:Int)<=i):
  lvl prog pr m (.func 53) [.Q a 0,.I i] H=some (.tuple #[.N,.bool false],H):=by
 obtain⟨v,G,h1,h2,h3,h4⟩:=h.ex;have l0:=xX v room h1;have hl:=h2.uS;refine aS hn hm ?_;rw[I4];by_cases h0:i<0
 ·have e1:decide (i<0)=true:=aUX h0
  simp -implicitDefEqProofs only[gsB,b_lss,e1,r_opt,r_ret,ob_some,r_gdtf,r_gdtf2,r_gdu,r_gdu2,pick_t,iteV_true,oneOf_two]
 ·have e1:decide (i<0)=false:=aUY h0
  have e2:decide ((bss.length:Int)<=i)=true:=aUX U
  simp -implicitDefEqProofs only[gsB,b_lss,b_geq,e1,e2,r_nil,r_fAddr,aUy,l0,hl,r_opt,r_ret,ob_some,r_gdff,r_gdff2,pick_f,iteV_true,oneOf_two]
theorem aDX (hn:pr (.func 53)=none)(h:IsLink H a bss room F)(hm:0<m)(i:Nat){bs:List UInt8}(hi:bss[i]? =some bs):
  ∃u,lvl prog pr m (.func 53) [.Q a 0,.I i] H=some (.tuple #[u,.bool true],H)/\Bo 5 H u bs/\ ∀b,lW u b->F b:=by
 obtain⟨v,G,h1,h2,h3,h4⟩:=h.ex;have l0:=xX v room h1;have hl:=h2.uS;have hlt:=(aUd.mp hi).1;obtain⟨u,p,g1,g2,g3,g4,g5⟩:=h2.Ln hi .i64;have g6:=λb hb=>h4 b (g5 b hb)
 have e1:decide ((i:Int)<0)=false:=aUY U
 have e2:decide ((bss.length:Int)<=i)=false:=aUY U
 refine⟨u,aS hn hm ?_,g4,g6⟩;rw[I4];simp -implicitDefEqProofs only[gsB,b_lss,b_geq,e1,e2,r_nil,r_fAddr,aUy,l0,hl,r_opt,r_ret,ob_some,r_gdff,r_gdff2,pick_f,iteV_false,oneOf_two,g1,g3 H rfl]
def C9 (room:Nat)(bss:List (List UInt8))(bs:List UInt8):List (List UInt8):=if bss.length=room then bss else bss++[bs]
theorem aDY (hn:pr (.func 52)=none)(hc:pr (.func 39)=none)(h:IsLink H a bss room F)(hm:100<=m){u:Value}{bs:List UInt8}(hb:Br H u bs)(hl:bs.length<=100000):
  ∃H',lvl prog pr m (.func 52) [.Q a 0,u] H=some (.bool (decide (bss.length<room)),H')/\Fr F H H'/\IsLink H' a (C9 room bss bs) room (Up F H H'):=by
 obtain⟨v,G,h1,h2,h3,h4⟩:=h.ex;have l0:=xX v room h1;have l1:=aR9 v room h1;have hlen:=h2.uS;by_cases hf:bss.length=room
 ·have e1:((bss.length:Int)==(room:Int))=true:=by simp[hf]
  refine⟨H,aS hn U ?_,Fr.dS _ _,?_⟩
  ·rw[aDV]
   have e2:decide (bss.length<room)=false:=aUY U
   simp -implicitDefEqProofs only[gsB,r_nil,r_fAddr,aUy,l0,l1,hlen,b_eql,e1,e2,r_opt,ob_some,ifB_true,iteV_true,oneOf_one]
  ·unfold C9
   rw[if_pos hf];exact h.aR7 (λb hb=> .inl hb) λb hb=>hb.elim (h.lt b) λhx=>hx.2
 ·have hlt:bss.length<room:=by
   have:=h.few.1;omega
  have e1:((bss.length:Int)==(room:Int))=false:=by simp;omega
  have e2:decide (bss.length<room)=true:=aUX hlt;obtain⟨u',H1,c1,c2,c3,c4⟩:=aDW hc hb U (m:=m-1) U
  have ha:=h.lt a h.at_;have h1':H1[a]? =some (.cells [v,.I room] 89 .fix):=by rw[c2.2 a ha id,h1]
  have h2':sY H1 v bss G:=h2.E2 (λb hb=>c2.2 b (h2.uT b hb) id) c2.1
  have l0':=xX v room h1';have hck:chk (ld1 (.Q a 0) H1) v=true:=by
   rw[l0'];obtain⟨us,hi⟩:=h2';obtain⟨_,⟨rfl,_⟩|⟨c,cap,rest,rfl,_⟩⟩:=hi.row<;>simp[chk,veq]
  obtain⟨w,H2,v',H3,g1,g2,g3,g4,g5⟩:=h2'.Xu neRU c3 (λb hl hF=>by have:=c4 b hl;have:=h2.uT b hF;omega) (by':=24) (aDZ (by have:=h.few;omega)) (.N)
  have hH3:H3[a]? =some (.cells [v,.I room] 89 .fix):=by rw[g5.2 a (by have:=c2.1;omega) h3,h1']
  have hlt3:=(aUd.mp hH3).1;have hst:stN 1 (.Q a 0) v' H3=some (undef,H3.set a (.cells [v',.I room] 89 .fix)):=by
   obtain⟨us,hi⟩:=g4;obtain⟨_,⟨rfl,_⟩|⟨c,cap,rest,rfl,_⟩⟩:=hi.row<;>rw[fV 1 a 0 _ rfl,hH3]<;>rfl
  refine⟨H3.set a (.cells [v',.I room] 89 .fix),aS hn U ?_,⟨by have:=c2.1;have:=g5.1;simp;omega,λb hb hF=> ?_⟩,?_⟩
  ·rw[aDV]
   simp -implicitDefEqProofs only[gsB,r_nil,r_fAddr,aUy,l0,l1,hlen,b_eql,e1,e2,r_opt,ob_some,ifB_true,iteV_false,oneOf_one,c1,hck,Bool.and_true,g1,g3,hst]
  ·rw[j9 (λhx=>hF (by rw[hx];exact h.at_)),g5.2 b (by have:=c2.1;omega) (λhx=>hF (h4 b hx)),c2.2 b hb id]
  ·unfold C9
   rw[if_neg hf];have hna: ¬Up (λb=>G b∨lW u' b) H1 H3 a:=by
    rintro ((hx|hx)|hx)
    ·exact h3 hx
    ·have:=c4 a hx
     omega
    ·have:=c2.1
     omega
   refine⟨⟨v',Up (λb=>G b∨lW u' b) H1 H3,by rw[aUj hlt3],g4.E2 (λb hb=>j9 λhx=>hna (by rw[<-hx];exact hb)) (by simp),hna,λb hb=> ?_⟩,.inl h.at_,λb hb=> ?_,⟨by simp;omega,h.few.2⟩,?_⟩
   ·rcases hb with(hx|hx)|hx
    ·exact .inl (h4 b hx)
    ·exact .inr ⟨c4 b hx,by have:=g4.uT b (.inl (.inr hx));simpa using this⟩
    ·exact .inr ⟨by have:=c2.1;omega,by simpa using hx.2⟩
   ·rcases hb with hb|hb
    ·have:=h.lt b hb
     have:=c2.1;have:=g5.1;simp;omega
    ·exact hb.2
   ·intro x hx
    rcases List.mem_append.mp hx with hx|hx
    ·exact h.small x hx
    ·rw[List.mem_singleton] at hx
     subst hx;exact hl
end
end
section
variable {pr : eK} {H : aF} {m : Nat}
theorem aSd (hn:pr (.func 54)=none)(hm:0<m){v:Value}{n:Nat}{cs:List Value}(h:RowC 22 1 H v n cs){i:Nat}(hi:i<n)(hall:cA cs=true):
  ∃v' H',lvl prog pr m (.func 54) [v,.I i,.I (i+1:Nat)] H=some (v',H')/\RowC 22 1 H' v' (n-1) (cs.eraseIdx i)/\(∀b,aT v' b->aT v b)/\H'.length=H.length/\ ∀b,¬aT v b->H'[b]? =H[b]? :=by
 obtain⟨hcs,⟨rfl,h0⟩|⟨c,cap,rest,rfl,hcap,hrest,hb⟩⟩:=h
 ·omega
 rw[Nat.mul_one] at hcs hrest;have hlt:=(aUd.mp hb).1;obtain⟨k,hk⟩: ∃k,n=i+1+k:=⟨n-(i+1),by omega⟩
 obtain⟨y,hy⟩: ∃y,(cs.drop i).drop k=[y]:=by
  have:((cs.drop i).drop k).length=1:=by simp;omega
  exact List.length_eq_one_iff.mp this
 have hsplit:cs++rest=cs.take i++(cs.drop i).take k++(y::rest):=by
  have h1:=List.take_append_drop i cs;have h2:=List.take_append_drop k (cs.drop i);rw[hy] at h2;rw[aUk,show y::rest=[y]++rest from rfl,<-aUk (List.take k _),h2,<-aUk,h1]
 have hb':=hb;rw[hsplit] at hb';have hv1:=oU (P:=prog) (H:=H) (o:=0) (sz:=1) hb (λ_=>I5) (len:=n) (cap:=cap) (gX 0 .i64 i) (gX n .i64 (i+1)) (gX cap .i64 n) U U hcap
 have hv4:=oU (P:=prog) (H:=H) (o:=0) (sz:=1) hb (λ_=>I5) (len:=n) (cap:=cap) (lo:=none) (mx:=none) rfl (gX n .i64 i) rfl U U (aUi _)
 have hv5:=oU (P:=prog) (H:=H) (o:=0) (sz:=1) hb (λ_=>I5) (len:=n) (cap:=cap) (hi:=none) (mx:=none) (gX 0 .i64 (i+1)) rfl rfl U hcap (aUi _)
 simp only[Nat.zero_mul,Nat.mul_one,aUy,Nat.add_zero,Nat.sub_zero] at hv1 hv4 hv5;have hnk:n-(i+1)=k:=U
 rw[hnk] at hv5;have hsrc:dY 1 (.slice (some ⟨c,i+1,none⟩) k (cap-(i+1))) k H=some (cs.drop (i+1)):=by
  unfold dY;by_cases h0:k=0
  ·have:cs.drop (i+1)=[]:=by apply List.drop_eq_nil_of_le;omega
   simp[h0,this]
  ·simp only
   rw[if_neg h0,hb];simp only;rw[if_pos ⟨aUi _,by simp;omega⟩,Nat.mul_one,List.drop_append_of_le_length U,List.take_append_of_le_length (by simp;omega),List.take_of_length_le (by simp;omega)]
 have hall':cA (cs.drop (i+1))=true:=by
  unfold cA at hall⊢;rw[aUS] at hall⊢;exact λx hx=>hall x (List.mem_of_mem_drop hx)
 have happ:=aIg (by':=24) (w:= .slice (some ⟨c,i+1,none⟩) k (cap-(i+1))) (sz:=1) (n:=i) (k:=k) (cap:=cap) hb' (by simp;omega) (by simp;omega) rfl hsrc U hall'
 obtain⟨H1,hH1⟩:=aD (H.set c (.cells (cs.take i++cs.drop (i+1)++(y::rest)) 22 .row));rw[<-hH1] at happ;have hb1:H1[c]? =some (.cells (cs.take i++cs.drop (i+1)++(y::rest)) 22 .row):=by rw[hH1,aUj hlt]
 have hv8:=oU (P:=prog) (H:=H1) (o:=0) (sz:=1) hb1 (λ_=>I5) (len:=i+k) (cap:=cap) (mx:=none) (gX 0 .i64 (i+k)) (gX (i+k) .i64 n) rfl U hcap (aUi _)
 simp only[Nat.mul_one,aUy] at hv8;have hn1:n-(i+k)=1:=U
 rw[hn1] at hv8;have hplen:(cs.take i++cs.drop (i+1)).length=i+k:=by simp;omega
 have hclr:clr 1 [.N] (.slice (some ⟨c,i+k,none⟩) 1 (cap-(i+k))) H1=some (.tuple #[],H1.set c (.cells (cs.take i++cs.drop (i+1)++(.N::rest)) 22 .row)):=by
  have:=sD [.N] [y] (cs.take i++cs.drop (i+1)) rest rfl;rw[hplen] at this;unfold clr;simp only;rw[if_neg aC,hb1]
  simp only;rw[if_pos ⟨by decide,by rw[aUp,hplen];simp,rfl,rfl⟩]
  simp only[List.replicate,aUN,List.flatten_nil,List.append_nil];rw[show y::rest=[y]++rest from rfl,<-aUk,this]
  simp
 have e1:((i:Int)==((i+1:Nat):Int))=false:=by simp;omega
 refine⟨.slice (some ⟨c,0,none⟩) (i+k) cap,H1.set c (.cells (cs.take i++cs.drop (i+1)++(.N::rest)) 22 .row),aS hn hm ?_,⟨?_,.inr ⟨c,cap,.N::rest,by congr 1;omega,by omega,by simp;omega,?_⟩⟩,?_,by rw[hH1];simp,?_⟩
 ·rw[aR6]
  simp -implicitDefEqProofs only[gsB,tI,hv1,hv4,hv5,hv8,happ,hclr,b_eql,e1,r_opt,ob_some,ifB_true,iteV_false,oneOf_one]
 ·rw[List.eraseIdx_eq_take_drop_succ,hplen];omega
 ·rw[aUj (by rw[hH1];simpa using hlt),List.eraseIdx_eq_take_drop_succ]
 ·rintro b ⟨o,n',c',hh⟩
  cases hh
  exact⟨0,n,cap,rfl⟩
 ·intro b hh
  have hne:b≠c:=λhx=>hh ⟨0,n,cap,by rw[hx]⟩
  rw[j9 hne,hH1,j9 hne]
section
variable {a room : Nat} {bss : List (List UInt8)} {F : Nat → Prop}
theorem Sx (hn:pr (.func 28)=none)(ha:pr (.func 53)=none)(h:IsLink H a bss room F)(hm:100<=m)(i:Int)(hi:i<0∨(bss.length:Int)<=i):
  lvl prog pr m (.func 28) [.Q a 0,.I i] H=some (.tuple #[.N,.bool false],H):=by
 have g:=Sv ha h (m:=m-1) U i hi
 refine aS hn U ?_
 rw[aDR];simp -implicitDefEqProofs only[gsB,g,r_opt,ob_some,ext_0,ext_1,iteV_false,oneOf_two]
theorem aSg (hn:pr (.func 30)=none)(ha:pr (.func 53)=none)(h:IsLink H a bss room F)(hm:100<=m)(i:Int)(hi:i<0∨(bss.length:Int)<=i):
  lvl prog pr m (.func 30) [.Q a 0,.I i] H=some (.bool false,H):=by
 have g:=Sv ha h (m:=m-1) U i hi
 refine aS hn U ?_
 rw[aDS];simp -implicitDefEqProofs only[gsB,g,r_opt,r_ret,ob_some,ext_0,ext_1,r_gdft,r_gdft2,pick_f,iteV_false,oneOf_one]
theorem aSh (hn:pr (.func 30)=none)(ha:pr (.func 53)=none)(hs:pr (.func 52)=none)(hc:pr (.func 39)=none)(h:IsLink H a bss room F)(hm:200<=m)(i:Nat){bs:List UInt8}(hi:bss[i]? =some bs):
  ∃H',lvl prog pr m (.func 30) [.Q a 0,.I i] H=some (.bool (decide (bss.length<room)),H')/\Fr F H H'/\IsLink H' a (C9 room bss bs) room (Up F H H'):=by
 obtain⟨u,g1,g2,g3⟩:=aDX ha h (m:=m-1) U i hi
 obtain⟨H',c1,c2,c3⟩:=aDY hs hc h (m:=m-1) U g2.Bm (h.small _ (aUn hi))
 refine⟨H',aS hn U ?_,c2,c3⟩
 rw[aDS];simp -implicitDefEqProofs only[gsB,g1,c1,r_opt,r_ret,ob_some,ext_0,ext_1,r_gdt,r_gdt2,pick_t,oneOf_one]
theorem aD0 (hn:pr (.func 28)=none)(ha:pr (.func 53)=none)(hd:pr (.func 54)=none)(h:IsLink H a bss room F)(hm:100<=m)(i:Nat){bs:List UInt8}(hi:bss[i]? =some bs):
  ∃u H',lvl prog pr m (.func 28) [.Q a 0,.I i] H=some (.tuple #[u,.bool true],H')/\Fr F H H'/\IsLink H' a (bss.eraseIdx i) room F/\Bo 5 H' u bs/\H'.length=H.length/\ ∀c,lW u c->F c:=by
 obtain⟨v,G,h1,h2,h3,h4⟩:=h.ex;obtain⟨us,hr⟩:=h2;have hlt:i<us.length:=by
  have:=(aUd.mp hi).1;have:=hr.len;omega
 have hu:us[i]? =some us[i]:=aUf hlt;obtain⟨p,k1,k2,k3⟩:=hr.row.Li i .i64 hlt;have k3':=k3 H rfl 0 aC
 simp only[Nat.mul_one,Nat.add_zero] at k1 k3';rw[hu,rU] at k3';have l0:=xX v room h1;have hlen:=hr.row.Lj;have e1:decide ((i:Int)<0)=false:=aUY U
 have e2:decide ((us.length:Int)<=i)=false:=aUY U
 have g:lvl prog pr (m-1) (.func 53) [.Q a 0,.I i] H=some (.tuple #[us[i],.bool true],H):=by
  refine aS ha U ?_
  rw[I4];simp -implicitDefEqProofs only[gsB,b_lss,b_geq,e1,e2,r_nil,r_fAddr,aUy,l0,hlen,r_opt,r_ret,ob_some,r_gdff,r_gdff2,pick_f,iteV_false,oneOf_two,k1,k3']
 have hall:cA us=true:=by
  unfold cA;rw[aUS];intro x hx;obtain⟨j,hj⟩:=List.getElem?_of_mem hx;have hjl:=(aUd.mp hj).1;have:=hr.len;have:=(hr.bo j x bss[j] hj (aUf U)).Lm
  simpa[cA] using this
 obtain⟨v',H',d1,d2,d3,d4,d5⟩:=aSd hd (m:=m-1) U hr.row hlt hall
 have hna: ¬aT v a:=λhh=>h3 (hr.hv a hh)
 have hwrap:IntKind.i64.wrap ((i:Int)+1)=((i+1:Nat):Int):=by
  have:=h.few;have:=hr.len;rw[bJ U U]
  omega
 have hH':H'[a]? =some (.cells [v,.I room] 89 .fix):=by rw[d5 a hna,h1]
 have hst:stN 1 (.Q a 0) v' H'=some (undef,H'.set a (.cells [v',.I room] 89 .fix)):=by
  obtain⟨_,⟨rfl,_⟩|⟨c,cap,rest,rfl,_⟩⟩:=d2<;>rw[fV 1 a 0 _ rfl,hH']<;>rfl
 have hr':RowI 22 5 H' v' (us.eraseIdx i) (bss.eraseIdx i) G:=by
  refine hr.aIf neRU (by rw[List.length_eraseIdx_of_lt hlt];exact d2) ?_ d4 d3 d5 (List.eraseIdx_sublist _ _) λj u bs hu hb=> ?_
  ·have:=hr.len
   rw[List.length_eraseIdx_of_lt hlt,List.length_eraseIdx_of_lt U]
   omega
  ·rw[List.getElem?_eraseIdx] at hu hb
   by_cases hj:j<i
   ·rw[if_pos hj] at hu hb
    exact⟨j,hu,hb⟩
   ·rw[if_neg hj] at hu hb
    exact⟨j+1,hu,hb⟩
 have keep: ∀b,b≠a->(H'.set a (.cells [v',.I room] 89 .fix))[b]? =H'[b]? :=λb hb=>j9 hb
 have hGa: ∀b,G b->b≠a:=λb hb hx=>h3 (by rw[<-hx];exact hb)
 refine⟨us[i],H'.set a (.cells [v',.I room] 89 .fix),aS hn U ?_,⟨by simp;omega,λb hb hF=> ?_⟩,⟨⟨v',G,?_,⟨_,hr'.Xv (λb hb=>keep b (hGa b hb)) (by simp)⟩,h3,h4⟩,h.at_,?_,⟨?_,h.few.2⟩,λx hx=>h.small x (List.mem_of_mem_eraseIdx hx)⟩,?_,by simp[d4],λc hc=>h4 c (hr.hu _ (List.getElem_mem hlt) c hc)⟩
 ·rw[aDR]
  simp -implicitDefEqProofs only[gsB,g,r_opt,ob_some,ext_0,ext_1,iteV_true,oneOf_two,r_nil,r_fAddr,aUy,l0,aV,hwrap,d1,hst]
 ·rw[keep b (λhx=>hF (by rw[hx];exact h.at_)),d5 b (λhh=>hF (h4 b (hr.hv b hh)))]
 ·exact aUj (aUd.mp hH').1
 ·intro b hb
  simp[d4];exact h.lt b hb
 ·have:=h.few.1
  have:=(aUd.mp hi).1;rw[List.length_eraseIdx_of_lt this];omega
 ·have hm:=List.getElem_mem hlt
  refine(hr.bo i _ bs hu hi).wI λb hl=> ?_
  rw[keep b (hGa b (hr.hu _ hm b hl)),d5 b λhh=>hr.E3 neRU hh hm hl]
def I6 (bs:List UInt8)(at_:Nat)(x:UInt8):List UInt8:=bs.set (at_%bs.length) (bs.getD (at_%bs.length) 0^^^x)
theorem aSe (hn:pr (.func 36)=none)(ha:pr (.func 53)=none)(h:IsLink H a bss room F)(hm:100<=m)(i at_:Int)(x:UInt8)(hi:i<0∨(bss.length:Int)<=i∨at_<0∨x=0∨bss[i.toNat]? =some []):
  lvl prog pr m (.func 36) [.Q a 0,.I i,.I at_,.int .u8 x.toNat] H=some (.bool false,H):=by
 refine aS hn U ?_
 rw[aDT];by_cases hr:i<0∨(bss.length:Int)<=i
 ·have g:=Sv ha h (m:=m-1) U i hr
  simp -implicitDefEqProofs only[gsB,g,r_opt,r_ret,ob_some,ext_0,ext_1,u_not,Bool.not_false,r_gdtf,r_gdtf2,r_gdu,r_gdu2,pick_t,iteV_true,oneOf_one]
 ·obtain⟨j,rfl⟩: ∃j:Nat,i=j:=⟨i.toNat,by omega⟩
  have hj:bss[j]? =some bss[j]:=aUf U
  obtain⟨u,g,g2,g3⟩:=aDX ha h (m:=m-1) U j hj
  have hlen:=g2.Bm.Lh;by_cases h1:at_<0
  ·have e1:decide (at_<0)=true:=aUX h1
   simp -implicitDefEqProofs only[gsB,g,r_opt,r_ret,ob_some,ext_0,ext_1,u_not,Bool.not_true,r_gdff,r_gdff2,b_lss,e1,r_gdtf,r_gdtf2,r_gdu,r_gdu2,pick_f,pick_t,iteV_true,oneOf_one]
  ·have e1:decide (at_<0)=false:=aUY h1
   by_cases h2:x=0
   ·have e2:(((x.toNat:Nat):Int)==0)=true:=by subst h2;rfl
    simp -implicitDefEqProofs only[gsB,g,r_opt,r_ret,ob_some,ext_0,ext_1,u_not,Bool.not_true,r_gdff,r_gdff2,b_lss,b_eql,e1,e2,r_gdtf,r_gdtf2,r_gdu,r_gdu2,pick_f,pick_t,iteV_true,oneOf_one]
   ·have e2:(((x.toNat:Nat):Int)==0)=false:=by
     have:x.toNat≠0:=λh0=>h2 (by apply UInt8.toNat_inj.mp;exact h0)
     simp;exact this
    have h4:bss[j]=[]:=by
     rcases hi with hi|hi|hi|hi|hi
     ·exact absurd (.inl hi) hr
     ·exact absurd (.inr hi) hr
     ·exact absurd hi h1
     ·exact absurd hi h2
     ·rw[aUF,hj] at hi
      exact aUP hi
    rw[h4] at hlen;have e3:((([]:List UInt8).length:Int)==0)=true:=rfl;simp -implicitDefEqProofs only[gsB,g,r_opt,r_ret,ob_some,ext_0,ext_1,u_not,Bool.not_true,r_gdff,r_gdff2,b_lss,b_eql,e1,e2,e3,hlen,r_gdtf,r_gdtf2,r_gdu,r_gdu2,pick_f,pick_t,iteV_true,oneOf_one]
theorem aSf (hn:pr (.func 36)=none)(ha:pr (.func 53)=none)(h:IsLink H a bss room F)(hm:100<=m)(i at_:Nat)(x:UInt8){bs:List UInt8}(hi:bss[i]? =some bs)(hx:x≠0)(hb:bs≠[]):
  ∃H',lvl prog pr m (.func 36) [.Q a 0,.I i,.I at_,.int .u8 x.toNat] H=some (.bool true,H')/\Fr F H H'/\IsLink H' a (bss.set i (I6 bs at_ x)) room F/\H'.length=H.length:=by
 obtain⟨v,G,h1,h2,h3,h4⟩:=h.ex;have hpos:0<bs.length:=List.length_pos_iff.mpr hb;have hj:at_%bs.length<bs.length:=Nat.mod_lt _ hpos;have hjx:bs[at_%bs.length]? =some (bs.getD (at_%bs.length) 0):=by
  rw[aUh,aUf hj];rfl
 obtain⟨u,p,b,o,H',k1,k2,k3,k4,k5,k6,k7,k8⟩:=h2.aId neRU hi hj .i64 (bs.getD (at_%bs.length) 0^^^x);have l0:=xX v room h1;have hlen:=h2.uS;have hlt:=(aUd.mp hi).1;have e1:decide ((i:Int)<0)=false:=aUY U
 have e2:decide ((bss.length:Int)<=i)=false:=aUY U
 have g:lvl prog pr (m-1) (.func 53) [.Q a 0,.I i] H=some (.tuple #[u,.bool true],H):=by
  refine aS ha U ?_
  rw[I4];simp -implicitDefEqProofs only[gsB,b_lss,b_geq,e1,e2,r_nil,r_fAddr,aUy,l0,hlen,r_opt,r_ret,ob_some,r_gdff,r_gdff2,pick_f,iteV_false,oneOf_two,k1,k2 H rfl]
 have hul:=k3.Bm.Lh;obtain⟨b',o',q1,q2⟩:=k3.Bm.Xo hjx .i64;rw[k4] at q1;cases q1;have e3:decide ((at_:Int)<0)=false:=aUY U
 have e4:(((x.toNat:Nat):Int)==0)=false:=by
  have:x.toNat≠0:=λh0=>hx (by apply UInt8.toNat_inj.mp;exact h0)
  simp;exact this
 have e5:((bs.length:Int)==0)=false:=by simp;exact hb
 have e6:((at_:Int)).tmod bs.length=((at_%bs.length:Nat):Int):=by rw[Int.tmod_eq_emod_of_nonneg U];omega
 have r1:=Bd (P:=prog) 3 .i64 (at_:Int) bs.length U
 rw[e6] at r1;refine⟨H',aS hn U ?_,k8.zG h4,⟨⟨v,G,by rw[k8.2 a (h.lt a h.at_) h3,h1],k7,h3,h4⟩,h.at_,λb hb=>by rw[k6];exact h.lt b hb,by simpa using h.few,λy hy=> ?_⟩,k6⟩
 ·rw[aDT]
  have e7:=aIa (P:=prog) 5 (bs.getD (at_%bs.length) 0) x;have e8:Value.int .u8 x.toNat=dF x:=rfl;have e9:bin prog .eql 5 (dF x) (.int .u8 0)=some (.bool false):=by
   unfold dF;rw[b_eql,e4]
  simp -implicitDefEqProofs only[gsB,g,r_opt,r_ret,ob_some,ext_0,ext_1,u_not,Bool.not_true,r_gdff,r_gdff2,b_lss,b_eql,e3,e4,e5,hul,pick_f,iteV_false,oneOf_one,r1,k4,q2,e8,e9,e7,k5]
 ·rcases List.mem_or_eq_of_mem_set hy with hy|rfl
  ·exact h.small y hy
  ·unfold I6
   rw[List.length_set];exact h.small bs (aUn hi)
end
section
variable (H0 : aF) (w : Value) (bss : List (List UInt8)) (G : Nat → Prop)
theorem aSc (hc:pr (.func 39)=none)(h2:sY H0 w bss G)(hl:bss.length<=100000)(hsm: ∀bs∈bss,bs.length<=100000): ∀(r i k:Nat)(H:aF)(o:Value),bss.length-i=r->i<=bss.length->r<k->0<m->Ext H0 H->sY H o (bss.take i) (Nw H0 H)-> ∀(x2:Value),
  ∃v H',aL k (aO prog (lvl prog pr m) (aL m) St) (Su (lvl prog pr m) (aL m)) (aG 2 (x2::o::aG 5 (w::some (.I (bss.length:Nat))::some (.I (i:Nat))::aG 10 []))) H=some (v,H')/\Ext H0 H'/\sY H' v bss (Nw H0 H'):=by
 intro r;induction r with
 |zero=>
  intro i k H o hr hi hk hm hE hO;intros;obtain⟨k,rfl⟩:=aB k U
  obtain rfl:i=bss.length:=U
  have e:decide ((bss.length:Int)<bss.length)=false:=by simp
  refine⟨o,H,?_,hE,by rw[List.take_length] at hO;exact hO⟩
  rw[bS,aDQ];simp -implicitDefEqProofs only[gsB,b_lss,e,r_opt,ob_some,iteV_false,again_exit];rw[aR3];simp -implicitDefEqProofs only[gsB,oneOf_one]
 |succ r ih=>
  intro i k H o hr hi hk hm hE hO;intros;obtain⟨k,rfl⟩:=aB k U
  have e:decide ((i:Int)<bss.length)=true:=by simp;omega
  have hb:bss[i]? =some bss[i]:=aUf U
  obtain⟨u,p,g1,g2,g3,g4,g5⟩:=h2.Ln hb .i64;have hld:=g3 H (hE.2 p (h2.uT p g2) id);have hub:Br H u bss[i]:=g4.Bm.aH6 λb hl=>hE.2 b (h2.uT b (g5 b hl)) id
  obtain⟨u',H1,c1,c2,c3,c4⟩:=aDW hc hub (by have:=hsm _ (List.getElem_mem (show i<bss.length by omega));omega) hm
  have hO1:sY H1 o (bss.take i) (Nw H0 H):=hO.E2 (λb hb=>c2.2 b hb.2 id) c2.1
  have htl:(bss.take i).length=i:=by simp;omega
  obtain⟨w',H2,v',H3,p1,p2,p3,p4,p5⟩:=hO1.Xu neRU c3 (λb hl hF=>by have:=c4 b hl;have:=hF.2;omega) (by':=24) (aDZ (by rw[htl];omega)) (.N)
  have e3:=aA (i:=i) U
  have hE3:Ext H0 H3:=⟨by have:=hE.1;have:=c2.1;have:=p5.1;omega,λb hb _=>by
   rw[p5.2 b (by have:=hE.1;have:=c2.1;omega) (λhx=>by have:=hx.1;omega),c2.2 b (by have:=hE.1;omega) id,hE.2 b hb id]⟩
  have htk:bss.take i++[bss[i]]=bss.take (i+1):=by rw[List.take_add_one,hb];rfl
  rw[htk] at p4;have hO3:sY H3 v' (bss.take (i+1)) (Nw H0 H3):=p4.aIe (λb hb=>by
   have h1:=hE.1;have h2:=c2.1;have h3:=p5.1;rcases hb with(hb|hb)|hb
   ·exact⟨hb.1,by have:=hb.2;omega⟩
   ·obtain⟨cs,hcs⟩:=c3.Lg b hb
    have:=(aUd.mp hcs).1
    exact⟨by have:=c4 b hb;omega,by omega⟩
   ·exact⟨by have:=hb.1;omega,hb.2⟩) (λb hb=>hb.2)
  rw[bS,aDQ];simp -implicitDefEqProofs only[gsB,b_lss,e,r_opt,ob_some,iteV_true,g1,hld,c1,p1,p3,aV,e3,again_normal];exact ih (i+1) k H3 v' U U U hm hE3 hO3 ..
end
theorem Sw {a room:Nat}{bss:List (List UInt8)}{F:Nat->Prop}(hn:pr (.func 15)=none)(hc:pr (.func 39)=none)(h:IsLink H a bss room F)(hm:100<=m):
  ∃v H',lvl prog pr m (.func 15) [.Q a 0] H=some (v,H')/\Ext H H'/\sY H' v bss (Nw H H'):=by
 obtain⟨v,G,h1,h2,h3,h4⟩:=h.ex;have l0:=xX v room h1;have hlen:=h2.uS;have hf:=h.few;obtain⟨v',H',g1,g2,g3⟩:=aSc (pr:=pr) (m:=m-1) H v bss G hc h2 U h.small bss.length 0 (m-1) H (.N) U U U U (Fr.dS _ _) (Row.Xt.mpr λb hb=>hb.2)
  (.N)
 refine⟨v',H',aS hn U ?_,g2,g3⟩
 rw[aR4];simp -implicitDefEqProofs only[gsB,r_nil,r_fAddr,aUy,l0,hlen,r_opt,ob_some];exact g1
end
end Go.Proofs.YtciiopkbmjppfaaGreatDoor.Lk
namespace Go.Proofs.YtciiopkbmjppfaaGreatDoor
open Go.Proofs.Tryz
open Go.Abs Go.Abs.M
open Classical
def nP (p:PlanD)(ev wv nv hv ns:Value)(mb k:Nat):List Value:=plC p ev wv nv++[hv,ns,.map (some mb),.I (k:Nat)]
structure FL where
 fb:Nat
 hv:Value
 ns:Value
 mb:Nat
 y:Nat->Lay
 lb:Nat->Nat
inductive FP where
 |nd (v:Nat)|lk (h:Nat)|fb|cs
def bH (p:PlanD):FC:=⟨cT p,p.nodes.toNat,aU p,p.bag.toNat⟩
def lkF (p:PlanD)(a:FL)(j:Nat)(e:Ed):Option Value:=if(aU p).idxOf e<j then some (pt (a.lb ((aU p).idxOf e))) else none
structure OwnF (H0 H:aF)(O:FP->Nat->Prop):Prop where
 dis: ∀i j b,O i b->O j b->i=j
 lt: ∀i b,O i b->b<H.length
 old: ∀i b,O i b->H0.length<=b
 ext:Ext H0 H
structure FCst (H:aF)(O:FP->Nat->Prop)(a:FL)(p:PlanD)(ev wv nv:Value)(k n j:Nat):Prop where
 fab:H[a.fb]? =some (.cells (nP p ev wv nv a.hv a.ns a.mb k) 87 .fix)
 fabO:O .fb a.fb
 hops:Hw H a.hv (aU p)
 hopsO: ∀b,aT a.hv b->O .cs b
 nds:Rw ptC 72 1 H a.ns ((List.range n).map λv=>some ⟨(a.y v).nb,0,none⟩)
 ndsO: ∀b,aT a.ns b->O .cs b
 mp:IsMap edV H a.mb (lkF p a j)
 mpO:O .cs a.mb
structure FabG (H0 H:aF)(O:FP->Nat->Prop)(a:FL)(F:Nat->Part->Nat->Prop)(p:PlanD)(ev wv nv:Value)(t:Nat)(s:FS)(n j:Nat):Prop where
 ok:dT p=true
 pv:PV H0 p ev wv nv
 own:OwnF H0 H O
 cst:FCst H O a p ev wv nv s.k n j
 node: ∀v,v<n->NodeAt H0 H (F v) (a.y v) p ev wv nv (cT p v) t (s.n v)
 nodeO: ∀v,v<n-> ∀b,Un (F v) b->O (.nd v) b
 link: ∀h,h<j->Lk.IsLink H (a.lb h) (s.l h) p.bag.toNat (O (.lk h))
abbrev cW (H0 H:aF)(O:FP->Nat->Prop)(a:FL)(F:Nat->Part->Nat->Prop)(p:PlanD)(ev wv nv:Value)(t:Nat)(s:FS):Prop:=FabG H0 H O a F p ev wv nv t s p.nodes.toNat (aU p).length
section
variable {H0 H H' : aF} {O : FP → Nat → Prop} {a : FL} {F : Nat → Part → Nat → Prop} {p : PlanD} {ev wv nv : Value} {t : Nat} {s : FS} {m : Nat}
theorem OwnF.Dc (h:OwnF H0 H O)(i:FP){X X':Nat->Prop}(hX: ∀b,X b->O i b)(hm:Mv X X' H H')(hl: ∀b,X' b->b<H'.length):
  OwnF H0 H' (updI O i X')/\ ∀j,j≠i-> ∀b,O j b-> ¬X b/\H'[b]? =H[b]? :=by
 have key: ∀j,j≠i-> ∀b,O j b-> ¬X b:=λj hj b hb hx=>hj (h.dis j i b hb (hX b hx))
 have k2: ∀j,j≠i-> ∀b,O j b-> ¬X' b:=λj hj b hb hx=>(hm.own b hx).elim (key j hj b hb) λhl=>by have:=h.lt j b hb;omega
 refine⟨⟨λj k b hj hk=> ?_,λj b hj=> ?_,λj b hj=> ?_,⟨aUt h.ext.1 hm.le,λb hb _=> ?_⟩⟩,λj hj b hb=>⟨key j hj b hb,hm.keep b (h.lt j b hb) (key j hj b hb)⟩⟩
 ·by_cases hji:j=i
  ·by_cases hki:k=i
   ·rw[hji,hki]
   ·rw[hji,eY] at hj
    rw[cM _ _ hki] at hk;exact absurd hj (k2 k hki b hk)
  ·rw[cM _ _ hji] at hj
   by_cases hki:k=i
   ·rw[hki,eY] at hk
    exact absurd hk (k2 j hji b hj)
   ·rw[cM _ _ hki] at hk
    exact h.dis j k b hj hk
 ·by_cases hji:j=i
  ·rw[hji,eY] at hj
   exact hl b hj
  ·rw[cM _ _ hji] at hj
   exact aUs (h.lt j b hj) hm.le
 ·by_cases hji:j=i
  ·rw[hji,eY] at hj
   exact(hm.own b hj).elim (λhx=>h.old i b (hX b hx)) λhl=>aUt h.ext.1 hl
  ·rw[cM _ _ hji] at hj
   exact h.old j b hj
 ·rw[hm.keep b (aUs hb h.ext.1) (λhx=>by have:=h.old i b (hX b hx);omega),h.ext.2 b hb id]
theorem FCst.Sy {O':FP->Nat->Prop}{k n j:Nat}(h:FCst H O a p ev wv nv k n j)(h1: ∀b,O .fb b->H'[b]? =H[b]? /\O' .fb b)(h2: ∀b,O .cs b->H'[b]? =H[b]? /\O' .cs b):FCst H' O' a p ev wv nv k n j where
 fab:=by rw[(h1 _ h.fabO).1,h.fab]
 fabO:=(h1 _ h.fabO).2
 hops:=h.hops.cZ λb hb=>(h2 b (h.hopsO b hb)).1
 hopsO:=λb hb=>(h2 b (h.hopsO b hb)).2
 nds:=h.nds.cZ λb hb=>(h2 b (h.ndsO b hb)).1
 ndsO:=λb hb=>(h2 b (h.ndsO b hb)).2
 mp:=h.mp.xL (h2 _ h.mpO).1
 mpO:=(h2 _ h.mpO).2
theorem NodeAt.Sz {F:Part->Nat->Prop}{y:Lay}{c:Cfg}{t t':Nat}{s:NS}(h:NodeAt H0 H F y p ev wv nv c t s)(ht:t<=t'):NodeAt H0 H F y p ev wv nv c t' s:={h with inv:=h.inv.oH ht}
theorem FabG.nd (h:cW H0 H O a F p ev wv nv t s){v:Nat}(hv:v<p.nodes.toNat){F':Part->Nat->Prop}{t':Nat}{s':NS}(ht:t<=t')(hn:NodeAt H0 H' F' (a.y v) p ev wv nv (cT p v) t' s')(hm:Mv (Un (F v)) (Un F') H H'):
  cW H0 H' (updI O (.nd v) (Un F')) a (up1 F v F') p ev wv nv t' {s with n:=up1 s.n v s'}:=by
 obtain⟨h1,h2⟩:=h.own.Dc (.nd v) (h.nodeO v hv) hm hn.sep.oB;have hk: ∀j,j≠ .nd v-> ∀b,O j b->H'[b]? =H[b]? /\updI O (.nd v) (Un F') j b:=λj hj b hb=>⟨(h2 j hj b hb).2,by rw[cM _ _ hj];exact hb⟩
 refine⟨h.ok,h.pv,h1,h.cst.Sy (hk _ (by simp)) (hk _ (by simp)),λw hw=> ?_,λw hw b hb=> ?_,λk hk'=> ?_⟩
 ·by_cases hwv:w=v
  ·subst hwv
   simp only[up1,if_pos];exact hn
  ·have hne:FP.nd w≠ .nd v:=λhh=>hwv (by injection hh)
   simp only[up1,if_neg hwv]
   exact(NodeAt.aDu (h.node w hw) h1.ext hm λb hb=>(h2 _ hne b (h.nodeO w hw b hb)).1).1.Sz ht
 ·by_cases hwv:w=v
  ·subst hwv
   rw[eY];simpa only[up1,if_pos] using hb
  ·simp only[up1,if_neg hwv] at hb
   rw[cM _ _ λhh=>hwv (by injection hh)]
   exact h.nodeO w hw b hb
 ·rw[cM _ _ (by simp)]
  exact(h.link k hk').Aj (λb hb=>(h2 (.lk k) (by simp) b hb).2) hm.le
theorem FabG.lk (h:cW H0 H O a F p ev wv nv t s){k:Nat}(hk:k<(aU p).length){G':Nat->Prop}{l':List (List UInt8)}(hl:Lk.IsLink H' (a.lb k) l' p.bag.toNat G')(hm:Mv (O (.lk k)) G' H H'):
  cW H0 H' (updI O (.lk k) G') a F p ev wv nv t {s with l:=up1 s.l k l'}:=by
 obtain⟨h1,h2⟩:=h.own.Dc (.lk k) (λ_ hb=>hb) hm hl.lt
 have hkk: ∀j,j≠ .lk k-> ∀b,O j b->H'[b]? =H[b]? /\updI O (.lk k) G' j b:=λj hj b hb=>⟨(h2 j hj b hb).2,by rw[cM _ _ hj];exact hb⟩
 refine⟨h.ok,h.pv,h1,h.cst.Sy (hkk _ (by simp)) (hkk _ (by simp)),λw hw=> ?_,λw hw b hb=> ?_,λj hj=> ?_⟩
 ·exact(NodeAt.aDu (h.node w hw) h1.ext hm λb hb=>(h2 (.nd w) (by simp) b (h.nodeO w hw b hb)).1).1
 ·rw[cM _ _ (by simp)]
  exact h.nodeO w hw b hb
 ·by_cases hjk:j=k
  ·subst hjk
   simp only[up1,if_pos];rw[eY];exact hl
  ·have hne:FP.lk j≠ .lk k:=λhh=>hjk (by injection hh)
   simp only[up1,if_neg hjk];rw[cM _ _ hne]
   exact(h.link j hj).Aj (λb hb=>(h2 _ hne b hb).2) hm.le
theorem FabG.Db {n j:Nat}(h:FabG H0 H O a F p ev wv nv t s n j)(hl:H.length<=H'.length)(hk: ∀i b,O i b->H'[b]? =H[b]?)(he:Ext H0 H'):FabG H0 H' O a F p ev wv nv t s n j:=by
 refine⟨h.ok,h.pv,⟨h.own.dis,λi b hb=>aUs (h.own.lt i b hb) hl,h.own.old,he⟩,h.cst.Sy (λb hb=>⟨hk _ b hb,hb⟩) (λb hb=>⟨hk _ b hb,hb⟩),λw hw=> ?_,h.nodeO,λj hj=>(h.link j hj).Aj (λb hb=>hk _ b hb) hl⟩
 have hn:=h.node w hw;exact {hn with ext:=he,sep:=⟨λi=>(hn.sep.own i).E7 (tU _ _ _ _ _ _ _ i) hl λb hb=>hk _ b (h.nodeO w hw b ⟨i,hb⟩),hn.sep.sep⟩}
theorem FabG.dX {n j:Nat}(h:FabG H0 H O a F p ev wv nv t s n j)(he:Ext H H'):FabG H0 H' O a F p ev wv nv t s n j:=
 h.Db he.1 (λi b hb=>he.2 b (h.own.lt i b hb) id) (h.own.ext.tr he)
theorem FabG.aSi (h:cW H0 H O a F p ev wv nv t s):stN 1 (.Q a.fb 14) (.I (s.k+1:Nat)) H=some (undef,H.set a.fb (.cells (nP p ev wv nv a.hv a.ns a.mb (s.k+1)) 87 .fix))/\
  cW H0 (H.set a.fb (.cells (nP p ev wv nv a.hv a.ns a.mb (s.k+1)) 87 .fix)) O a F p ev wv nv t {s with k:=s.k+1}:=by
 have hb:=h.cst.fab;obtain⟨H',hH'⟩: ∃H',H'=H.set a.fb (.cells (nP p ev wv nv a.hv a.ns a.mb (s.k+1)) 87 .fix):=⟨_,rfl⟩;have hst:stN 1 (.Q a.fb 14) (.I (s.k+1:Nat)) H=some (undef,H'):=by rw[hH'];exact hP hb aC (by simp[nP,plC])
 have hk: ∀b,b≠a.fb->H'[b]? =H[b]? :=λb hb=>by rw[hH',aUe (λhh=>hb hh.symm)]
 have hne: ∀j,j≠ .fb-> ∀b,O j b->b≠a.fb:=λj hj b hb hh=>hj (h.own.dis j .fb b hb (by rw[hh];exact h.cst.fabO))
 have hl:H'.length=H.length:=by rw[hH',List.length_set]
 rw[<-hH'];refine⟨hst,⟨h.ok,h.pv,⟨h.own.dis,λi b hb=>by rw[hl];exact h.own.lt i b hb,h.own.old,?_⟩,?_,λw hw=> ?_,h.nodeO,λj hj=>(h.link j hj).Aj (λb hb=>hk b (hne _ (by simp) b hb)) U⟩⟩
 ·rw[hH']
  exact gM h.own.ext (h.own.old _ _ h.cst.fabO)
 ·have c:=h.cst
  exact⟨by rw[hH'];exact dN hb,c.fabO,c.hops.cZ λb hb=>hk b (hne _ (by simp) b (c.hopsO b hb)),c.hopsO,c.nds.cZ λb hb=>hk b (hne _ (by simp) b (c.ndsO b hb)),c.ndsO,c.mp.xL (hk _ (hne _ (by simp) _ c.mpO)),c.mpO⟩
 ·have hn:=h.node w hw
  exact {hn with ext:=by rw[hH'];exact gM h.own.ext (h.own.old _ _ h.cst.fabO),sep:=⟨λi=>(hn.sep.own i).E7 (tU _ _ _ _ _ _ _ i) U λb hb=>hk b (hne _ (by simp) b (h.nodeO w hw b ⟨i,hb⟩)),hn.sep.sep⟩}
end
section
variable {H0 H H' : aF} {O : FP → Nat → Prop} {a : FL} {F : Nat → Part → Nat → Prop} {p : PlanD} {ev wv nv : Value} {t : Nat} {s : FS} {m : Nat}
theorem FabG.ld (h:cW H0 H O a F p ev wv nv t s)(j:Nat)(v:Value)(hv:(nP p ev wv nv a.hv a.ns a.mb s.k)[j]? =some v):ld1 (.Q a.fb j) H=some (v,H):=bA h.cst.fab hv
theorem FabG.pA (h:cW H0 H O a F p ev wv nv t s): ∃N,OkP p N/\p.nodes.toNat=N:=by
 obtain⟨N,hN⟩:=nG h.ok
 exact⟨N,hN,by have:=hN.hn;omega⟩
def mG (p:PlanD)(a:FL)(v:Int):Value:=if 0<=v/\v<p.nodes then pt (a.y v.toNat).nb else .pointer none
def mF (p:PlanD)(a:FL)(h:Int):Value:=if 0<=h/\h<(aU p).length then pt (a.lb h.toNat) else .pointer none
theorem xY (h:cW H0 H O a F p ev wv nv t s)(hm:10<m)(v:Int):lvl prog pkN m (.func 31) [pt a.fb,.I v] H=some (mG p a v,H):=by
 obtain⟨N,hN,hNe⟩:=h.pA;have hn:=hN.hn;have l12:=h.ld 12 a.ns rfl;have hlen:=h.cst.nds.nY;rw[aUr,aUH,hNe] at hlen;have hat:lvl prog pkN (m-1) (.func 65) [a.ns,.I v] H=some (mG p a v,H):=by
  refine aS (aQ rfl) U ?_
  rw[aRJ];unfold mG;by_cases c1:v<0
  ·have d1:decide (v<0)=true:=aUX c1
   rw[if_neg U]
   simp only[gsR,d1]
  ·have d1:decide (v<0)=false:=aUY c1
   by_cases c2:(N:Int)<=v
   ·have d2:decide ((N:Int)<=v)=true:=aUX c2
    rw[if_neg U]
    simp only[gsR,d1,hlen,d2]
   ·have d2:decide ((N:Int)<=v)=false:=aUY c2
    rw[if_pos U]
    obtain⟨k,rfl⟩: ∃k:Nat,v=k:=⟨v.toNat,by omega⟩
    obtain⟨b,o,g1,_,g3⟩:=h.cst.nds.rs.dM Iu (i:=k) (x:=some ⟨(a.y k).nb,0,none⟩) (by rw[aUq,aUV U];rfl) .i64
    have l1:=(g3 H rfl).2.1 0 _ rfl;rw[Nat.add_zero] at l1;simp only[gsR,d1,hlen,d2,g1,l1,aUF]
 refine aS (aQ rfl) U ?_
 rw[aRD];simp only[gsR,l12,hat]
theorem S0:KeyC (.str [true,true]) edV:=⟨λx y=>by
 obtain⟨x1,x2⟩:=x;obtain⟨y1,y2⟩:=y;simp[edV,edC,fT,eqT,Bool.beq_eq_decide_eq,Bool.decide_and]⟩
theorem vR (h:cW H0 H O a F p ev wv nv t s)(hm:10<m)(k:Int):lvl prog pkN m (.func 14) [pt a.fb,.I k] H=some (mF p a k,H):=by
 have l11:=h.ld 11 a.hv rfl;have l13:=h.ld 13 (.map (some a.mb)) rfl;have hlen:=h.cst.hops.nY;refine aS (aQ rfl) U ?_
 rw[aRs];unfold mF;by_cases c1:k<0
 ·have d1:decide (k<0)=true:=aUX c1
  rw[if_neg U]
  simp only[gsR,d1]
 ·have d1:decide (k<0)=false:=aUY c1
  by_cases c2:((aU p).length:Int)<=k
  ·have d2:decide (((aU p).length:Int)<=k)=true:=aUX c2
   rw[if_neg U]
   simp only[gsR,d1,l11,hlen,d2]
  ·have d2:decide (((aU p).length:Int)<=k)=false:=aUY c2
   rw[if_pos U]
   obtain⟨j,rfl⟩: ∃j:Nat,k=j:=⟨k.toNat,by omega⟩
   have hj:(aU p)[j]? =some ((aU p)[j]' U):=aUf _
   obtain⟨b,o,g1,_,g3⟩:=h.cst.hops.rs.dM nF hj .i64;have l2:ldN 2 (.Q b o) H=some (edV ((aU p)[j]' U),H):=(g3 H rfl).1
   have g:=h.cst.mp.xK S0 ((aU p)[j]' U) (.pointer none)
   have hix:(aU p).idxOf ((aU p)[j]' U)=j:=by
    obtain⟨N,hN,_⟩:=h.pA;have hnd:=(qU hN).1;exact List.Nodup.idxOf_getElem hnd j U
   have hf:lkF p a (aU p).length ((aU p)[j]' U)=some (pt (a.lb j)):=by
    unfold lkF;rw[hix,if_pos U]
   rw[hf,aUG] at g;simp only[gsR,d1,l11,hlen,d2,l13,g1,l2,g,aUF]
theorem Dd (h:cW H0 H O a F p ev wv nv t s)(hm:10<m): ∃u H',lvl prog pkN m (.func 13) [pt a.fb] H=some (u,H')/\Ext H H'/\Hw H' u (aU p)/\New H u:=by
 have l11:=h.ld 11 a.hv rfl;have h36:=oC p;obtain⟨u,H',g1,g2⟩:=aRS h.cst.hops.rs U (m:=m-1) U
 refine⟨u,H',aS (aQ rfl) U ?_,g2⟩
 rw[aRr];simp only[gsR,l11,g1]
def nA (p:PlanD)(x:Pkt)(s:FS):Nat×FS:=
 if 0<=x.src/\x.src<p.nodes then let r:=oE (cT p x.src.toNat) x (s.n x.src.toNat);(r.1,{s with n:=up1 s.n x.src.toNat r.2}) else(1,s)
def Frd (O O':FP->Nat->Prop)(H H':aF):Prop:= ∀b,b<H.length->(∀i,¬O i b)->H'[b]? =H[b]? /\ ∀i,¬O' i b
theorem xZ {X X':Nat->Prop}{i:FP}(hX: ∀b,X b->O i b)(hm:Mv X X' H H'){b:Nat}(hb:b<H.length)(h: ∀j,¬O j b):H'[b]? =H[b]? /\ ∀j,¬updI O i X' j b:=by
 refine⟨hm.keep b hb λhx=>h i (hX b hx),λj hj=> ?_⟩
 by_cases hji:j=i
 ·rw[hji,eY] at hj
  exact(hm.own b hj).elim (λhx=>h i (hX b hx)) λhl=>by omega
 ·rw[cM _ _ hji] at hj
  exact h j hj
def Frz (O O':FP->Nat->Prop)(H H':aF):Prop:=H.length<=H'.length/\Frd O O' H H'
theorem Frz.tr {O' O'':FP->Nat->Prop}{H'':aF}(h:Frz O O' H H')(h':Frz O' O'' H' H''):Frz O O'' H H'':=
 ⟨aUt h.1 h'.1,λb hb ho=>by
  obtain⟨h1,h2⟩:=h.2 b hb ho;obtain⟨h3,h4⟩:=h'.2 b (aUs hb h.1) h2
  exact⟨h3.trans h1,h4⟩⟩
theorem Frz.I7 (O:FP->Nat->Prop)(H:aF):Frz O O H H:=⟨aUi _,λ_ _ ho=>⟨rfl,ho⟩⟩
theorem Frz.ext (O:FP->Nat->Prop)(h:Ext H H'):Frz O O H H':=⟨h.1,λb hb ho=>⟨h.2 b hb id,ho⟩⟩
theorem Frz.I8 {X X':Nat->Prop}{i:FP}(hX: ∀b,X b->O i b)(hm:Mv X X' H H'):Frz O (updI O i X') H H':=⟨hm.le,λ_ hb ho=>xZ hX hm hb ho⟩
theorem aD1 (h:cW H0 H O a F p ev wv nv t s)(hm:100<m)(x:Pkt)(hb:0<=x.body/\x.body<4294967296): ∃H' O' F',lvl prog pkN m (.func 23) [pt a.fb,x.cE] H=some (.int .u16 (nA p x s).1,H')/\cW H0 H' O' a F' p ev wv nv t (nA p x s).2/\Frz O O' H H':=by
 obtain⟨N,hN,hNe⟩:=h.pA;have hn:=hN.hn;obtain⟨H1,hH1⟩:=aD (H++[cO x]);have x1:Ext H H1:=by rw[hH1];exact Fr.app _ _ _
 have h1:=h.dX x1;have b1:H1[H.length]? =some (cO x):=by rw[hH1];exact cV _ _
 have e1:H++[Blk.cells (Value.cells x.cE).toList 31 .fix]=H1:=by rw[hH1];rfl
 have l0:ld1 (.Q H.length 0) H1=some (.I x.src,H1):=bA b1 rfl;have l4:ldN 4 (.Q H.length 0) H1=some (x.cE,H1):=mV b1 (aUi 4);have g:=xY h1 (m:=m-1) U x.src
 unfold nA;by_cases c:0<=x.src/\x.src<p.nodes
 ·rw[if_pos c]
  have hv:mG p a x.src=pt (a.y x.src.toNat).nb:=if_pos c;rw[hv] at g;obtain⟨H2,F2,g2,h2,m2⟩:=aQa (h1.node x.src.toNat U) (m:=m-1) U x hb
  have n1:=λa=>aDK 72 a (by kernel_rfl)
  refine⟨H2,_,_,aS (aQ rfl) U ?_,h1.nd U (aUi _) h2 m2,aUt x1.1 m2.le,λb hb ho=> ?_⟩
  ·rw[aDx]
   simp only[gsR,e1,l0,g,n1,l4,g2]
  ·have:=xZ (h1.nodeO x.src.toNat U) m2 (aUs hb x1.1) ho
   exact⟨by rw[this.1,x1.2 b hb id],this.2⟩
 ·rw[if_neg c]
  have hv:mG p a x.src= .pointer none:=if_neg c;rw[hv] at g;have n1:bin prog .neq 72 (.pointer none) (.pointer none)=some (.bool false):=by kernel_rfl
  refine⟨H1,_,_,aS (aQ rfl) U ?_,h1,x1.1,λb hb ho=>⟨x1.2 b hb id,ho⟩⟩
  rw[aDx];simp only[gsR,e1,l0,g,n1];rfl
theorem aSk (h:cW H0 H O a F p ev wv nv t s)(hm:100<m)(x:Pkt)(hb:0<=x.body/\x.body<4294967296): ∃H' O' F',lvl prog pkN m (.func 23) [pt a.fb,x.cE] H=some (.int .u16 (nA p x s).1,H')/\cW H0 H' O' a F' p ev wv nv t (nA p x s).2/\Frd O O' H H':=by
 obtain⟨H',O',F',g1,g2,g3⟩:=aD1 h hm x hb
 exact⟨H',O',F',g1,g2,g3.2⟩
def I9 (p:PlanD)(v:Int)(s:FS):List Pkt:=if 0<=v/\v<p.nodes then(s.n v.toNat).hG else []
theorem aSj (h:cW H0 H O a F p ev wv nv t s)(ht:t<1000000)(hm:100<m)(v:Int): ∃H' u,lvl prog pkN m (.func 25) [pt a.fb,.I v] H=some (u,H')/\Ext H H'/\Rw Pkt.kF 31 4 H' u (I9 p v s)/\New H u:=by
 have g:=xY h (m:=m-1) U v
 unfold I9;by_cases c:0<=v/\v<p.nodes
 ·rw[if_pos c]
  have hv:mG p a v=pt (a.y v.toNat).nb:=if_pos c;rw[hv] at g;have hn:=h.node v.toNat U
  have g2:=Re hn (m:=m-1) U
  obtain⟨w0,w1,w2,cv,hh⟩:=hn.aC7;have:=hn.inv.hG;obtain⟨H2,u,g3,g4⟩:=aPf hh (m:=m-1) U (eD (n:=1000000) aC U)
  have n1:=λa=>aDK 72 a (by kernel_rfl)
  refine dL (aQ rfl) U ⟨H2,u,?_,g4⟩
  rw[aDA];simp only[gsR,g,n1,g2,g3]
 ·rw[if_neg c]
  have hv:mG p a v= .pointer none:=if_neg c;rw[hv] at g;have n1:bin prog .neq 72 (.pointer none) (.pointer none)=some (.bool false):=by kernel_rfl
  refine dL (aQ rfl) U ⟨H,.N,?_,Fr.dS _ _,Rw.fD,New.iE _⟩
  rw[aDA];simp only[gsR,g,n1]
end
section
variable {H0 H H' : aF} {O : FP → Nat → Prop} {a : FL} {F : Nat → Part → Nat → Prop} {p : PlanD} {ev wv nv : Value} {t : Nat} {s : FS} {m : Nat}
theorem Bo.rs' {u:Value}{bs:List UInt8}(h:Bo 5 H u bs):Bs H u bs:=by
 rcases h with⟨rfl,rfl|⟨b,o,c,rfl⟩⟩|⟨b,c,rest,rfl,h2,h3⟩
 ·exact .inl ⟨rfl,rfl⟩
 ·exact .inr ⟨b,o,c,rfl,Nat.zero_le _,λhne=>absurd rfl hne⟩
 ·exact .inr ⟨b,0,c,rfl,h2.2,λ_=>⟨_,_,[],rest,rfl,λ_=>rfl,by rw[h3,sT];rfl⟩⟩
theorem Jb {X:Nat->Prop}(h:Fr X H H'):Mv X X H H':=⟨h.1,λ_ hb=> .inl hb,λb hb hx=>h.2 b hb hx⟩
theorem De {X:Nat->Prop}(h:Fr X H H'):Mv X (Up X H H') H H':=⟨h.1,λ_ hb=>hb.imp id (·.1),λb hb hx=>h.2 b hb hx⟩
theorem S4 (hok:dT p=true){k:Nat}{e:Ed}(he:(aU p)[k]? =some e): ∃v w:Nat,e=((v:Int),(w:Int))/\v<p.nodes.toNat/\w<p.nodes.toNat:=by
 obtain⟨N,hN⟩:=nG hok;have hn:=hN.hn;have hm:=aUn he;rw[(qU hN).2,u7 hN.ve hN.h6] at hm;have:=wV hN.ve hm
 exact⟨e.1.toNat,e.2.toNat,Prod.ext (by simp only;omega) (by simp only;omega),by omega,by omega⟩
theorem S2 (h:cW H0 H O a F p ev wv nv t s)(ht:t<1000000)(hm:1000<m)(k i:Nat)(hk:k<(aU p).length):
  ∃H' O' F',lvl prog pkN m (.func 35) [pt a.fb,.I (k:Nat),.I (i:Nat)] H=some (.int .u16 (oK (bH p) k i s).1,H')/\cW H0 H' O' a F' p ev wv nv (t+1) (oK (bH p) k i s).2/\Frz O O' H H':=by
 have g1:=vR h (m:=m-1) U (k:Int)
 have hv:mF p a (k:Int)=pt (a.lb k):=by
  unfold mF;rw[if_pos U,aUF]
 rw[hv] at g1;have n1:=λb=>(sW 51 b (by kernel_rfl)).1
 have hl:=h.link k hk;unfold oK;by_cases hi:i<(s.l k).length
 ·obtain⟨bs,hbs⟩: ∃bs,(s.l k)[i]? =some bs:=⟨_,aUf hi⟩
  obtain⟨u,H1,g2,f2,l2,b2,len2,lies2⟩:=Lk.aD0 (pr:=pkN) (aQ rfl) (aQ rfl) (aQ rfl) hl (m:=m-1) U i hbs
  have h1:=h.lk hk l2 (Jb f2);have he:(aU p)[k]? =some ((aU p)[k]'hk):=aUf _;obtain⟨v,w,hvw,hv1,hw1⟩:=S4 h.ok he;rw[hvw] at he;have hC:(bH p).hs.getD k (0,0)=((v:Int),(w:Int)):=by
   show(aU p).getD k (0,0)=_
   rw[aUh,he];rfl
  rw[hbs];simp only[hC,aUF];have l12:=h1.ld 12 a.ns rfl;have l11:=h1.ld 11 a.hv rfl;obtain⟨b,o,q1,_,q3⟩:=h1.cst.hops.rs.dM nF he .i64;have q4:=(q3 H1 rfl).2.1 1 _ rfl;have q5:=(q3 H1 rfl).2.1 0 _ rfl;obtain⟨b',o',r1,_,r3⟩:=h1.cst.nds.rs.dM Iu (i:=w) (x:=some ⟨(a.y w).nb,0,none⟩) (by rw[aUq,aUV hw1];rfl) .i64
  have r4:=(r3 H1 rfl).2.1 0 _ rfl;rw[Nat.add_zero] at r4;simp only at q4 q5;obtain⟨H2,F2,g3,h2,m2⟩:=aQi (h1.node w hw1) U (m:=m-1) U (v:Int) (Bo.rs' b2)
  have e0:ext 0 (.tuple #[u,.bool true])=some u:=rfl;have e1:ext 1 (.tuple #[u,.bool true])=some (.bool true):=rfl;refine⟨H2,_,_,aS (aQ rfl) U ?_,h1.nd hw1 (Nat.le_succ t) h2 m2,(Frz.I8 (i:= .lk k) (λ_ hb=>hb) (Jb f2)).tr (Frz.I8 (i:= .nd w) (h1.nodeO w hw1) m2)⟩
  rw[So];simp only[gsR,g1,n1,g2,e0,e1,l12,l11,q1,q4,q5,r1,r4,g3];rfl
 ·have hno:(s.l k)[i]? =none:=aUo U
  have g2:=Lk.Sx (pr:=pkN) (aQ rfl) (aQ rfl) hl (m:=m-1) U (i:Int) (.inr U)
  have e0:ext 0 (.tuple #[Value.N,.bool false])=some (.N):=rfl;have e1:ext 1 (.tuple #[Value.N,.bool false])=some (.bool false):=rfl;rw[hno];have hh:cW H0 H O a F p ev wv nv (t+1) s:={h with node:=λv hv=>(h.node v hv).Sz (Nat.le_succ t)}
  refine⟨H,O,F,aS (aQ rfl) U ?_,hh,Frz.I7 O H⟩
  rw[So];simp only[gsR,g1,n1,g2,e0,e1];rfl
theorem aSm (h:cW H0 H O a F p ev wv nv t s)(hm:1000<m)(k:Nat)(hk:k<(aU p).length)(i:Int)(hi:i<0):lvl prog pkN m (.func 35) [pt a.fb,.I (k:Nat),.I i] H=some (.int .u16 1,H):=by
 have g1:=vR h (m:=m-1) U (k:Int)
 have hv:mF p a (k:Int)=pt (a.lb k):=by
  unfold mF;rw[if_pos U,aUF]
 rw[hv] at g1;have n1:=λb=>(sW 51 b (by kernel_rfl)).1
 have g2:=Lk.Sx (pr:=pkN) (aQ rfl) (aQ rfl) (h.link k hk) (m:=m-1) U i (.inl hi)
 have e0:ext 0 (.tuple #[Value.N,.bool false])=some (.N):=rfl;have e1:ext 1 (.tuple #[Value.N,.bool false])=some (.bool false):=rfl;refine aS (aQ rfl) U ?_
 rw[So];simp only[gsR,g1,n1,g2,e0,e1]
theorem aSn {Oz:FP->Nat->Prop}{Hz:aF}(k i0:Nat)(hk:k<(aU p).length)(hm:2000<m){K:Ex->K (Value×aF)}{Q:aF->Value->Prop}{n:Nat}{T:Nat}{n9:Value}(hT:T<900000)
  {s':FS}(hK: ∀(H':aF)(O':FP->Nat->Prop)(F':Nat->Part->Nat->Prop),cW H0 H' O' a F' p ev wv nv (T+n) s'->Frz Oz O' Hz H'-> ∀(eG gF:Value),∃H2 u2,Sc (lvl prog pkN m) (aL m) K (pt a.fb) (.I (k:Nat)) n9 (.I (k:Nat)) eG gF H'=some (u2,H2)/\Q H2 u2)(hn:n<=64):
  ∀(q i l:Nat)(H:aF)(O:FP->Nat->Prop)(F:Nat->Part->Nat->Prop)(s:FS),n-i=q->i<=n->q<l->cW H0 H O a F p ev wv nv (T+i) s->Frz Oz O Hz H->qF (bH p) k (n-i) s=s'-> ∃H2 u2,aL l (aO prog (lvl prog pkN m) (aL m) Sb) (Se (lvl prog pkN m) (aL m) K) (some (pt a.fb)::aG 1 (some (.I (k:Nat))::aG 6 (n9::some (.I (k:Nat))::aG 6 (some (.I (n:Nat))::some (.I (i:Nat))::aG 6 [])))) H=some (u2,H2)/\Q H2 u2:=by
 intro q;induction q with
 |zero=>
  intro i l H O F s hq hi hl h hz hd;intros;obtain⟨l,rfl⟩:=aB l U
  obtain rfl:i=n:=U
  have e:decide ((i:Int)<(i:Nat))=false:=by simp
  rw[Nat.sub_self] at hd;have hd:s=s':=hd;subst hd;rw[bS,aDz];simp only[gsR,e];rw[aRx];exact hK H O F h hz ..
 |succ q ih=>
  intro i l H O F s hq hi hl h hz hd;intros;obtain⟨l,rfl⟩:=aB l U
  have e:decide ((i:Int)<(n:Nat))=true:=aUX U
  have e3:=aA (i:=i) U
  obtain⟨H1,O1,F1,g1,h1,z1⟩:=S2 h U (m:=m) U k 0 hk
  simp only[show((0:Nat):Int)=0 from rfl] at g1
  have hq1:n-i=(n-(i+1))+1:=U
  rw[hq1] at hd;rw[bS,aDz];simp only[gsR,e,g1,aV,e3];exact ih (i+1) l H1 O1 F1 _ U U U h1 (hz.tr z1) hd ..
theorem FabG.Ak {t':Nat}(h:cW H0 H O a F p ev wv nv t s)(ht:t<=t'):cW H0 H O a F p ev wv nv t' s:={h with node:=λv hv=>(h.node v hv).Sz ht}
theorem aD5 (i q:Nat):List.range' i (q+1)=i::List.range' (i+1) q:=rfl
theorem aSo {Oz:FP->Nat->Prop}{Hz:aF}{n:Nat}(hn:(aU p).length=n)(hm:3000<m){T:Nat}(hT:T<800000){s':FS}:
  ∀(q i l:Nat)(H:aF)(O:FP->Nat->Prop)(F:Nat->Part->Nat->Prop)(s:FS),n-i=q->i<=n->q<l->cW H0 H O a F p ev wv nv (T+64*i) s->Frz Oz O Hz H->tY (bH p) (List.range' i q) s=s'-> ∀(x2 eG gF:Value),
  ∃H2 u2,aL l (aO prog (lvl prog pkN m) (aL m) Sa) (Sd (lvl prog pkN m) (aL m)) (some (pt a.fb)::aG 1 (x2::aG 6 (some (.I (n:Nat))::some (.I (i:Nat))::aG 6 (eG::gF::aG 6 [])))) H=some (u2,H2)/\u2=aK []/\ ∃O' F',cW H0 H2 O' a F' p ev wv nv (T+64*n) s'/\Frz Oz O' Hz H2:=by
 have h36:=oC p;intro q;induction q with
 |zero=>
  intro i l H O F s hq hi hl h hz hd;intros;obtain⟨l,rfl⟩:=aB l U
  obtain rfl:i=n:=U
  have e:decide ((i:Int)<(i:Nat))=false:=by simp
  have hd:s=s':=hd;subst hd;refine⟨H,_,?_,rfl,O,F,h,hz⟩;rw[bS,aDy];simp only[gsR,e];rw[aRw]
  first|done|rfl
 |succ q ih=>
  intro i l H O F s hq hi hl h hz hd;intros;obtain⟨l,rfl⟩:=aB l U
  have e:decide ((i:Int)<(n:Nat))=true:=aUX U
  have e3:=aA (i:=i) U
  have hk:i<(aU p).length:=U
  have g1:=vR h (m:=m) U (i:Int)
  have hv:mF p a (i:Int)=pt (a.lb i):=by
   unfold mF;rw[if_pos U,aUF]
  rw[hv] at g1;have hl':=h.link i hk;have hfew:=hl'.few;obtain⟨v,H1,g2,x1,r1⟩:=Lk.Sw (pr:=pkN) (aQ rfl) (aQ rfl) hl' (m:=m) U
  have hlen:=r1.uS;have h1:=h.dX x1;rw[aD5] at hd;have hd:tY (bH p) (List.range' (i+1) q) (qF (bH p) i (s.l i).length s)=s':=hd;rw[bS,aDy];simp only[gsR,e,g1,g2,hlen];refine aSn (m:=m) (n:=(s.l i).length) (s':=qF (bH p) i (s.l i).length s) (T:=T+64*i) (Q:=λH2 u2=>u2=aK []/\ ∃O' F',cW H0 H2 O' a F' p ev wv nv (T+64*n) s'/\Frz Oz O' Hz H2) i 0 hk U U ?_ U (s.l i).length 0 m H1 O F s U U U h1 (hz.tr (Frz.ext O x1)) rfl ..
  intro H2 O2 F2 h2 z2;intros;unfold Sc;simp only[gsR,aV,e3];exact ih (i+1) l H2 O2 F2 _ U U U (h2.Ak U) z2 hd ..
def Ja (O:FP->Nat->Prop)(ob b:Nat):Prop:=ob<b/\ ∀j,¬O j b
structure TickI (Oz:FP->Nat->Prop)(Hz:aF)(H0 H:aF)(O:FP->Nat->Prop)(a:FL)(F:Nat->Part->Nat->Prop)(p:PlanD)(ev wv nv:Value)(t:Nat)(fs:FS)(ob:Nat)(us:List SV)(s0:FS)(i:Nat):Prop where
 fab:cW H0 H O a F p ev wv nv t fs
 row:Rw sC 102 1 H (.slice (some ⟨ob,0,none⟩) p.nodes.toNat p.nodes.toNat) us
 obf: ∀j,¬O j ob
 ob0:H0.length<=ob
 obz:Hz.length<=ob
 fz:Frz Oz O Hz H
 outs: ∀j,j<i-> ∃(u:SV)(w:List (Nat×Value)),us[j]? =some u/\OutR H (Ja O ob) u.1 w (o8 (bH p) s0 j)
variable {Oz : FP → Nat → Prop} {Hz : aF} {fs s0 : FS} {ob : Nat} {us : List SV} {T i : Nat}
theorem aD4 {ob n c b:Nat}(h:aT (.slice (some ⟨ob,0,none⟩) n c) b):b=ob:=by
 obtain⟨_,_,_,hh⟩:=h;cases hh;rfl
theorem TickI.obl (h:TickI Oz Hz H0 H O a F p ev wv nv t fs ob us s0 i)(hN:0<p.nodes.toNat):ob<H.length:=h.row.dO ⟨0,_,_,rfl⟩
theorem TickI.mv {F':Nat->Part->Nat->Prop}{t':Nat}{fs':FS}(h:TickI Oz Hz H0 H O a F p ev wv nv t fs ob us s0 i)(k:FP){X X':Nat->Prop}(hX: ∀b,X b->O k b)(hm:Mv X X' H H')(hf:cW H0 H' (updI O k X') a F' p ev wv nv t' fs'):TickI Oz Hz H0 H' (updI O k X') a F' p ev wv nv t' fs' ob us s0 i:=by
 obtain⟨N,hN,hNe⟩:=h.fab.pA;have hob:=h.obl (by have:=hN.h2;omega)
 have hfo:=xZ hX hm hob h.obf;refine⟨hf,h.row.cZ λb hb=> ?_,hfo.2,h.ob0,h.obz,h.fz.tr (Frz.I8 hX hm),λj hj=> ?_⟩
 ·rw[aD4 hb]
  exact hfo.1
 ·obtain⟨u,w,h1,h2⟩:=h.outs j hj
  exact⟨u,w,h1,h2.xU λb hb ⟨h3,h4⟩=>⟨(xZ hX hm hb h4).1,h3,(xZ hX hm hb h4).2⟩⟩
theorem TickI.aSl (h:TickI Oz Hz H0 H O a F p ev wv nv t fs ob us s0 i)(he:Ext H H'):TickI Oz Hz H0 H' O a F p ev wv nv t fs ob us s0 i:=
 ⟨h.fab.dX he,m9 h.row he,h.obf,h.ob0,h.obz,h.fz.tr (Frz.ext O he),λj hj=>by
  obtain⟨u,w,h1,h2⟩:=h.outs j hj
  exact⟨u,w,h1,h2.xU λb hb h3=>⟨he.2 b hb id,h3⟩⟩⟩
theorem aD2 {v w:Nat}(hok:dT p=true)(h:w∈(cT p v).by'):((v:Int),(w:Int))∈aU p:=by
 obtain⟨N,hN⟩:=nG hok;rw[(qU hN).2,u7 hN.ve hN.h6];obtain⟨z,hz,rfl⟩:=aUQ.mp (show w∈(bes p.edges v).map Int.toNat from h)
 have:=wV hN.ve hz;have e:((z.toNat:Nat):Int)=z:=U
 simp only[e];exact hz
theorem aSq {v:Nat}{lv:Value}{w:List (Nat×Value)}{outs:eQ}(hv:v<p.nodes.toNat)(hoo:OutOk (cT p v) outs)(hwl:w.length=outs.length)(hw5:w.length<1000000)(hm:1000<m){K:Ex->K (Value×aF)}{Q:aF->Value->Prop}
  (hK: ∀(H':aF)(O':FP->Nat->Prop),TickI Oz Hz H0 H' O' a F p ev wv nv T {fs with l:=outs.foldl (o9 (bH p) v) fs.l} ob us s0 p.nodes.toNat-> ∀(x2 x6 dQ gI gS pB pC Ax:Value),∃H2 u2,Si (lvl prog pkN m) (aL m) K (pt a.fb) x2 x6 dQ gI gS (.slice (some ⟨ob,0,none⟩) p.nodes.toNat p.nodes.toNat) (.I (p.nodes.toNat:Nat)) (.I (v:Nat)) pB pC Ax H'=some (u2,H2)/\Q H2 u2):
  ∀(q i l:Nat)(H:aF)(O:FP->Nat->Prop),w.length-i=q->i<=w.length->q<l->TickI Oz Hz H0 H O a F p ev wv nv T {fs with l:=(outs.take i).foldl (o9 (bH p) v) fs.l} ob us s0 p.nodes.toNat->OutR H (Ja O ob) lv w outs-> ∀(x2 dQ gI gS:Value),
  ∃H2 u2,aL l (aO prog (lvl prog pkN m) (aL m) Sh) (Sm (lvl prog pkN m) (aL m) K) (some (pt a.fb)::aG 1 (x2::aG 3 (some (.I (v:Nat))::aG 12 (dQ::gI::gS::aG 12 (some (.slice (some ⟨ob,0,none⟩) p.nodes.toNat p.nodes.toNat)::some (.I (p.nodes.toNat:Nat))::some (.I (v:Nat))::aG 4 (lv::some (.I (w.length:Nat))::some (.I (i:Nat))::aG 24 [])))))) H=some (u2,H2)/\Q H2 u2:=by
 intro q;induction q with
 |zero=>
  intro i l H O hq hi hl h hR;intros;obtain⟨l,rfl⟩:=aB l U
  obtain rfl:i=w.length:=U
  have e:decide ((w.length:Int)<(w.length:Nat))=false:=by simp
  rw[hwl,List.take_length] at h;rw[bS,aDD];simp only[gsR,e];rw[aRB];exact hK H O h ..
 |succ q ih=>
  intro i l H O hq hi hl h hR;intros;obtain⟨l,rfl⟩:=aB l U
  have e:decide ((i:Int)<(w.length:Nat))=true:=aUX U
  have e3:=aA (i:=i) U
  obtain⟨u,hu⟩: ∃u,w[i]? =some u:=⟨_,aUf U⟩
  obtain⟨o,ho⟩: ∃o,outs[i]? =some o:=⟨_,aUf U⟩
  obtain⟨u1,u2,u3⟩:=hR.at_ i u o hu ho;obtain⟨hto,h12⟩:=hoo o (aUn ho);have hmem:=aD2 h.fab.ok hto;obtain⟨k,hk⟩:=aD ((aU p).idxOf ((v:Int),(o.1:Int)));have hkl:k<(aU p).length:=by rw[hk];exact List.idxOf_lt_length_of_mem hmem
  have hf:lkF p a (aU p).length ((v:Int),(o.1:Int))=some (pt (a.lb k)):=by
   unfold lkF;rw[<-hk,if_pos hkl]
  obtain⟨b,ofs,q1,_,q3⟩:=hR.rw_.rs.dM aDf hu .i64;have q4:ldN 2 (.pointer (some ⟨b,ofs,none⟩)) H=some (.agg ⟨nN u⟩,H):=(q3 H rfl).1;obtain⟨H1,hH1⟩:=aD (H++[Blk.cells (nN u) 104 .fix]);have x1:Ext H H1:=by rw[hH1];exact Fr.app _ _ _
  have st:stN 2 (.pointer (some ⟨H.length,0,none⟩)) (.agg ⟨nN u⟩) (H++[Blk.cells [Value.int .i64 0,.slice none 0 0] 104 .fix])=some (undef,H1):=by
   rw[qV (n:=2) (vs:=nN u) (cG H _) aC rfl rfl (aUi 2) (aDe u),gZ,hH1]
   rfl
  have b1:H1[H.length]? =some (.cells (nN u) 104 .fix):=by rw[hH1];exact cV _ _
  have h1:=h.aSl x1;have R1:OutR H1 (Ja O ob) lv w outs:=hR.xU λb hb h3=>⟨x1.2 b hb id,h3⟩
  have l13:=h1.fab.ld 13 (.map (some a.mb)) rfl;have l0:ld1 (.Q H.length 0) H1=some (.I (o.1:Nat),H1):=by rw[<-u1];exact bA b1 rfl
  have l1:ld1 (.Q H.length 1) H1=some (u.2,H1):=by rw[bA b1 rfl,(aQH u2).1]
  have bh:bld prog 83 [(0,.I (v:Nat)),(1,.I (o.1:Nat))]=some (edV ((v:Int),(o.1:Int))):=rfl;have g:=h1.fab.cst.mp.xK S0 ((v:Int),(o.1:Int)) (.pointer none);rw[hf,aUG] at g;obtain⟨H2,g2,f2,k2⟩:=Lk.aDY (pr:=pkN) (aQ rfl) (aQ rfl) (h1.fab.link k hkl) (m:=m) U (By.br (u2.ext x1)) U
  have hlk:=h1.fab.lk hkl k2 (De f2);have hx: ∀b,O (.lk k) b->O (.lk k) b:=λ_ hb=>hb
  have h2:=h1.mv (.lk k) hx (De f2) hlk;have R2:OutR H2 (Ja (updI O (.lk k) (Up (O (.lk k)) H1 H2)) ob) lv w outs:=R1.xU λb hb ⟨h3,h4⟩=>⟨(xZ hx (De f2) hb h4).1,h3,(xZ hx (De f2) hb h4).2⟩
  have hfold:(outs.take (i+1)).foldl (o9 (bH p) v) fs.l=o9 (bH p) v ((outs.take i).foldl (o9 (bH p) v) fs.l) o:=by
   rw[List.take_add_one,ho,List.foldl_append];rfl
  have hsame:up1 ((outs.take i).foldl (o9 (bH p) v) fs.l) k (Lk.C9 p.bag.toNat ((outs.take i).foldl (o9 (bH p) v) fs.l k) o.2)=(outs.take (i+1)).foldl (o9 (bH p) v) fs.l:=by
   rw[hfold,hk];rfl
  simp only[hsame] at h2;rw[bS,aDD];simp only[gsR,e,q1,q4,st,l13,l0,bh,g,l1,g2,aV,e3];exact ih (i+1) l H2 _ U U U h2 R2 ..
theorem aSs (hk:s0.k<1000000)(hm:1000<m)(hTb: ∀j,j<p.nodes.toNat->OutOk (cT p j) (o8 (bH p) s0 j)/\(o8 (bH p) s0 j).length<=36):
  ∀(q i l:Nat)(H:aF)(O:FP->Nat->Prop),p.nodes.toNat-i=q->i<=p.nodes.toNat->q<l->TickI Oz Hz H0 H O a F p ev wv nv T ⟨nO (bH p) s0 p.nodes.toNat,sX (bH p) s0 i,s0.k⟩ ob us s0 p.nodes.toNat-> ∀(x2 x6 dQ gI gS pB pC Ax:Value),
  ∃H2 u2,aL l (aO prog (lvl prog pkN m) (aL m) Sg) (Sk (lvl prog pkN m) (aL m)) (some (pt a.fb)::aG 1 (x2::aG 3 (x6::aG 12 (dQ::gI::gS::aG 12 (some (.slice (some ⟨ob,0,none⟩) p.nodes.toNat p.nodes.toNat)::some (.I (p.nodes.toNat:Nat))::some (.I (i:Nat))::aG 4 (pB::pC::Ax::aG 24 [])))))) H=some (u2,H2)/\u2=aK []/\ ∃O',cW H0 H2 O' a F p ev wv nv T (qG (bH p) s0)/\Frz Oz O' Hz H2:=by
 intro q;induction q with
 |zero=>
  intro i l H O hq hi hl h;intros;obtain⟨l,rfl⟩:=aB l U
  obtain rfl:i=p.nodes.toNat:=U
  have e:decide ((p.nodes.toNat:Int)<(p.nodes.toNat:Nat))=false:=by simp
  obtain⟨st,h1⟩:=h.fab.aSi;have l14:=h.fab.ld 14 (.I (s0.k:Nat)) rfl;have e3:IntKind.i64.wrap ((s0.k:Int)+1)=((s0.k+1:Nat):Int):=by rw[bJ U U];omega
  refine⟨_,_,?_,rfl,O,h1,h.fz.tr ⟨by rw[List.length_set];exact aUi _,λb hb ho=>⟨aUe λhh=>ho .fb (by rw[<-hh];exact h.fab.cst.fabO),ho⟩⟩⟩
  rw[bS,aDC];simp only[gsR,e];rw[aRA];simp only at st;simp only[gsR,l14,aV,e3,st]
 |succ q ih=>
  intro i l H O hq hi hl h;intros;obtain⟨l,rfl⟩:=aB l U
  have hiN:i<p.nodes.toNat:=U
  obtain⟨N,hN,hNe⟩:=h.fab.pA;have h6:=hN.h6;have e:decide ((i:Int)<(p.nodes.toNat:Nat))=true:=aUX U
  have e3:=aA (i:=i) U
  obtain⟨u,w,h1,h2⟩:=h.outs i hiN;obtain⟨b,o,q1,_,q3⟩:=h.row.rs.dM B5 h1 .i64;have q4:=(q3 H rfl).2.1 0 _ rfl;rw[Nat.add_zero] at q4;have hlen:=h2.rw_.rs.eC;have hwl:=h2.len;obtain⟨ho1,ho2⟩:=hTb i hiN;rw[bS,aDC];simp only[gsR,e,q1,q4,hlen];refine aSq (m:=m) (T:=T) (s0:=s0) (ob:=ob) (us:=us) (F:=F) (fs:=⟨nO (bH p) s0 p.nodes.toNat,sX (bH p) s0 i,s0.k⟩) (v:=i) (outs:=o8 (bH p) s0 i) (Q:=λH2 u2=>u2=aK []/\ ∃O',cW H0 H2 O' a F p ev wv nv T (qG (bH p) s0)/\Frz Oz O' Hz H2) hiN ho1 hwl U U ?_ w.length 0 m H O U U U h h2 ..
  intro H2 O2 hh;intros;have hs:(o8 (bH p) s0 i).foldl (o9 (bH p) i) (sX (bH p) s0 i)=sX (bH p) s0 (i+1):=by
   unfold sX;rw[aUM,List.foldl_append];rfl
  simp only[hs] at hh;unfold Si;simp only[gsR,aV,e3];exact ih (i+1) l H2 O2 U U U hh ..
theorem aSr (hT:T<1000000)(hk:s0.k<1000000)(hm:3000<m)(hTb: ∀j,j<p.nodes.toNat->OutOk (cT p j) (o8 (bH p) s0 j)/\(o8 (bH p) s0 j).length<=36):
  ∀(q i l:Nat)(H:aF)(O:FP->Nat->Prop)(F:Nat->Part->Nat->Prop)(us:List SV),p.nodes.toNat-i=q->i<=p.nodes.toNat->q<l->us.length=p.nodes.toNat->TickI Oz Hz H0 H O a F p ev wv nv (T+7*i) ⟨nO (bH p) s0 i,s0.l,s0.k⟩ ob us s0 i-> ∀(x6 uD uE iB pB pC Ax:Value),
  ∃H2 u2,aL l (aO prog (lvl prog pkN m) (aL m) Sf) (Sj (lvl prog pkN m) (aL m)) (some (pt a.fb)::aG 1 (some (.slice (some ⟨ob,0,none⟩) p.nodes.toNat p.nodes.toNat)::aG 3 (x6::aG 12 (a.ns::some (.I (p.nodes.toNat:Nat))::some (.I (i:Nat))::aG 12 (uD::uE::iB::aG 4 (pB::pC::Ax::aG 24 [])))))) H=some (u2,H2)/\u2=aK []/\ ∃O' F',cW H0 H2 O' a F' p ev wv nv (T+42) (qG (bH p) s0)/\Frz Oz O' Hz H2:=by
 intro q;induction q with
 |zero=>
  intro i l H O F us hq hi hl hul h;intros;obtain⟨l,rfl⟩:=aB l U
  obtain rfl:i=p.nodes.toNat:=U
  have e:decide ((p.nodes.toNat:Int)<(p.nodes.toNat:Nat))=false:=by simp
  obtain⟨N,hN,hNe⟩:=h.fab.pA;have h6:=hN.h6;have hlen:cX (.slice (some ⟨ob,0,none⟩) p.nodes.toNat p.nodes.toNat)=some (.I (p.nodes.toNat:Nat)):=rfl;rw[bS,aDB];simp only[gsR,e];rw[aRz];simp only[gsR,hlen];obtain⟨H2,u2,g1,g2,O',g3,z3⟩:=(aSs (m:=m) hk U hTb p.nodes.toNat 0 m H O U U U h ..)
  exact⟨H2,u2,g1,g2,O',F,g3.Ak U,z3⟩
 |succ q ih=>
  intro i l H O F us hq hi hl hul h;intros;obtain⟨l,rfl⟩:=aB l U
  have hiN:i<p.nodes.toNat:=U
  obtain⟨N,hN,hNe⟩:=h.fab.pA;have h6:=hN.h6;have e:decide ((i:Int)<(p.nodes.toNat:Nat))=true:=aUX U
  have e3:=aA (i:=i) U
  have hn:=h.fab.node i hiN;have hni:nO (bH p) s0 i i=s0.n i:=by unfold nO;rw[if_neg U]
  simp only[hni] at hn;obtain⟨b',o',r1,_,r3⟩:=h.fab.cst.nds.rs.dM Iu (i:=i) (x:=some ⟨(a.y i).nb,0,none⟩) (by rw[aUq,aUV hiN];rfl) .i64
  have r4:=(r3 H rfl).2.1 0 _ rfl;rw[Nat.add_zero] at r4;obtain⟨H1,F1,v,w,g1,n1,m1,o1⟩:=aQ9 hn U (m:=m) U
  have hcv:kQ (lvl prog pkN m) (.func (.func 51) #[.Q ((a.y i).nb) 0] #[]) [] H=some (v,H1):=g1;have f1:=h.fab.nd hiN (t':=T+7*i+7) U n1 m1
  have hX:=h.fab.nodeO i hiN;have t1:=h.mv (.nd i) hX m1 f1;obtain⟨w1,w2⟩:=xV o1.rw_;obtain⟨sv,rfl⟩: ∃z:SV,z.1=v:=⟨⟨v,w2,Array.toList_inj.mp w1⟩,rfl⟩;obtain⟨c,cs,p1,p2,p3,_,p5,p6⟩:=Sr t1.row (i:=i) U sv
  obtain rfl:c=ob:=aD4 p1
  obtain⟨H2,hH2⟩:=aD (H1.set c (.cells (cs.set i sv.1) 102 .row));rw[<-hH2] at p5 p6;have hkp: ∀b,b≠c->H2[b]? =H1[b]? :=λb hb=>by rw[hH2,aUe (λhh=>hb hh.symm)]
  have hl2:H2.length=H1.length:=by rw[hH2,List.length_set]
  have hob:=h.obl U
  have f2:=t1.fab.Db (H':=H2) U (λj b hb=>hkp b λhh=>t1.obf j (by rw[<-hh];exact hb)) (by rw[hH2];exact gM t1.fab.own.ext h.ob0)
  have hnew:(⟨up1 (nO (bH p) s0 i) i (kJ (cT p i) (s0.n i)).1,s0.l,s0.k⟩:FS)=⟨nO (bH p) s0 (i+1),s0.l,s0.k⟩:=by
   congr 1
   funext j
   unfold nO up1;by_cases hj:j=i
   ·subst hj
    rw[if_pos rfl,if_pos U]
    rfl
   ·rw[if_neg hj]
    show(if j<i then(kJ ((bH p).c j) (s0.n j)).1 else s0.n j)=_
    by_cases hji:j<i
    ·rw[if_pos hji,if_pos U]
    ·rw[if_neg hji,if_neg U]
  simp only[hnew] at f2;rw[bS,aDB];simp only[gsR,e,r1,r4,hcv,p3,p5,aV,e3];refine ih (i+1) l H2 _ _ (us.set i sv) U U U (by rw[List.length_set];exact hul) ⟨f2,p6,t1.obf,h.ob0,h.obz,⟨by have:=t1.fz.1;omega,λb hb ho=>⟨(hkp b (by have:=h.obz;omega)).trans (t1.fz.2 b hb ho).1,(t1.fz.2 b hb ho).2⟩⟩,λj hj=> ?_⟩ ..
  by_cases hji:j=i
  ·subst hji
   refine⟨sv,w,by rw[aUj U],o1.xU λb hb ⟨h3,h4⟩=>⟨hkp b U,by omega,λk hk'=> ?_⟩⟩
   by_cases hkj:k= .nd j
   ·rw[hkj,eY] at hk'
    exact h4 hk'
   ·rw[cM _ _ hkj] at hk'
    have:=h.fab.own.lt k b hk';omega
  ·obtain⟨u,w',g2,g3⟩:=t1.outs j U
   exact⟨u,w',by rw[aUe (λhh=>hji hh.symm)];exact g2,g3.xU λb hb h3=>⟨hkp b (by have:=h3.1;omega),h3⟩⟩
theorem S3 (h:cW H0 H O a F p ev wv nv t s)(ht:t<900000)(hk:s.k<1000000)(hm:4000<m): ∃H' O' F',lvl prog pkN m (.func 27) [pt a.fb] H=some (aK [],H')/\cW H0 H' O' a F' p ev wv nv (t+42) (qG (bH p) s)/\Frz O O' H H':=by
 obtain⟨N,hN,hNe⟩:=h.pA;have h6:=hN.h6;have l12:=h.ld 12 a.ns rfl;have hlen:=h.cst.nds.nY;rw[aUr,aUH] at hlen;have mk:=uQ (H:=H) 102 1 24 [.N] .i64 .i64 (p.nodes.toNat:Int) U U U rfl
 rw[aUF] at mk;obtain⟨H1,hH1⟩:=aD (H++[Blk.cells (List.replicate p.nodes.toNat [Value.slice none 0 0]).flatten 102 .row]);rw[<-hH1] at mk;have x1:Ext H H1:=by rw[hH1];exact Fr.app _ _ _
 have h1:=h.dX x1;have l12':=h1.ld 12 a.ns rfl;obtain⟨zv,hzv⟩: ∃zv:SV,zv=⟨.N,rfl,rfl⟩:=⟨_,rfl⟩;have hfl:((List.replicate p.nodes.toNat zv).map sC).flatten=(List.replicate p.nodes.toNat [Value.N]).flatten:=by rw[List.map_replicate,hzv];rfl
 have b1:H1[H.length]? =some (.cells (List.replicate p.nodes.toNat [Value.N]).flatten 102 .row):=by rw[hH1];exact cV _ _
 have hrow:Rw sC 102 1 H1 (.slice (some ⟨H.length,0,none⟩) p.nodes.toNat p.nodes.toNat) (List.replicate p.nodes.toNat zv):=by
  refine⟨by rw[hfl];simp,.inr ⟨H.length,p.nodes.toNat,[],by rw[aUT],by rw[aUT];exact aUi _,by simp,by rw[b1,hfl,List.append_nil]⟩⟩
 have hI:TickI O H H0 H1 O a F p ev wv nv (t+7*0) ⟨nO (bH p) s 0,s.l,s.k⟩ H.length (List.replicate p.nodes.toNat zv) s 0:=by
  have e:(⟨nO (bH p) s 0,s.l,s.k⟩:FS)=s:=by
   have:nO (bH p) s 0=s.n:=by
    funext v
    unfold nO;rw[if_neg U]
   rw[this]
  rw[e]
  exact⟨h1,hrow,λj hj=>by have:=h.own.lt j _ hj;omega,h.own.ext.1,aUi _,Frz.ext O x1,λj hj=>by omega⟩
 have hTb: ∀j,j<p.nodes.toNat->OutOk (cT p j) (o8 (bH p) s j)/\(o8 (bH p) s j).length<=36:=λj hj=>by
  have hn:=h.node j hj
  exact⟨aR2 hn.ok hn.inv,aR1 hn.ok _⟩
 have main: ∃H' u,lvl prog pkN m (.func 27) [pt a.fb] H=some (u,H')/\u=aK []/\ ∃O' F',cW H0 H' O' a F' p ev wv nv (t+42) (qG (bH p) s)/\Frz O O' H H':=by
  refine dL (aQ rfl) U ?_
  rw[aRC];simp only[gsR,l12,hlen,mk,l12'];exact aSr (m:=m-1) U hk U hTb p.nodes.toNat 0 (m-1) H1 O F (List.replicate p.nodes.toNat zv) U U U (by rw[aUT]) hI ..
 obtain⟨H',u,g1,rfl,O',F',g2⟩:=main
 exact⟨H',O',F',g1,g2⟩
theorem aSp (h:cW H0 H O a F p ev wv nv t s)(ht:t<700000)(hk:s.k<1000000)(hm:6000<m): ∃H' O' F',lvl prog pkN m (.func 24) [pt a.fb] H=some (aK [],H')/\cW H0 H' O' a F' p ev wv nv (t+2400) (kP (bH p) s)/\Frz O O' H H':=by
 obtain⟨H1,O1,F1,g1,h1,z1⟩:=S3 h U hk (m:=m-1) U
 have l11:=h1.ld 11 a.hv rfl;have hlen:=h1.cst.hops.nY;have h36:=oC p;have main: ∃H' u,lvl prog pkN m (.func 24) [pt a.fb] H=some (u,H')/\u=aK []/\ ∃O' F',cW H0 H' O' a F' p ev wv nv (t+42+64*(aU p).length) (kP (bH p) s)/\Frz O O' H H':=by
  refine dL (aQ rfl) U ?_
  rw[aRy];simp only[gsR,g1,l11,hlen];exact aSo (m:=m-1) (n:=(aU p).length) rfl U (T:=t+42) U (aU p).length 0 (m-1) H1 O1 F1 (qG (bH p) s) U U U h1 z1 (by
   unfold kP;rw[List.range_eq_range']
   rfl) ..
 obtain⟨H',u,g2,rfl,O',F',h2,z2⟩:=main
 exact⟨H',O',F',g2,h2.Ak U,z2⟩
theorem aD3 (h:cW H0 H O a F p ev wv nv t s)(ht:t<700000)(hk:s.k<1000000)(hm:6000<m): ∃H' O' F',lvl prog pkN m (.func 24) [pt a.fb] H=some (aK [],H')/\cW H0 H' O' a F' p ev wv nv (t+2400) (kP (bH p) s):=by
 obtain⟨H',O',F',g1,g2,_⟩:=aSp h ht hk hm
 exact⟨H',O',F',g1,g2⟩
end
theorem aSx {κ:Type}[DecidableEq κ]{kt:KeyT}{enc:κ->Value}{H:aF}{mb:Nat}{f:κ->Option Value}(hk:KeyC kt enc)(h:IsMap enc H mb f)(k:κ)(v:Value)(hf:f k=none): ∃es c,kS kt (.map (some mb)) (enc k) v H=some (undef,H.set mb (.map es c))/\IsMap enc (H.set mb (.map es c)) mb (upd f k (some v)):=by
 obtain⟨es,c,h1,h2⟩:=h;have hlt:=(aUd.mp h1).1;have hn:=Ct hk k es 0 ((h2.no k).mp hf);refine⟨(es++[(k,v,c)]).map (fX enc),c+1,?_,_,c+1,by rw[aUj hlt],h2.aCl v hf⟩
 unfold kS;rw[if_pos (vI hk k)];simp only;rw[h1];simp only;rw[hn,List.map_append];rfl
section
variable {H0 H H' H1 : aF} {O : FP → Nat → Prop} {a : FL} {F : Nat → Part → Nat → Prop} {p : PlanD} {ev wv nv : Value} {t m : Nat} {s : FS}
theorem NodeAt.S6 {F:Part->Nat->Prop}{y:Lay}{c:Cfg}{t:Nat}{s:NS}(h:NodeAt H0 H F y p ev wv nv c t s)(hl:H.length<=H'.length)(hk: ∀b,Un F b->H'[b]? =H[b]?)(he:Ext H0 H'):NodeAt H0 H' F y p ev wv nv c t s:=
 {h with ext:=he,sep:=⟨λi=>(h.sep.own i).E7 (tU _ _ _ _ _ _ _ i) hl λb hb=>hk b ⟨i,hb⟩,h.sep.sep⟩}
theorem FabG.aSu {i:Nat}(h:FabG H0 H O a F p ev wv nv 0 s i 0)(hi:i<100){Fn:Part->Nat->Prop}{y:Lay}(hn:NodeAt H H1 Fn y p ev wv nv (cT p i) 0 (s.n i)):
  ∃ns' H2 H3 O',app 72 1 8 a.ns (.slice (some ⟨H1.length,0,none⟩) 1 1) (H1++[.cells (ptC (some ⟨y.nb,0,none⟩)) 72 .row])=some (ns',H2)/\stN 1 (.Q a.fb 12) ns' H2=some (undef,H3)/\
   FabG H0 H3 O' {a with ns:=ns',y:=up1 a.y i y} (up1 F i Fn) p ev wv nv 0 s (i+1) 0:=by
 have xe:=hn.ext;obtain⟨w1,k1⟩:=h.own.Dc (.nd i) (X:=λ_=>False) (X':=Un Fn) (λ_ hb=>hb.elim) ⟨xe.1,λb hb=> .inr (hn.old b hb),λb hb _=>xe.2 b hb id⟩ hn.sep.oB
 obtain⟨O1,hO1⟩:=aD (updI O (.nd i) (Un Fn));have ocs:O1 .cs=O .cs:=by rw[hO1];exact cM _ _ (by simp)
 have ofb:O1 .fb=O .fb:=by rw[hO1];exact cM _ _ (by simp)
 rw[<-hO1] at w1;have c:=h.cst;have nds1:=m9 c.nds xe;have hops1:=m9 c.hops xe;have hnew:New H0 a.ns:=λb hb=>h.own.old .cs b (c.ndsO b hb)
 obtain⟨ns',H2,g1,g2,g3,g4,g5,g6⟩:=nds1.E6 (by':=8) Iu aRn aC (some ⟨y.nb,0,none⟩) hnew w1.ext (eD (n:=1000) aC (by rw[aUr,aUH];omega))
 obtain⟨O2,hO2⟩:=aD (updI O1 .cs (λb=>aT a.hv b∨b=a.mb∨aT ns' b))
 have mp1:IsMap edV H1 a.mb (lkF p a 0):=c.mp.xL (by
  obtain⟨es,cl,hmb,_⟩:=c.mp;rw[xe.2 _ (bU hmb) id])
 have hmb2:H2[a.mb]? =H1[a.mb]? :=by
  obtain⟨es,cl,hmb,_⟩:=mp1;refine g5.2 _ (bU hmb) λhh=> ?_
  obtain⟨cs,hc⟩:=nds1.blk hh;rw[hmb] at hc;cases hc
 have hops2:=aRo hops1 nds1 aC g5
 obtain⟨w2,k2⟩:=w1.Dc .cs (X:=O1 .cs) (X':=λb=>aT a.hv b∨b=a.mb∨aT ns' b) (λ_ hb=>hb) ⟨g5.1,λb hb=>by
  rw[ocs];rcases hb with hb|hb|hb
  ·exact .inl (c.hopsO b hb)
  ·exact .inl (by rw[hb];exact c.mpO)
  ·exact(g6 b hb).imp (c.ndsO b) (·.1),λb hb hx=>g5.2 b hb λhh=>hx (by rw[ocs];exact c.ndsO b hh)⟩ (λb hb=>by
  rcases hb with hb|hb|hb
  ·exact hops2.dO hb
  ·rw[hb]
   have:=w1.lt .cs a.mb (by rw[ocs];exact c.mpO)
   exact aUs this g5.1
  ·exact g2.dO hb)
 rw[<-hO2] at w2;have o2fb:O2 .fb=O .fb:=by rw[hO2,cM _ _ (by simp),ofb]
 have o2cs: ∀b,O2 .cs b=(aT a.hv b∨b=a.mb∨aT ns' b):=λb=>by rw[hO2,eY]
 have hfb2:H2[a.fb]? =some (.cells (nP p ev wv nv a.hv a.ns a.mb s.k) 87 .fix):=by
  have h1:=(k2 .fb (by simp) a.fb (by rw[ofb];exact c.fabO)).2
  rw[h1,xe.2 _ (bU c.fab) id,c.fab]
 obtain⟨s1,s2⟩:=xV g2;obtain⟨H3,hH3⟩:=aD (H2.set a.fb (.cells (nP p ev wv nv a.hv ns' a.mb s.k) 87 .fix));have st:stN 1 (.Q a.fb 12) ns' H2=some (undef,H3):=by rw[hH3];exact nI hfb2 aC (by simp[nP,plC]) s1 s2
 have hk: ∀b,b≠a.fb->H3[b]? =H2[b]? :=λb hb=>by rw[hH3,aUe (λhh=>hb hh.symm)]
 have hl:H3.length=H2.length:=by rw[hH3,List.length_set]
 have hne: ∀j,j≠ .fb-> ∀b,O2 j b->b≠a.fb:=λj hj b hb hh=>hj (w2.dis j .fb b hb (by rw[hh,o2fb];exact c.fabO))
 have ext3:Ext H0 H3:=by rw[hH3];exact gM w2.ext (h.own.old _ _ c.fabO)
 have kN: ∀v b,O1 (.nd v) b->H3[b]? =H1[b]? /\O2 (.nd v) b:=λv b hb=>by
  have ho:O2 (.nd v) b:=by rw[hO2,cM _ _ (by simp)];exact hb
  exact⟨by rw[hk b (hne _ (by simp) b ho),(k2 (.nd v) (by simp) b hb).2],ho⟩
 refine⟨ns',H2,H3,O2,g1,st,h.ok,h.pv,⟨w2.dis,λj b hb=>by rw[hl];exact w2.lt j b hb,w2.old,ext3⟩,⟨?_,?_,?_,?_,?_,?_,?_,?_⟩,λv hv=> ?_,λv hv b hb=> ?_,λj hj=>by omega⟩
 ·rw[hH3]
  exact dN hfb2
 ·rw[o2fb];exact c.fabO
 ·exact hops2.cZ λb hb=>hk b (hne .cs (by simp) b (by rw[o2cs];exact .inl hb))
 ·exact λb hb=>by rw[o2cs];exact .inl hb
 ·have e:(List.range (i+1)).map (λv=>some (⟨(up1 a.y i y v).nb,0,none⟩:Addr))=(List.range i).map (λv=>some (⟨(a.y v).nb,0,none⟩:Addr))++[some ⟨y.nb,0,none⟩]:=by
   rw[aUM,List.map_append]
   congr 1
   ·refine List.map_congr_left λv hv=> ?_
    have:=aUR.mp hv;unfold up1;rw[if_neg U]
   ·simp only[aUI,List.map_nil,up1,if_pos]
  show Rw ptC 72 1 H3 ns' ((List.range (i+1)).map λv=>some (⟨(up1 a.y i y v).nb,0,none⟩:Addr))
  rw[e];exact g2.cZ λb hb=>hk b (hne .cs (by simp) b (by rw[o2cs];exact .inr (.inr hb)))
 ·exact λb hb=>by rw[o2cs];exact .inr (.inr hb)
 ·exact mp1.xL (by rw[hk _ (hne .cs (by simp) _ (by rw[o2cs];exact .inr (.inl rfl))),hmb2])
 ·rw[o2cs];exact .inr (.inl rfl)
 ·have hle:H1.length<=H3.length:=by rw[hl];exact g5.1
  by_cases hvi:v=i
  ·subst hvi
   simp only[up1,if_pos]
   exact(hn.aRl h.own.ext h.pv).S6 hle (λb hb=>(kN v b (by rw[hO1,eY];exact hb)).1) ext3
  ·simp only[up1,if_neg hvi]
   have hn':=h.node v U
   exact(hn'.fS xe).S6 hle (λb hb=>(kN v b (by rw[hO1,cM _ _ (λhh=>hvi (by injection hh))];exact h.nodeO v U b hb)).1) ext3
 ·by_cases hvi:v=i
  ·subst hvi
   simp only[up1,if_pos] at hb
   exact(kN v b (by rw[hO1,eY];exact hb)).2
  ·simp only[up1,if_neg hvi] at hb
   exact(kN v b (by rw[hO1,cM _ _ (λhh=>hvi (by injection hh))];exact h.nodeO v U b hb)).2
theorem FabG.aSt {n j:Nat}(h:FabG H0 H O a F p ev wv nv t s n j)(hj:j<(aU p).length)(hs:s.l j=[])(xe:Ext H H1){lbn:Nat}(hl:Lk.IsLink H1 lbn [] p.bag.toNat (Nw H H1)):
  ∃H2 O',kS (.str [true,true]) (.map (some a.mb)) (edV ((aU p)[j]'hj)) (pt lbn) H1=some (undef,H2)/\FabG H0 H2 O' {a with lb:=up1 a.lb j lbn} F p ev wv nv t s n (j+1):=by
 obtain⟨N,hN⟩:=nG h.ok;have hnd:=(qU hN).1;have c:=h.cst;have hix:(aU p).idxOf ((aU p)[j]'hj)=j:=List.Nodup.idxOf_getElem hnd j hj;have h1:=h.dX xe;have mp1:=h1.cst.mp;obtain⟨es,cl,g1,g2⟩:=aSx S0 mp1 ((aU p)[j]'hj) (pt lbn) (by unfold lkF;rw[hix,if_neg U])
 obtain⟨H2,hH2⟩:=aD (H1.set a.mb (.map es cl));rw[<-hH2] at g1 g2;obtain⟨w1,k1⟩:=h.own.Dc (.lk j) (X:=λ_=>False) (X':=Nw H H1) (λ_ hb=>hb.elim) ⟨xe.1,λb hb=> .inr hb.1,λb hb _=>xe.2 b hb id⟩ (λb hb=>hb.2)
 obtain⟨O1,hO1⟩:=aD (updI O (.lk j) (Nw H H1));have ocs:O1 .cs=O .cs:=by rw[hO1];exact cM _ _ (by simp)
 have ofb:O1 .fb=O .fb:=by rw[hO1];exact cM _ _ (by simp)
 rw[<-hO1] at w1;have hk: ∀b,b≠a.mb->H2[b]? =H1[b]? :=λb hb=>by rw[hH2,aUe (λhh=>hb hh.symm)]
 have hl2:H2.length=H1.length:=by rw[hH2,List.length_set]
 have hne: ∀i,i≠ .cs-> ∀b,O1 i b->b≠a.mb:=λi hi b hb hh=>hi (w1.dis i .cs b hb (by rw[hh,ocs];exact c.mpO))
 have ext2:Ext H0 H2:=by rw[hH2];exact gM w1.ext (h.own.old _ _ c.mpO)
 have hrow: ∀{α:Type}{el:α->List Value}{e:TypeId}{sz:Nat}{w:Value}{xs:List α},Rw el e sz H1 w xs->Rw el e sz H2 w xs:=λhr=>hr.cZ λb hb=>hk b λhh=>by
  obtain⟨cs,hc⟩:=hr.blk hb;obtain⟨es',cl',hm,_⟩:=mp1;rw[hh,hm] at hc;cases hc
 have hmp:upd (lkF p a j) ((aU p)[j]'hj) (some (pt lbn))=lkF p {a with lb:=up1 a.lb j lbn} (j+1):=by
  funext e
  unfold upd lkF;by_cases he:e=(aU p)[j]'hj
  ·rw[if_pos he,he,hix,if_pos U]
   simp only[up1,if_pos]
  ·rw[if_neg he]
   have hne':(aU p).idxOf e≠j:=λhh=>he (by
    have:=List.getElem_idxOf (xs:=aU p) (x:=e) (by rw[hh];exact hj)
    simp only[hh] at this;exact this.symm)
   by_cases hlt:(aU p).idxOf e<j
   ·rw[if_pos hlt,if_pos U]
    simp only[up1];rw[if_neg hne']
   ·rw[if_neg hlt,if_neg U]
 refine⟨H2,O1,g1,h.ok,h.pv,⟨w1.dis,λi b hb=>by rw[hl2];exact w1.lt i b hb,w1.old,ext2⟩,⟨?_,by rw[ofb];exact c.fabO,hrow h1.cst.hops,λb hb=>by rw[ocs];exact c.hopsO b hb,hrow h1.cst.nds,λb hb=>by rw[ocs];exact c.ndsO b hb,by rw[<-hmp];exact g2,by rw[ocs];exact c.mpO⟩,λv hv=> ?_,λv hv b hb=> ?_,λi hi=> ?_⟩
 ·show H2[a.fb]? =some (.cells (nP p ev wv nv a.hv a.ns a.mb s.k) 87 .fix)
  rw[hk _ (hne .fb (by simp) _ (by rw[ofb];exact c.fabO)),h1.cst.fab]
 ·exact(h1.node v hv).S6 U (λb hb=>hk b (hne (.nd v) (by simp) b (by rw[hO1,cM _ _ (by simp)];exact h.nodeO v hv b hb))) ext2
 ·rw[hO1,cM _ _ (by simp)]
  exact h.nodeO v hv b hb
 ·by_cases hij:i=j
  ·subst hij
   simp only[up1,if_pos];rw[hs,hO1,eY];exact hl.Aj (λb hb=>hk b (hne (.lk i) (by simp) b (by rw[hO1,eY];exact hb))) U
  ·have hne2:FP.lk i≠ .lk j:=λhh=>hij (by injection hh)
   simp only[up1,if_neg hij];rw[hO1,cM _ _ hne2]
   exact(h1.link i U).Aj (λb hb=>hk b (hne (.lk i) (by simp) b (by rw[hO1,cM _ _ hne2];exact hb))) U
def S5 (Hs:aF)(p:PlanD)(H2:aF)(u:Value):Prop:= ∃H0 O a F ev wv nv,u= .tuple #[pt a.fb,.int .u16 0]/\Ext Hs H0/\cW H0 H2 O a F p ev wv nv 0 (FS.qE (bH p))/\ ∀G:aF,(∀b,Hs.length<=b->G[b]? =H0[b]?)->PV G p ev wv nv
theorem aSv {Hs:aF}{pb:Nat}{ev0 wv0 nv0:Value}(hs0:Ext Hs H0)(hpg: ∀G:aF,(∀b,Hs.length<=b->G[b]? =H0[b]?)->PV G p ev wv nv)(bp:H0[pb]? =some (plB p ev0 wv0 nv0))(hm:100<m){fb:Nat}{hv:Value}:
  ∀(q j l:Nat)(H:aF)(O:FP->Nat->Prop)(a:FL),(aU p).length-j=q->j<=(aU p).length->q<l->a.fb=fb->a.hv=hv->FabG H0 H O a F p ev wv nv 0 (FS.qE (bH p)) p.nodes.toNat j-> ∀(x2 x3 gG tC:Value),
  ∃H2 u2,aL l (aO prog (lvl prog pkN m) (aL m) R7) (R9 (lvl prog pkN m) (aL m)) (aG 1 (some (.Q pb 0)::x2::x3::aG 1 (some (pt fb)::aG 16 (gG::tC::aG 21 (hv::some (.I ((aU p).length:Nat))::some (.I (j:Nat))::aG 13 []))))) H=some (u2,H2)/\S5 Hs p H2 u2:=by
 intro q;induction q with
 |zero=>
  intro j l H O a hq hj hl hfb hhv h;intros;obtain⟨l,rfl⟩:=aB l U
  obtain rfl:j=(aU p).length:=U
  have e:decide (((aU p).length:Int)<((aU p).length:Nat))=false:=by simp
  refine⟨H,_,?_,H0,O,a,F,ev,wv,nv,rfl,hs0,h,hpg⟩;rw[bS,aDw];simp only[gsR,e];rw[aRu,<-hfb];rfl
 |succ q ih=>
  intro j l H O a hq hj hl hfb hhv h;intros;obtain⟨l,rfl⟩:=aB l U
  have h36:=oC p;have hjl:j<(aU p).length:=U
  have e:decide ((j:Int)<((aU p).length:Nat))=true:=aUX U
  have e3:=aA (i:=j) U
  obtain⟨x,hx⟩:=aD ((aU p)[j]'hjl);have hxj:(aU p)[j]? =some x:=by rw[hx];exact aUf _
  obtain⟨b,o,q1,_,q3⟩:=h.cst.hops.rs.dM nF hxj .i64;rw[hhv] at q1;have q4:ldN 2 (.pointer (some ⟨b,o,none⟩)) H=some (edV x,H):=(q3 H rfl).1;obtain⟨H1,hH1⟩:=aD (H++[Blk.cells (edC x) 83 .fix]);have x1:Ext H H1:=by rw[hH1];exact Fr.app _ _ _
  have st:stN 2 (.pointer (some ⟨H.length,0,none⟩)) (edV x) (H++[Blk.cells [Value.int .i64 0,.int .i64 0] 83 .fix])=some (undef,H1):=by
   rw[qV (n:=2) (vs:=edC x) (cG H _) aC rfl rfl (aUi 2) (wR x),gZ,hH1]
   rfl
  have b1:H1[H.length]? =some (.cells (edC x) 83 .fix):=by rw[hH1];exact cV _ _
  have h1:=h.dX x1;have l13:ld1 (.Q fb 13) H1=some (.map (some a.mb),H1):=by rw[<-hfb];exact bA h1.cst.fab rfl
  have lx: ∀{G:aF},Ext H1 G->ldN 2 (.pointer (some ⟨H.length,0,none⟩)) G=some (edV x,G):=λhG=>mV (cP b1 hG) (aUi 2)
  have lx1:=lx (Fr.dS _ _);have l7:ld1 (.Q pb 7) H1=some (.I p.bag,H1):=cQ (cP bp h1.own.ext) 7 (.I p.bag) rfl;have hbag:1<=p.bag/\p.bag<=64:=by
   have:=h.ok;unfold dT oW wi at this;simp only[aUl,decide_eq_true_eq] at this;omega
  have ebag:((p.bag.toNat:Nat):Int)=p.bag:=U
  obtain⟨H2,g2,x2,hl2⟩:=Lk.aSa (pr:=pkN) (H:=H1) (aQ rfl) (m:=m) U p.bag.toNat U
  rw[ebag] at g2;have lx2:=lx x2;have l13':ld1 (.Q fb 13) H2=some (.map (some a.mb),H2):=by rw[<-hfb];exact bA (h1.dX x2).cst.fab rfl
  have ck1:chk (some (edV x,H2)) (edV x)=true:=by
   obtain⟨x1,x2⟩:=x;simp[chk,veq,pJ,edV,edC]
  have ck2:chk (some (Value.map (some a.mb),H2)) (.map (some a.mb))=true:=by simp[chk,veq]
  obtain⟨H3,O3,g3,h3⟩:=h1.aSt hjl rfl x2 hl2;rw[<-hx] at g3;rw[bS,aDw];simp only[gsR,e,q1,q4,st,l13,lx1,l7,g2,lx2,ck1,l13',ck2,g3,aV,e3];exact ih (j+1) l H3 O3 {a with lb:=up1 a.lb j H1.length} U U U hfb hhv h3 ..
theorem aSw {Hs:aF}{pb:Nat}{ev0 wv0 nv0:Value}(hs0:Ext Hs H0)(hpg: ∀G:aF,(∀b,Hs.length<=b->G[b]? =H0[b]?)->PV G p ev wv nv)(bp:H0[pb]? =some (plB p ev0 wv0 nv0))(hck:kE p=0)(hst:0<=p.start/\p.start<65536)(hm:17592186045500<m)(hm2:m<=72057594037927936){fb:Nat}{hv:Value}:
  ∀(q i l:Nat)(H:aF)(O:FP->Nat->Prop)(a:FL)(F:Nat->Part->Nat->Prop),p.nodes.toNat-i=q->i<=p.nodes.toNat->q<l->a.fb=fb->a.hv=hv->FabG H0 H O a F p ev wv nv 0 (FS.qE (bH p)) i 0-> ∀(x2 x3 x45 Jm Av:Value),
  ∃H2 u2,aL l (aO prog (lvl prog pkN m) (aL m) R6) (R8 (lvl prog pkN m) (aL m)) (aG 1 (some (.Q pb 0)::x2::x3::aG 1 (some (pt fb)::aG 16 (some (.I (p.nodes.toNat:Nat))::some (.I (i:Nat))::aG 21 (x45::Jm::Av::aG 13 []))))) H=some (u2,H2)/\S5 Hs p H2 u2:=by
 intro q;induction q with
 |zero=>
  intro i l H O a F hq hi hl hfb hhv h;intros;obtain⟨l,rfl⟩:=aB l U
  obtain rfl:i=p.nodes.toNat:=U
  have h36:=oC p;have e:decide ((p.nodes.toNat:Int)<(p.nodes.toNat:Nat))=false:=by simp
  have l11:ld1 (.Q fb 11) H=some (hv,H):=by rw[<-hfb,<-hhv];exact bA h.cst.fab rfl
  have hlen:=h.cst.hops.nY;rw[hhv] at hlen;rw[bS,aDv];simp only[gsR,e];rw[aRt];simp only[gsR,l11,hlen];exact aSv hs0 hpg bp (m:=m) U (aU p).length 0 m H O a U U U hfb hhv h ..
 |succ q ih=>
  intro i l H O a F hq hi hl hfb hhv h;intros;obtain⟨l,rfl⟩:=aB l U
  obtain⟨N,hN⟩:=nG h.ok;have hn:=hN.hn;have h6:=hN.h6;have e:decide ((i:Int)<(p.nodes.toNat:Nat))=true:=aUX U
  have e3:=aA (i:=i) U
  have l12: ∀{G:aF},Ext H G->ld1 (.pointer (some ⟨fb,12,none⟩)) G=some (a.ns,G):=λhG=>by rw[<-hfb];exact bA (cP h.cst.fab hG) rfl
  have l12a:=l12 (Fr.dS _ _);have lpl:ldN 11 (.Q fb 0) H=some (plV p ev wv nv,H):=by rw[<-hfb];exact mV h.cst.fab (by simp[nP,plC])
  obtain⟨H1,Fn,y,g1,hn1⟩:=aRj (h.pv.ext h.own.ext) hck hst hm hm2 i U
  have l12b:=l12 hn1.ext;have ck:chk (some (a.ns,H1)) a.ns=true:=aDg h.cst.nds H1;obtain⟨ns',H2,H3,O3,g2,g3,h3⟩:=h.aSu U hn1
  rw[hfb] at g3;rw[bS,aDv];simp only[gsR,e,l12a,lpl,g1,l12b,ck,aRm,g2,g3,aV,e3];exact ih (i+1) l H3 O3 {a with ns:=ns',y:=up1 a.y i y} (up1 F i Fn) U U U hfb hhv h3 ..
theorem ck0 (h:kE p=0):dT p=true:=by
 unfold kE at h
 split at h
 ·assumption
 ·omega
theorem aD6 (hp:PV H p ev wv nv)(hck:kE p=0)(hst:0<=p.start/\p.start<65536)(hm:17592186045600<m)(hm2:m<=72057594037927936):
  ∃H2 u,lvl prog pkN m (.func 22) [plV p ev wv nv] H=some (u,H2)/\S5 H p H2 u:=by
 have hok:=ck0 hck;obtain⟨N,hN⟩:=nG hok;have hn:=hN.hn;have h6:=hN.h6;have hwl:p.weights.length<=1000:=by
  unfold dT oW wi at hok;simp only[aUl,decide_eq_true_eq] at hok;omega
 obtain⟨H1,hH1⟩:=aD (H++[plB p ev wv nv]);have x1:Ext H H1:=by rw[hH1];exact Fr.app _ _ _
 have b1:H1[H.length]? =some (plB p ev wv nv):=by rw[hH1];exact cV _ _
 have e1:H++[Blk.cells (plV p ev wv nv).cells.toList 40 .fix]=H1:=by rw[hH1];rfl
 have p1:=hp.ext x1;have l1:=fE b1;obtain⟨H2,g2,x2⟩:=aAJ p1 (m:=m-1) U U
 rw[hck] at g2;have b2:=cP b1 x2;have l2:=fE b2;have d0:((0:Int)!=0)=false:=rfl;obtain⟨H3,e',w',n',g3,c3⟩:=aDM (p1.ext x2) (by have:=hN.e15;omega) hwl (by have:=hN.nl;omega) (λxs hx=>by have:=hN.rl xs hx;omega) (λxs hx hz=>by have h1:=hN.rl xs hx;have:=hN.h2;rw[hz] at h1;simp only[List.length_nil] at h1;omega) (m:=m-1) U
 have b3:=cP b2 c3.ext;have l3:=fE b3;have pchk:=hp.chk;obtain⟨H4,hv,g4,x4,hw4,nw4⟩:=Zq ((p1.ext x2).ext c3.ext) (m:=m-1) (by have:=hN.e15;omega) U
 have hb:bld prog 87 [(0,plV p e' w' n'),(1,hv),(3,.map (some H4.length))]=some (.agg ⟨nP p e' w' n' hv (.N) H4.length 0⟩):=by
  rcases hw4 with⟨_,⟨rfl,_⟩|⟨_,_,_,rfl,_⟩⟩<;>kernel_rfl
 obtain⟨H5,hH5⟩:=aD (H4++[Blk.map [] 0]);have nm:lV H4=some (.map (some H4.length),H5):=by rw[hH5];rfl
 obtain⟨H6,hH6⟩:=aD (H5++[Blk.cells (nP p e' w' n' hv (.slice none 0 0) H4.length 0) 87 .fix]);have e6:H5++[Blk.cells (Value.cells (.agg ⟨nP p e' w' n' hv (.slice none 0 0) H4.length 0⟩)).toList 87 .fix]=H6:=by rw[hH6];rfl
 have x5:Ext H4 H5:=by rw[hH5];exact Fr.app _ _ _
 have x6:Ext H5 H6:=by rw[hH6];exact Fr.app _ _ _
 have iB:=x4.tr (x5.tr x6);have b6:=cP b3 iB;have l0:ld1 (.Q H.length 0) H6=some (.I (p.nodes.toNat:Nat),H6):=by rw[cQ b6 0 (.I p.nodes) rfl,show((p.nodes.toNat:Nat):Int)=p.nodes from U]
 obtain⟨a,ha⟩: ∃a:FL,a=⟨H5.length,hv,.N,H4.length,λ_=>⟨0,0,0,[],λ_=>0,λ_=>0,λ_=>[],λ_=>0,λ_=>0,λ_=>0,λ_=>0,λ_=>0,λ_=>[],λ_=>[],λ_ _=>0,λ_ _=>0,0,0,0,0,0⟩,λ_=>0⟩:=⟨_,rfl⟩
 have a1:a.fb=H5.length:=by rw[ha]
 have a2:a.hv=hv:=by rw[ha]
 have a3:a.ns= .N:=by rw[ha]
 have a4:a.mb=H4.length:=by rw[ha]
 have hl5:H5.length=H4.length+1:=by rw[hH5];simp
 have hl6:H6.length=H5.length+1:=by rw[hH6];simp
 obtain⟨O,hO⟩: ∃O:FP->Nat->Prop,O=λi b=>match i with
  | .fb=>b=H5.length
  | .cs=>aT hv b∨b=H4.length
  |_=>False:=⟨_,rfl⟩
 have hvl: ∀b,aT hv b->b<H4.length:=λb hb=>hw4.dO hb
 have hG:FabG H3 H6 O a (λ_ _ _=>False) p e' w' n' 0 (FS.qE (bH p)) 0 0:=by
  refine⟨hok,c3.pv,⟨λi j b hi hj=> ?_,λi b hi=> ?_,λi b hi=> ?_,iB⟩,⟨?_,?_,?_,?_,?_,?_,?_,?_⟩,λv hv=>by omega,λv hv=>by omega,λv hv=>by omega⟩
  ·rw[hO] at hi hj
   cases i<;>cases j<;>simp only at hi hj<;>(try rfl)<;>(try exact hi.elim)<;>(try exact hj.elim)
   ·rcases hj with hj|hj
    ·have:=hvl b hj;omega
    ·omega
   ·rcases hi with hi|hi
    ·have:=hvl b hi;omega
    ·omega
  ·rw[hO] at hi
   cases i<;>simp only at hi<;>(try exact hi.elim)
   ·omega
   ·rcases hi with hi|hi
    ·have:=hvl b hi;omega
    ·omega
  ·rw[hO] at hi
   have:=x4.1;cases i<;>simp only at hi<;>(try exact hi.elim)
   ·omega
   ·rcases hi with hi|hi
    ·exact nw4 b hi
    ·omega
  ·rw[a1,a2,a3,a4,hH6]
   exact cV _ _
  ·rw[hO,a1]
  ·rw[a2]
   exact m9 hw4 (x5.tr x6)
  ·intro b hb
   rw[a2] at hb;rw[hO];exact .inl hb
  ·rw[a3]
   exact Rw.fD
  ·intro b hb
   rw[a3] at hb;obtain⟨_,_,_,hh⟩:=hb;cases hh
  ·have hz:lkF p a 0=λ_=>none:=by
    funext e
    unfold lkF;rw[if_neg U]
   have hm5:IsMap edV H5 H4.length (λ_=>none):=by rw[hH5];exact IsMap.aCk H4
   rw[a4,hz];exact hm5.xL (by rw[x6.2 _ U id])
  ·rw[hO,a4]
   exact .inr rfl
 have hpg: ∀G:aF,(∀b,H.length<=b->G[b]? =H3[b]?)->PV G p e' w' n':=λG hG=>by
  have eA:=(x1.tr x2).1;obtain⟨us,n1,n2,n3,n4⟩:=c3.n;have hk: ∀{α:Type}{el:α->List Value}{e:TypeId}{sz:Nat}{w:Value}{xs:List α},Rw el e sz H3 w xs->New H2 w->Rw el e sz G w xs:=λh hn=>h.cZ λb hb=>hG b (aUt eA (hn b hb))
  exact⟨(hk c3.e.1 c3.e.2).rs,(hk c3.w.1 c3.w.2).rs,Iy (hk n1 n2).rs n3 λi u xs hu hx=>(hk (n4 i u xs hu hx).1 (n4 i u xs hu hx).2).rs,c3.pv.be,c3.pv.bw,c3.pv.bn⟩
 refine dL (aQ rfl) U ?_
 rw[aRv];simp only[gsR,e1,l1,g2,d0,l2,g3,l3,pchk,g4,nm,hb,e6,l0];exact aSw (H0:=H3) (Hs:=H) (pb:=H.length) (m:=m-1) (x1.tr (x2.tr c3.ext)) hpg b3 hck hst U U p.nodes.toNat 0 (m-1) H6 O a _ U U U a1 a2 hG ..
end
section
variable {H0 H H' H1 : aF} {O : FP → Nat → Prop} {a : FL} {F : Nat → Part → Nat → Prop} {p : PlanD} {ev wv nv : Value} {t m : Nat} {s : FS}
theorem aSB {G:aF}{b:Nat}(hz:G[b]? =some plZ)(hp:PV G p ev wv nv):stN 11 (.Q b 0) (plV p ev wv nv) G=some (undef,G.set b (plB p ev wv nv)):=by
 have e1:(plV p ev wv nv).cells.toList=plC p ev wv nv:=rfl;rw[fV 11 _ _ _ rfl,hz,e1];unfold plZ;rw[iW _ _ _ _ _ _ aC (by simp[plC]) hp.B7]
 simp[cU,plC,plB]
theorem Clo.aSy {G:aF}{b:Nat}{cs cs':List Value}{T:TypeId}(c:Clo H1 G p ev wv nv)(x:Ext H H1)(hb:H.length<=b)(hz:G[b]? =some (.cells cs T .fix)):Clo H (G.set b (.cells cs' T .fix)) p ev wv nv:=by
 have hk: ∀{α:Type}{el:α->List Value}{e:TypeId}{sz:Nat}{w:Value}{xs:List α},Rw el e sz G w xs->Rw el e sz (G.set b (.cells cs' T .fix)) w xs:=λh=>h.cZ λc hc=>aUe λhh=>by
  obtain⟨cs,hx⟩:=h.blk hc;rw[<-hh,hz] at hx;cases hx
 have hn: ∀v,New H1 v->New H v:=λv h b hb=>aUt x.1 (h b hb)
 obtain⟨us,n1,n2,n3,n4⟩:=c.n
 exact⟨⟨(hk c.e.1).rs,(hk c.w.1).rs,Iy (hk n1).rs n3 λi u xs hu hx=>(hk (n4 i u xs hu hx).1).rs,c.pv.be,c.pv.bw,c.pv.bn⟩,gM (x.tr c.ext) hb,⟨hk c.e.1,hn _ c.e.2⟩,⟨hk c.w.1,hn _ c.w.2⟩,us,hk n1,hn _ n2,n3,λi u xs hu hx=>⟨hk (n4 i u xs hu hx).1,hn _ (n4 i u xs hu hx).2⟩⟩
theorem aSz (hok:dT p=true):p.edges.length<=1000/\p.weights.length<=1000/\p.next.length<=1000/\(∀xs∈p.next,xs.length<=1000)/\ ∀xs∈p.next,xs≠[]:=by
 obtain⟨N,hN⟩:=nG hok;have h6:=hN.h6;have h2:=hN.h2;refine⟨by have:=hN.e15;omega,?_,by have:=hN.nl;omega,λxs hx=>by have:=hN.rl xs hx;omega,λxs hx hz=>by have h1:=hN.rl xs hx;rw[hz] at h1;simp only[List.length_nil] at h1;omega⟩
 unfold dT oW wi at hok;simp only[aUl,decide_eq_true_eq] at hok;omega
theorem Al (h:cW H0 H O a F p ev wv nv t s)(hm:3000<m): ∃H' e' w' n',lvl prog pkN m (.func 37) [pt a.fb] H=some (plV p e' w' n',H')/\Clo H H' p e' w' n':=by
 obtain⟨c1,c2,c3,c4,c5⟩:=aSz h.ok;obtain⟨H1,hH1⟩:=aD (H++[plZ]);have x1:Ext H H1:=by rw[hH1];exact Fr.app _ _ _
 have z1:H1[H.length]? =some plZ:=by rw[hH1];exact cV _ _
 have h1:=h.dX x1;have lpl:ldN 11 (.Q a.fb 0) H1=some (plV p ev wv nv,H1):=mV h1.cst.fab (by simp[nP,plC])
 obtain⟨H2,e',w',n',g2,c⟩:=aDM (h1.pv.ext h1.own.ext) c1 c2 c3 c4 c5 (m:=m-1) U
 have z2:=cP z1 c.ext;have st:=aSB z2 c.pv;have cc:=c.aSy (cs':=plC p e' w' n') x1 (aUi _) z2;obtain⟨H3,hH3⟩:=aD (H2.set H.length (plB p e' w' n'));have l3:=fE (H:=H3) (b:=H.length) (p:=p) (ev:=e') (wv:=w') (nv:=n') (by rw[hH3];exact dN z2)
 rw[<-hH3] at st;refine⟨H3,e',w',n',aS (aQ rfl) U ?_,by rw[hH3];exact cc⟩
 rw[aRG];simp only[gsR,wW,<-hH1,lpl,g2,st,l3]
def kq:PlanD:=oJ [0] 1 0 0
def kI:Nat×FS:=nA kq kx (FS.qE (bH kq))
def kR:FS:=kP (bH kq) (kP (bH kq) kI.2)
theorem aSA:kI.1=0/\I9 kq 1 kR=[kx]/\kR.k=2/\kI.2.k=0/\(kP (bH kq) kI.2).k=1/\(aU kq).length=2/\kq.nodes=2:=by decide+kernel
end
end Go.Proofs.YtciiopkbmjppfaaGreatDoor
namespace Go.Abs
open M
def iM (lane fr to:Nat)(b:List UInt8):Option Nat:=match fF b with
 |none=>none
 |some f=>if f.kind=1/\f.lane=lane/\fr<=cC fr f.seq/\cC fr f.seq<to then some (cC fr f.seq) else none
def nQ (ks:List Nat)(b:Option Nat):List Nat:=match b with
 |none=>ks
 |some n=>if n∈ks then ks else ks++[n]
def tZ (lane fr to:Nat)(l:List (List UInt8)):List Nat:=l.foldl (λks b=>nQ ks (iM lane fr to b)) []
structure Acc where
 usable:Int
 late:Int
 flying:Int
 held:Int
 lost:Int
deriving DecidableEq
def Acc.mH (a:Acc):List Value:=[.int .i64 a.usable,.int .i64 a.late,.int .i64 a.flying,.int .i64 a.held,.int .i64 a.lost]
def cI (n:Int):Int:=IntKind.i64.wrap (IntKind.u64.wrap n)
def Df (room lane:Nat)(x:Snd)(y:Rcv)(l:List (List UInt8)):Acc:=
 let fl:=(tZ lane y.n x.s l).length
 ⟨x.iR,cI (y.dA room-x.l),fl,y.h,IntKind.i64.wrap (cI (x.s-y.n)-fl)⟩
def sZ (c:Cfg)(s:NS):Nat:=((List.range c.lanes).map λk:Nat=>(dE s.hL k).length+((List.range c.aJ).map λi=>((List.range c.aJ).map λo=>jO s.rL i o k).sum).sum).sum
theorem Am (f:Nat->Nat)(n:Nat):((List.range (n+1)).map f).sum=((List.range n).map f).sum+f n:=by
 rw[aUM,List.map_append,List.sum_append];simp
theorem aSC {f:Nat->Nat}: ∀n,(∀i,i<n->f i=0)->((List.range n).map f).sum=0
 |0,_=>rfl
 |n+1,h=>by rw[Am,aSC n λi hi=>h i U,h n U]
theorem Dg {f:Nat->Nat}{B:Nat}: ∀n,(∀i,i<n->f i<=B)->((List.range n).map f).sum<=n*B
 |0,_=>by simp
 |n+1,h=>by
  have:=Dg n λi hi=>h i U
  have:=h n U
  rw[Am,Nat.succ_mul];omega
theorem S8 {α:Type}(f:Nat->α)(i:Nat):up1 f i (f i)=f:=by
 funext j
 unfold up1;split
 ·rename_i h
  rw[h]
 ·rfl
theorem S7 {α:Type}(f:Nat->α)(i:Nat)(x:α):up1 f i x i=x:=by unfold up1;rw[if_pos rfl]
theorem S9 {α:Type}(f:Nat->α){i j:Nat}(h:j≠i)(x:α):up1 f i x j=f j:=by unfold up1;rw[if_neg h]
section
variable {C : FC} {R st L ev : Nat} {s : FS}
variable {n : NS} {G G0 G1 : List Pkt} {x x0 x1 : Snd} {y y0 y1 : Rcv} {k : Nat}
theorem aD7 (C:FC)(h k:Nat)(s:FS):(oK C h k s).2.k=s.k:=by
 unfold oK
 split<;>rfl
theorem aD8 (C:FC)(h:Nat): ∀(q:Nat)(s:FS),(qF C h q s).k=s.k
 |0,_=>rfl
 |q+1,s=>by
  show(qF C h q (oK C h 0 s).2).k=_
  rw[aD8 C h q,aD7]
theorem aD9 (C:FC): ∀(l:List Nat)(s:FS),(tY C l s).k=s.k
 |[],_=>rfl
 |h::l,s=>by
  show(tY C l (qF C h (s.l h).length s)).k=_
  rw[aD9 C l,aD8]
theorem aSD (C:FC)(s:FS):(kP C s).k=s.k+1:=by
 unfold kP;rw[aD9];rfl
end
theorem aSF {a b:Nat}(ha:a<65536)(hb:b<65536)(h:pX a=pX b):a=b:=by
 have par: ∀x:Nat,x%2=0->(x^^^4129)%2=1:=λx hx=>by
  have h1:(x^^^4129).testBit 0=true:=by
   rw[Nat.testBit_xor];have:x.testBit 0=false:=by rw[Nat.testBit_zero];simp;omega
   rw[this];decide
  rw[Nat.testBit_zero] at h1;simpa using h1
 unfold pX at h;by_cases c1:a<32768
 ·by_cases c2:b<32768
  ·rw[if_pos c1,if_pos c2] at h
   omega
  ·rw[if_pos c1,if_neg c2] at h
   have:=par (b*2-65536) U
   omega
 ·by_cases c2:b<32768
  ·rw[if_neg c1,if_pos c2] at h
   have:=par (a*2-65536) U
   omega
  ·rw[if_neg c1,if_neg c2] at h
   have h2:(a*2-65536)^^^4129^^^4129=(b*2-65536)^^^4129^^^4129:=by rw[h]
   rw[Nat.xor_assoc,Nat.xor_assoc,Nat.xor_self,Nat.xor_zero,Nat.xor_zero] at h2;omega
theorem Tb: ∀(k:Nat){a b:Nat},a<65536->b<65536->tP k a=tP k b->a=b
 |0,_,_,_,_,h=>h
 |k+1,_,_,ha,hb,h=>by
  rw[Py,Py] at h;exact Tb k ha hb (aSF (Gz k ha) (Gz k hb) h)
theorem aEe {a b c:Nat}(h:a^^^c=b^^^c):a=b:=by
 have:a^^^c^^^c=b^^^c^^^c:=by rw[h]
 rwa [Nat.xor_assoc,Nat.xor_assoc,Nat.xor_self,Nat.xor_zero,Nat.xor_zero] at this
theorem aSG {a b:Nat}{c:UInt8}(ha:a<65536)(hb:b<65536)(h:nJ a c=nJ b c):a=b:=by
 unfold nJ at h;have h1:=Tb 8 (zS ha c) (zS hb c) h;exact aEe h1
theorem aEd: ∀(l:List UInt8){a b:Nat},a<65536->b<65536->l.foldl nJ a=l.foldl nJ b->a=b
 |[],_,_,_,_,h=>h
 |c::l,_,_,ha,hb,h=>aSG ha hb (aEd l (Ck ha c) (Ck hb c) h)
theorem aEa {x y:UInt8}{l:List UInt8}(h:crc (x::l)=crc (y::l)):x=y:=by
 unfold crc at h;rw[List.foldl_cons,List.foldl_cons] at h;have h1:=aEd l (Ck aC x) (Ck aC y) h
 unfold nJ at h1;have h2:=Tb 8 (zS aC x) (zS aC y) h1
 rw[Nat.xor_comm 65535,Nat.xor_comm 65535] at h2;have h3:=aEe h2;exact UInt8.toNat_inj.mp U
theorem aEc {b s:List UInt8}{f g:Frm}(h:pY b s f=some g):crc b=dC s:=by
 unfold pY at h
 split at h
 ·rename_i hh
  exact hh.1
 ·cases h
theorem aEb {bs:List UInt8}{g:Frm}(h:fF bs=some g):(bs.length=6/\crc (bs.take 4)=dC (bs.drop 4))∨(bs.length=12/\crc (bs.take 10)=dC (bs.drop 10)):=by
 unfold fF at h
 split at h
 ·rename_i hh
  exact .inl ⟨hh.1,aEc h⟩
 ·split at h
  ·rename_i hh
   exact .inr ⟨hh.1,aEc h⟩
  ·cases h
theorem aSH {x y:UInt8}{l:List UInt8}{f g:Frm}(h1:fF (x::l)=some f)(h2:fF (y::l)=some g):x=y:=by
 rcases aEb h1 with⟨n1,c1⟩|⟨n1,c1⟩<;>rcases aEb h2 with⟨n2,c2⟩|⟨n2,c2⟩
 ·exact aEa (c1.trans c2.symm)
 ·simp only[aUz] at n1 n2;omega
 ·simp only[aUz] at n1 n2;omega
 ·exact aEa (c1.trans c2.symm)
def GoodB (G:Frm->Prop)(b:List UInt8):Prop:=b=[]∨ ∃x y l f,b=y::l/\fF (x::l)=some f/\G f
theorem GoodB.dec {G:Frm->Prop}{b:List UInt8}(h:GoodB G b){f:Frm}(hf:fF b=some f):G f:=by
 rcases h with rfl|⟨x,y,l,g,rfl,h1,h2⟩
 ·rw[aRL (by simp) (by simp)] at hf
  cases hf
 ·obtain rfl:=aSH h1 hf
  rw[h1] at hf;cases hf;exact h2
theorem GoodB.Ta {G G':Frm->Prop}(hG: ∀f,G f->G' f){b:List UInt8}(h:GoodB G b):GoodB G' b:=
 h.imp id λ⟨x,y,l,f,h1,h2,h3⟩=>⟨x,y,l,f,h1,h2,hG f h3⟩
theorem GoodB.aSE {G:Frm->Prop}{b:List UInt8}(h:GoodB G b)(z:UInt8):GoodB G (b.set 0 z):=by
 rcases h with rfl|⟨x,y,l,f,rfl,h1,h2⟩
 ·exact .inl rfl
 ·exact .inr ⟨x,z,l,f,rfl,h1,h2⟩
theorem GoodB.enc {G:Frm->Prop}{f:Frm}(hf:f.ok)(hG:G f):GoodB G (mW f):=by
 by_cases hs:dB f=true
 ·have hd:=aRK hf hs
  rw[aRM hs];cases hb:jM f with
  |nil=>exact .inl rfl
  |cons x l=>exact .inr ⟨x,x,l,f,rfl,by rw[<-hb];exact hd,hG⟩
 ·refine .inl ?_
  unfold mW lP;rw[if_neg hs];rfl
theorem Tc {a n:Nat}(h1:n<a+30000)(h2:a<n+30000)(h3:a<1000000):cC a (n%65536)=n:=by unfold cC;omega
structure NumC (st:Nat)(c:Cfg)(ns:NS)(o:Nat)(f:Frm):Prop where
 data:f.kind=1-> ∃N,f.seq=N%65536/\st<=N/\N<(ns.snd o f.lane).s
 cred:f.kind=2-> ∃N,f.seq=N%65536/\st<=N/\N<=(ns.rcv o f.lane).dA c.room
 sent:f.kind=3-> ∃N,f.seq=N%65536/\st<=N/\N<=(ns.snd o f.lane).s
structure Up1 (c:Cfg)(n n':NS):Prop where
 s: ∀i k,(n.snd i k).s<=(n'.snd i k).s
 l: ∀i k,(n.rcv i k).dA c.room<=(n'.rcv i k).dA c.room
theorem NumC.Jc {st:Nat}{c:Cfg}{n n':NS}{o:Nat}{f:Frm}(h:NumC st c n o f)(u:Up1 c n n'):NumC st c n' o f:=
 ⟨λhk=>let⟨N,h1,h2,h3⟩:=h.data hk;⟨N,h1,h2,aUs h3 (u.s _ _)⟩,λhk=>let⟨N,h1,h2,h3⟩:=h.cred hk;⟨N,h1,h2,aUt h3 (u.l _ _)⟩,λhk=>let⟨N,h1,h2,h3⟩:=h.sent hk;⟨N,h1,h2,aUt h3 (u.s _ _)⟩⟩
structure PairI (st R:Nat)(x:Snd)(y:Rcv):Prop where
 a:st<=y.n
 b:y.n<=x.s
 c:x.s<=x.l
 d:x.l<=y.dA R
 e:y.h<=R
theorem PairI.Te {st R:Nat}{x:Snd}{y:Rcv}(h:PairI st R x y):x.l<=x.s+R/\y.dA R<=x.s+R:=by
 have h1:=h.d;have h2:=h.b;have h3:=h.e;unfold Rcv.dA at*;omega
def fnd (c:Cfg)(w:Nat):Option Nat:=c.by'.findIdx? λz:Nat=>decide ((z:Int)=(w:Int))
def pt' (c:Cfg)(w:Nat):Nat:=match fnd c w with
 |some j=>j+1
 |none=>0
theorem aSK {c:Cfg}(hd:c.by'.Nodup){j:Nat}(hj:j<c.by'.length):fnd c c.by'[j]=some j:=by
 unfold fnd;rw[List.findIdx?_eq_some_iff_getElem];refine⟨hj,by simp,λi hi=> ?_⟩
 simp only[decide_eq_true_eq];intro he;have he':c.by'[i]=c.by'[j]:=U
 exact List.pairwise_iff_getElem.mp hd i j U hj hi he'
theorem Je {c:Cfg}{w:Nat}(h:w∈c.by'): ∃j,fnd c w=some j/\pt' c w=j+1/\j<c.by'.length:=by
 obtain⟨j,hj⟩:=aRN h;refine⟨j,hj,?_,?_⟩
 ·unfold pt'
  rw[show fnd c w=some j from hj]
 ·rw[List.findIdx?_eq_some_iff_getElem] at hj
  exact hj.1
theorem rC {α:Type}(f:Nat->Nat->α)(i k:Nat)(x:α)(j l:Nat):up2 f i k x j l=if j=i/\l=k then x else f j l:=rfl
structure TakeR (st R j:Nat)(X:Nat->Snd)(Y:Nat->Rcv)(ns ns':NS):Prop where
 x: ∀k,PairI st R (X k) (ns'.rcv (j+1) k)
 y: ∀k,PairI st R (ns'.snd (j+1) k) (Y k)
 ro: ∀i k,i≠j+1->ns'.rcv i k=ns.rcv i k
 so: ∀i k,i≠j+1->ns'.snd i k=ns.snd i k
 s: ∀i k,(ns'.snd i k).s=(ns.snd i k).s
 l: ∀i k,(ns.rcv i k).dA R<=(ns'.rcv i k).dA R
theorem aSM {c:Cfg}{st R B fr j:Nat}{cv:Cfg}{nv ns:NS}{ov:Nat}(hst:st<65536)(hB:B<20000)(hR:R<=8)(hroom:c.room=R)(hrv:cv.room=R)(hj:fnd c fr=some j)
  (hX: ∀k,PairI st R (nv.snd ov k) (ns.rcv (j+1) k))(hY: ∀k,PairI st R (ns.snd (j+1) k) (nv.rcv ov k))(bX: ∀k,(nv.snd ov k).s<=st+B)(bY: ∀k,(ns.snd (j+1) k).s<=st+B){b:List UInt8}(hb:GoodB (NumC st cv nv ov) b):
  (jQ c (fr:Int) b ns).1≠61/\TakeR st R j (λk=>nv.snd ov k) (λk=>nv.rcv ov k) ns (jQ c (fr:Int) b ns).2:=by
 have same:TakeR st R j (λk=>nv.snd ov k) (λk=>nv.rcv ov k) ns ns:=⟨hX,hY,λ_ _ _=>rfl,λ_ _ _=>rfl,λ_ _=>rfl,λ_ _=>aUi _⟩
 unfold jQ;rw[show(c.by'.findIdx? λw:Nat=>decide ((w:Int)=(fr:Int)))=some j from hj]
 simp only;cases hd:fF b with
 |none=>exact⟨show(30:Nat)≠61 by decide,same⟩
 |some f=>
  have hG:=hb.dec hd;simp only;split
  ·exact⟨show(30:Nat)≠61 by decide,same⟩
  ·split
   ·
    rename_i hk;obtain⟨N,n1,n2,n3⟩:=hG.cred hk;have h1:=hY f.lane;have w1:=h1.Te;have hb1:=bY f.lane;have ha:=h1.a;have hbb:=h1.b;have hc:=h1.c;rw[hrv] at n3;have hw:cC (ns.snd (j+1) f.lane).l f.seq=N:=by rw[n1];exact Tc U U U
    have e:(ns.snd (j+1) f.lane).nK f.seq=ns.snd (j+1) f.lane∨((ns.snd (j+1) f.lane).nK f.seq=⟨(ns.snd (j+1) f.lane).s,N⟩/\(ns.snd (j+1) f.lane).l<=N):=by
     unfold Snd.nK;simp only;rw[hw];split
     ·exact .inl rfl
     ·exact .inr ⟨rfl,by omega⟩
    refine⟨show(0:Nat)≠61 by decide,⟨hX,λk=> ?_,λ_ _ _=>rfl,λi k hi=> ?_,λi k=> ?_,λ_ _=>aUi _⟩⟩
    ·show PairI st R (up2 _ (j+1) f.lane _ (j+1) k) _
     rw[rC];by_cases hk':k=f.lane
     ·rw[if_pos ⟨rfl,hk'⟩,hk']
      rcases e with e|⟨e,e2⟩
      ·rw[e]
       exact h1
      ·rw[e]
       exact⟨ha,hbb,by simp only;omega,n3,h1.e⟩
     ·rw[if_neg U]
      exact hY k
    ·show up2 _ (j+1) f.lane _ i k=_
     rw[rC,if_neg U]
    ·show Snd.s (up2 _ (j+1) f.lane _ i k)=_
     rw[rC];split
     ·rename_i hh
      rw[hh.1,hh.2];rcases e with e|⟨e,_⟩<;>rw[e]
     ·rfl
   ·split
    ·
     rename_i hk;obtain⟨N,n1,n2,n3⟩:=hG.sent hk;have h1:=hX f.lane;have w1:=h1.Te;have hb1:=bX f.lane;have ha:=h1.a;have hbb:=h1.b;have hc:=h1.c;have hd':=h1.d;have he:=h1.e;have hw:cC (ns.rcv (j+1) f.lane).n f.seq=N:=by rw[n1];exact Tc U U U
     have e:(ns.rcv (j+1) f.lane).mB c.room f.seq=ns.rcv (j+1) f.lane∨((ns.rcv (j+1) f.lane).mB c.room f.seq=⟨N,(ns.rcv (j+1) f.lane).h⟩/\(ns.rcv (j+1) f.lane).n<=N):=by
      unfold Rcv.mB;simp only;rw[hw];split
      ·exact .inl rfl
      ·exact .inr ⟨rfl,by omega⟩
     refine⟨show(0:Nat)≠61 by decide,⟨λk=> ?_,hY,λi k hi=> ?_,λ_ _ _=>rfl,λi k=>rfl,λi k=> ?_⟩⟩
     ·show PairI st R _ (up2 _ (j+1) f.lane _ (j+1) k)
      rw[rC];by_cases hk':k=f.lane
      ·rw[if_pos ⟨rfl,hk'⟩,hk']
       rcases e with e|⟨e,e2⟩
       ·rw[e]
        exact h1
       ·rw[e]
        unfold Rcv.dA at hd'
        exact⟨by simp only;omega,n3,hc,by unfold Rcv.dA;simp only;omega,he⟩
      ·rw[if_neg U]
       exact hX k
     ·show up2 _ (j+1) f.lane _ i k=_
      rw[rC,if_neg U]
     ·show _<=Rcv.dA (up2 _ (j+1) f.lane _ i k) R
      rw[rC];split
      ·rename_i hh
       rw[hh.1,hh.2];rcases e with e|⟨e,e2⟩
       ·rw[e];exact aUi _
       ·rw[e]
        unfold Rcv.dA;simp only;omega
      ·exact aUi _
    ·
     rename_i hk2 hk3;unfold o5;split
     ·exact⟨show(30:Nat)≠61 by decide,same⟩
     ·have hk1:f.kind=1:=by
       have hs:dB f=true:=by
        unfold fF at hd
        split at hd
        ·unfold pY at hd
         split at hd
         ·rename_i hh
          cases hd;exact hh.2
         ·cases hd
        ·split at hd
         ·unfold pY at hd
          split at hd
          ·rename_i hh
           cases hd;exact hh.2
          ·cases hd
         ·cases hd
       unfold dB at hs;by_cases h1:f.kind=1
       ·exact h1
       ·rw[if_neg h1] at hs
        simp[hk2,hk3] at hs
      obtain⟨N,n1,n2,n3⟩:=hG.data hk1;have h1:=hX f.lane;have w1:=h1.Te;have hb1:=bX f.lane;have ha:=h1.a;have hbb:=h1.b;have hc:=h1.c;have hd':=h1.d;have he:=h1.e;have hw:cC (ns.rcv (j+1) f.lane).n f.seq=N:=by rw[n1];exact Tc U U U
      by_cases c1:N<(ns.rcv (j+1) f.lane).n
      ·have e:(ns.rcv (j+1) f.lane).fH c.room f.seq=(60,ns.rcv (j+1) f.lane):=by
        unfold Rcv.fH;simp only;rw[hw,if_pos c1]
       rw[e]
       exact⟨show(60:Nat)≠61 by decide,same⟩
      ·have hlim:N<(ns.rcv (j+1) f.lane).dA c.room:=by rw[hroom];omega
       have e:(ns.rcv (j+1) f.lane).fH c.room f.seq=(0,⟨N+1,(ns.rcv (j+1) f.lane).h+1⟩):=by
        unfold Rcv.fH;simp only;rw[hw,if_neg c1,if_neg U]
       rw[e];rw[hroom] at hlim;unfold Rcv.dA at hlim hd';refine⟨show(0:Nat)≠61 by decide,⟨λk=> ?_,hY,λi k hi=> ?_,λ_ _ _=>rfl,λi k=>rfl,λi k=> ?_⟩⟩
       ·show PairI st R _ (up2 _ (j+1) f.lane _ (j+1) k)
        rw[rC];by_cases hk':k=f.lane
        ·rw[if_pos ⟨rfl,hk'⟩,hk']
         exact⟨by simp only;omega,by simp only;omega,hc,by unfold Rcv.dA;simp only;omega,by simp only;omega⟩
        ·rw[if_neg U]
         exact hX k
       ·show up2 _ (j+1) f.lane _ i k=_
        rw[rC,if_neg U]
       ·show _<=Rcv.dA (up2 _ (j+1) f.lane _ i k) R
        rw[rC];split
        ·rename_i hh
         rw[hh.1,hh.2];unfold Rcv.dA;simp only;omega
        ·exact aUi _
structure Mvd (q:Nat)(a b:NS):Prop where
 n: ∀i k,(b.rcv i k).n=(a.rcv i k).n
 h: ∀i k,(b.rcv i k).h<=(a.rcv i k).h
 l: ∀i k,(b.snd i k).l=(a.snd i k).l
 s: ∀i k,(a.snd i k).s<=(b.snd i k).s
 g: ∀i k,(b.snd i k).s<=(a.snd i k).s+q
 le:(∀i k,(a.snd i k).s<=(a.snd i k).l)-> ∀i k,(b.snd i k).s<=(b.snd i k).l
theorem Mvd.Td {a b:NS}(h1:b.snd=a.snd)(h2:b.rcv=a.rcv)(q:Nat):Mvd q a b:=by
 refine⟨λi k=>by rw[h2],λi k=>by rw[h2];exact aUi _,λi k=>by rw[h1],λi k=>by rw[h1];exact aUi _,λi k=>by rw[h1];omega,λh i k=>by rw[h1];exact h i k⟩
theorem Mvd.tr {q q':Nat}{a b d:NS}(h:Mvd q a b)(h':Mvd q' b d):Mvd (q+q') a d where
 n i k:=(h'.n i k).trans (h.n i k)
 h i k:=aUt (h'.h i k) (h.h i k)
 l i k:=(h'.l i k).trans (h.l i k)
 s i k:=aUt (h.s i k) (h'.s i k)
 g i k:=by have:=h.g i k;have:=h'.g i k;omega
 le hh:=h'.le (h.le hh)
theorem Mvd.up {q:Nat}{a b:NS}(h:Mvd q a b)(c:Cfg):Up1 c a b:=⟨h.s,λi k=>by
 have h1:=h.n i k;have h2:=h.h i k;unfold Rcv.dA;omega⟩
def SaidOk (st:Nat)(c:Cfg)(n:NS)(os:eQ):Prop:= ∀o∈os,∃p f,1<=p/\p<c.aJ/\o=qW c p f/\f.ok/\NumC st c n p f
theorem SaidOk.Tf (st:Nat)(c:Cfg)(n:NS):SaidOk st c n []:=λ_ h=>by cases h
theorem SaidOk.Jd {st:Nat}{c:Cfg}{n n':NS}{os:eQ}(h:SaidOk st c n os)(u:Up1 c n n'):SaidOk st c n' os:=λo ho=>by
 obtain⟨p,f,h1,h2,h3,h4,h5⟩:=h o ho
 exact⟨p,f,h1,h2,h3,h4,h5.Jc u⟩
theorem SaidOk.app {st:Nat}{c:Cfg}{n:NS}{a b:eQ}(h1:SaidOk st c n a)(h2:SaidOk st c n b):SaidOk st c n (a++b):=λo ho=>(List.mem_append.mp ho).elim (h1 o) (h2 o)
theorem aSL {c:Cfg}{st t:Nat}{s:NS}(hc:c.ok)(hi:NInv c t s)(hs: ∀i k,st<=(s.snd i k).s)(i:Nat){o:Nat}(ho:o<c.aJ):Mvd 1 s (iA c s i o).1/\SaidOk st c (iA c s i o).1 (iA c s i o).2:=by
 unfold iA;have hpk:=λk w (h:gK c.weights (s.whl o) (eE c s i o)=(some k,w))=>aBW h
 split
 ·exact⟨Mvd.Td rfl rfl 1,SaidOk.Tf st c s⟩
 ·rename_i k w he
  obtain⟨hk,hmay⟩:=hpk k w he;rw[hc.wlen] at hk;have hfree: ∀j l,(nL s i k j l).n=(s.rcv j l).n/\(nL s i k j l).h<=(s.rcv j l).h:=λj l=>by
   unfold nL;split
   ·exact⟨rfl,aUi _⟩
   ·rw[rC]
    split
    ·rename_i hh
     rw[hh.1,hh.2]
     exact⟨rfl,Nat.sub_le _ _⟩
    ·exact⟨rfl,aUi _⟩
  simp only;split
  ·exact⟨⟨λj l=>(hfree j l).1,λj l=>(hfree j l).2,λ_ _=>rfl,λ_ _=>aUi _,λ_ _=>Nat.le_succ _,λh=>h⟩,SaidOk.Tf st c _⟩
  ·rename_i hne
   have hu:(s.snd o k).s<(s.snd o k).l:=by
    unfold eE at hmay;simp only[aUl,Bool.or_eq_true,decide_eq_true_eq] at hmay;have:=hmay.2.resolve_left hne;unfold Snd.iR at this;omega
   have hnx:(s.snd o k).kH=((s.snd o k).s,⟨(s.snd o k).s+1,(s.snd o k).l⟩):=by
    unfold Snd.kH;rw[if_neg U]
   have hq: ∀x,(lA s.rL (i,o,k)).headD pk0=x->0<=x.body/\x.body<4294967296:=λx hx=>by
    unfold eE jO at hmay;simp only[aUl,decide_eq_true_eq] at hmay;cases hqq:lA s.rL (i,o,k) with
    |nil=>rw[hqq] at hmay;simp at hmay
    |cons y l=>
     rw[hqq] at hx
     obtain rfl:y=x:=hx
     obtain⟨e,he1,he2,_⟩:=aBV (show y∈lA s.rL (i,o,k) by rw[hqq];exact aUm ..)
     have:=(hi.rL e he1).body;rw[he2] at this;exact this
   have hb:=hq _ rfl;have hsn: ∀j l,(up2 s.snd o k (s.snd o k).kH.2 j l)=if j=o/\l=k then⟨(s.snd o k).s+1,(s.snd o k).l⟩ else s.snd j l:=λj l=>by rw[hnx,rC]
   refine⟨⟨λj l=>(hfree j l).1,λj l=>(hfree j l).2,λj l=> ?_,λj l=> ?_,λj l=> ?_,λh j l=> ?_⟩,λx hx=> ?_⟩
   ·simp only[hsn]
    split
    ·rename_i hh
     rw[hh.1,hh.2]
    ·rfl
   ·simp only[hsn]
    split
    ·rename_i hh
     rw[hh.1,hh.2];exact Nat.le_succ _
    ·exact aUi _
   ·simp only[hsn]
    split
    ·rename_i hh
     rw[hh.1,hh.2];exact aUi _
    ·exact Nat.le_succ _
   ·simp only[hsn]
    split
    ·exact hu
    ·exact h j l
   ·rw[List.mem_singleton] at hx
    have h3:=hc.lanes.2;refine⟨o,_,by omega,ho,hx,⟨by simp only;omega,by simp only;omega,by simp only;omega,by simp only;omega,by simp only;omega,by simp only;omega⟩,⟨λ_=> ?_,λhk=> ?_,λhk=> ?_⟩⟩
    ·refine⟨(s.snd o k).s,by simp only[hnx],hs o k,?_⟩
     simp only[hsn,and_self,if_true];exact Nat.lt_succ_self _
    ·simp at hk
    ·simp at hk
theorem Tg {c:Cfg}{st:Nat}(hc:c.ok){m:List Int}(hm: ∀x∈m,x= -1∨0<=x/\x<(c.aJ:Int))(hp:0<c.aJ): ∀(l:List Nat)(t:Nat)(s:NS×eQ),NInv c t s.1->(∀i k,st<=(s.1.snd i k).s)->SaidOk st c s.1 s.2->
  Mvd l.length s.1 (k9 c m l s).1/\SaidOk st c (k9 c m l s).1 (k9 c m l s).2
 |[],_,s,_,_,h=>⟨Mvd.Td rfl rfl 0,h⟩
 |i::l,t,s,hi,hs,h=>by
  unfold k9;by_cases h0:0<=m.getD i 0
  ·rw[if_pos h0]
   have ho:(m.getD i 0).toNat<c.aJ:=by
    rw[aUh];cases hg:m[i]? with
    |none=>simpa using hp
    |some x=>
     rcases hm x (aUn hg) with h1|h1
     ·subst h1
      simpa using hp
     ·simp only[aUG]
      omega
   obtain⟨a1,a2⟩:=aSL hc hi hs i ho;obtain⟨b1,b2⟩:=Tg hc hm hp l (t+1) ((iA c s.1 i (m.getD i 0).toNat).1,s.2++(iA c s.1 i (m.getD i 0).toNat).2) (hi.aOn hc _ _) (λj k=>aUt (hs j k) (a1.s j k)) ((h.Jd (a1.up c)).app a2)
   refine⟨?_,b2⟩;have:=a1.tr b1;rw[aUz,Nat.add_comm];exact this
  ·rw[if_neg h0]
   obtain⟨b1,b2⟩:=Tg hc hm hp l t s hi hs h
   exact⟨⟨b1.n,b1.h,b1.l,b1.s,λi k=>aUt (b1.g i k) (by rw[aUz];omega),b1.le⟩,b2⟩
theorem aSI {c:Cfg}{st:Nat}(hc:c.ok){s:NS}(hs: ∀i k,st<=(s.snd i k).s)(hl: ∀i k,st<=(s.rcv i k).dA c.room):SaidOk st c s (mX c s):=by
 intro o ho;unfold mX at ho;obtain⟨i,hi,ho⟩:=List.mem_flatMap.mp ho;obtain⟨k,hk,ho⟩:=List.mem_flatMap.mp ho;have hi:=aUR.mp hi;have hk:=aUR.mp hk;have h3:=hc.lanes.2;have hp:i+1<c.aJ:=by unfold Cfg.aJ;omega
 simp only[aUw,aUD,or_false] at ho;rcases ho with rfl|rfl
 ·exact⟨i+1,_,by omega,hp,rfl,⟨by simp only;omega,by simp only;omega,by simp only;omega,by simp only;omega,by simp only;omega,by simp only;omega⟩,⟨λhk=>by simp at hk,λhk=>by simp at hk,λ_=>⟨_,rfl,hs _ _,aUi _⟩⟩⟩
 ·exact⟨i+1,_,by omega,hp,rfl,⟨by simp only;omega,by simp only;omega,by simp only;omega,by simp only;omega,by simp only;omega,by simp only;omega⟩,⟨λhk=>by simp at hk,λ_=>⟨_,rfl,hl _ _,aUi _⟩,λhk=>by simp at hk⟩⟩
theorem aSJ (c:Cfg)(s:NS)(k:Nat):(iG c s k).snd=s.snd/\(iG c s k).rcv=s.rcv:=by
 unfold iG;split
 ·exact⟨rfl,rfl⟩
 ·split<;>exact⟨rfl,rfl⟩
theorem aEf (c:Cfg): ∀(l:List Nat)(s:NS),(l.foldl (iG c) s).snd=s.snd/\(l.foldl (iG c) s).rcv=s.rcv
 |[],s=>⟨rfl,rfl⟩
 |k::l,s=>by
  rw[List.foldl_cons];obtain⟨h1,h2⟩:=aEf c l (iG c s k);obtain⟨h3,h4⟩:=aSJ c s k
  exact⟨h1.trans h3,h2.trans h4⟩
theorem aSN {c:Cfg}{st t:Nat}{s:NS}(hc:c.ok)(hi:NInv c t s)(hs: ∀i k,st<=(s.snd i k).s)(hl: ∀i k,st<=(s.rcv i k).dA c.room):Mvd 6 s (kJ c s).1/\SaidOk st c (kJ c s).1 (kJ c s).2:=by
 have h1:=hi.aBK hc;have hp:0<c.aJ:=by unfold Cfg.aJ;omega
 have h6:c.aJ<=6:=by have:=hc.by';unfold Cfg.aJ;omega
 have h2:=MatI.Qf (req:=hZ c (Go.Abs.eT c s)) (rounds:=c.rounds) hp h1.gl h1.al h1.g h1.a;obtain⟨f1,f2⟩:=aEf c (List.range c.lanes) s;have fe:(eT c s).snd=s.snd/\(eT c s).rcv=s.rcv:=⟨f1,f2⟩;unfold kJ;simp only;obtain⟨M,hM⟩:=aD (lX (hZ c (eT c s)) c.aJ c.rounds (eT c s).g (eT c s).a);rw[<-hM] at h2⊢;obtain⟨s1,hs1⟩: ∃s1:NS,s1={eT c s with g:=M.g,a:=M.a}:=⟨_,rfl⟩;have i1:NInv c t s1:=by rw[hs1];exact {h1 with gl:=h2.gl,al:=h2.al,g:=h2.g,a:=h2.a}
 have m0:Mvd 0 s s1:=Mvd.Td (by rw[hs1];exact fe.1) (by rw[hs1];exact fe.2) 0
 rw[<-hs1];obtain⟨a1,a2⟩:=Tg hc h2.m hp (List.range c.aJ) t (s1,[]) i1 (λi k=>aUt (hs i k) (m0.s i k)) (SaidOk.Tf st c s1)
 have a3:=m0.tr a1;rw[aUH] at a3;obtain⟨r,hr⟩:=aD (k9 c M.m (List.range c.aJ) (s1,[]));rw[<-hr] at a2 a3⊢;refine⟨⟨a3.n,a3.h,a3.l,a3.s,λi k=>aUt (a3.g i k) U,a3.le⟩,?_⟩
 have u:Up1 c r.1 {r.1 with ticks:=s.ticks+1}:=⟨λ_ _=>aUi _,λ_ _=>aUi _⟩
 split
 ·exact(a2.Jd u).app ((aSI hc (λi k=>aUt (hs i k) (a3.s i k)) λi k=>aUt (hl i k) ((a3.up c).l i k)).Jd u)
 ·exact a2.Jd u
structure TopC (C:FC)(st R:Nat):Prop where
 ok: ∀v,v<C.N->(C.c v).ok
 room: ∀v,v<C.N->(C.c v).room=R
 start: ∀v,v<C.N->(C.c v).start=st
 me: ∀v,(C.c v).me=v
 hop: ∀(h:Nat)(e:Int×Int),C.hs[h]? =some e-> ∃v w:Nat,e=((v:Int),(w:Int))/\v<C.N/\w<C.N/\w∈(C.c v).by'/\v∈(C.c w).by'
 mem: ∀v w:Nat,v<C.N->w∈(C.c v).by'->((v:Int),(w:Int))∈C.hs
structure TopI (C:FC)(st R B:Nat)(s:FS):Prop where
 pair: ∀v w:Nat,v<C.N->w∈(C.c v).by'-> ∀k,PairI st R ((s.n v).snd (pt' (C.c v) w) k) ((s.n w).rcv (pt' (C.c w) v) k)
 num: ∀v i k,v<C.N->((s.n v).snd i k).s<=st+B
 low: ∀v i k,v<C.N->st<=((s.n v).snd i k).s
 lim: ∀v i k,v<C.N->st<=((s.n v).rcv i k).dA R
 le: ∀v i k,v<C.N->((s.n v).snd i k).s<=((s.n v).snd i k).l
 link: ∀h v w:Nat,C.hs[h]? =some ((v:Int),(w:Int))-> ∀b∈s.l h,GoodB (NumC st (C.c v) (s.n v) (pt' (C.c v) w)) b
section
variable {C : FC} {st R B : Nat} {s : FS}
theorem TopC.Jf (hC:TopC C st R){v w:Nat}(hv:v<C.N)(hw:w∈(C.c v).by'):w<C.N/\v∈(C.c w).by'/\w≠v:=by
 obtain⟨i,hi⟩:=List.getElem?_of_mem (hC.mem v w hv hw);obtain⟨v',w',e,h1,h2,h3,h4⟩:=hC.hop i _ hi;rw[Prod.mk.injEq] at e
 obtain rfl:v=v':=U
 obtain rfl:w=w':=U
 exact⟨h2,h4,λhe=>((hC.ok v hv).byN w hw).2 (he.trans (hC.me v).symm)⟩
theorem aEl {c:Cfg}{a b:Nat}(ha:a∈c.by')(hb:b∈c.by')(h:pt' c a=pt' c b):a=b:=by
 obtain⟨i,h1,h2,h3⟩:=Je ha;obtain⟨j,h4,h5,h6⟩:=Je hb;have hij:i=j:=U
 subst hij;unfold fnd at h1 h4;rw[List.findIdx?_eq_some_iff_getElem] at h1 h4;have e1:=h1.2.1;have e2:=h4.2.1;simp only[decide_eq_true_eq] at e1 e2;omega
theorem TopI.aSO (hC:TopC C st R)(B:Nat):TopI C st R B (FS.qE C):=by
 have hs: ∀v i k,v<C.N->((FS.qE C).n v).snd i k=⟨st,st+R⟩:=λv i k hv=>by
  show(⟨(C.c v).start,(C.c v).start+(C.c v).room⟩:Snd)=_
  rw[hC.start v hv,hC.room v hv]
 have hr: ∀v i k,v<C.N->((FS.qE C).n v).rcv i k=⟨st,0⟩:=λv i k hv=>by
  show(⟨(C.c v).start,0⟩:Rcv)=_
  rw[hC.start v hv]
 refine⟨λv w hv hw k=> ?_,λv i k hv=> ?_,λv i k hv=> ?_,λv i k hv=> ?_,λv i k hv=> ?_,λh v w _ b hb=>by cases hb⟩
 ·rw[hs v _ k hv,hr w _ k (hC.Jf hv hw).1]
  exact⟨aUi _,aUi _,Nat.le_add_right _ _,aUi _,Nat.zero_le _⟩
 ·rw[hs v i k hv];exact Nat.le_add_right _ _
 ·rw[hs v i k hv];exact aUi _
 ·rw[hr v i k hv];exact Nat.le_add_right _ _
 ·rw[hs v i k hv];exact Nat.le_add_right _ _
theorem TopI.aEi (hI:TopI C st R B s){s':FS}(h1: ∀v,(s'.n v).snd=(s.n v).snd/\(s'.n v).rcv=(s.n v).rcv)(h2: ∀h v w:Nat,C.hs[h]? =some ((v:Int),(w:Int))-> ∀b∈s'.l h,GoodB (NumC st (C.c v) (s.n v) (pt' (C.c v) w)) b):TopI C st R B s':=by
 refine⟨λv w hv hw k=> ?_,λv i k hv=> ?_,λv i k hv=> ?_,λv i k hv=> ?_,λv i k hv=> ?_,λh v w hh b hb=> ?_⟩
 ·rw[(h1 v).1,(h1 w).2];exact hI.pair v w hv hw k
 ·rw[(h1 v).1];exact hI.num v i k hv
 ·rw[(h1 v).1];exact hI.low v i k hv
 ·rw[(h1 v).2];exact hI.lim v i k hv
 ·rw[(h1 v).1];exact hI.le v i k hv
 ·exact(h2 h v w hh b hb).Ta λf hf=>hf.Jc ⟨λi k=>by rw[(h1 v).1];exact aUi _,λi k=>by rw[(h1 v).2];exact aUi _⟩
theorem TopI.Th (hI:TopI C st R B s){h:Nat}{l':List (List UInt8)}(hl: ∀v w:Nat,C.hs[h]? =some ((v:Int),(w:Int))-> ∀b∈l',GoodB (NumC st (C.c v) (s.n v) (pt' (C.c v) w)) b):TopI C st R B {s with l:=up1 s.l h l'}:=
 hI.aEi (λ_=>⟨rfl,rfl⟩) λj v w hj b hb=>by
  by_cases e:j=h
  ·subst e
   have:b∈up1 s.l j l' j:=hb;rw[S7] at this;exact hl v w hj b this
  ·have:b∈up1 s.l h l' j:=hb
   rw[S9 _ e] at this;exact hI.link j v w hj b this
theorem TopI.Jg (hC:TopC C st R)(hst:st<65536)(hB:B<20000)(hR:R<=8)(hI:TopI C st R B s){h:Nat}(hh:h<C.hs.length)(i:Nat):(oK C h i s).1≠61/\TopI C st R B (oK C h i s).2:=by
 unfold oK;cases hb:(s.l h)[i]? with
 |none=>exact⟨show(1:Nat)≠61 by decide,hI⟩
 |some b=>
  have he:C.hs[h]? =some C.hs[h]:=aUf hh;obtain⟨v,w,e,hv,hw,hvw,hwv⟩:=hC.hop h _ he;rw[e] at he;have hgd:C.hs.getD h (0,0)=((v:Int),(w:Int)):=by rw[aUh,he];rfl
  simp only[hgd,aUF];have hne:=(hC.Jf hv hvw).2.2;have hbm:b∈s.l h:=aUn hb;obtain⟨j,j1,j2,j3⟩:=Je hwv;obtain⟨g1,g2⟩:=aSM (c:=C.c w) (fr:=v) (B:=B) (cv:=C.c v) (nv:=s.n v) (ns:=s.n w) (ov:=pt' (C.c v) w) hst hB hR (hC.room w hw) (hC.room v hv) j1
   (λk=>by rw[<-j2];exact hI.pair v w hv hvw k) (λk=>by rw[<-j2];exact hI.pair w v hw hwv k) (λk=>hI.num v _ k hv) (λk=>hI.num w _ k hw) (hI.link h v w he b hbm)
  refine⟨g1,?_⟩;obtain⟨r,hr⟩:=aD ((jQ (C.c w) (v:Int) b (s.n w)).2);rw[<-hr] at g2⊢;have nw: ∀z,up1 s.n w r z=if z=w then r else s.n z:=λz=>rfl
  have hU:Up1 (C.c w) (s.n w) r:=⟨λi k=>Nat.le_of_eq (g2.s i k).symm,λi k=>by rw[hC.room w hw];exact g2.l i k⟩
  refine⟨λa d ha hd k=> ?_,λa i k ha=> ?_,λa i k ha=> ?_,λa i k ha=> ?_,λa i k ha=> ?_,λq a d hq b' hb'=> ?_⟩
  ·obtain⟨d1,d2,d3⟩:=hC.Jf ha hd
   show PairI st R ((up1 s.n w r a).snd _ k) ((up1 s.n w r d).rcv _ k)
   rw[nw,nw];by_cases c1:a=w
   ·subst c1
    rw[if_pos rfl,if_neg d3];by_cases c2:d=v
    ·subst c2
     rw[j2];exact g2.y k
    ·rw[g2.so _ _ (λhh=>c2 (aEl hd hwv (by rw[hh,j2])))]
     exact hI.pair a d ha hd k
   ·rw[if_neg c1]
    by_cases c3:d=w
    ·subst c3
     rw[if_pos rfl];by_cases c2:a=v
     ·subst c2
      rw[j2];exact g2.x k
     ·rw[g2.ro _ _ (λhh=>c2 (aEl d2 hwv (by rw[hh,j2])))]
      exact hI.pair a d ha hd k
    ·rw[if_neg c3]
     exact hI.pair a d ha hd k
  ·show((up1 s.n w r a).snd i k).s<=_
   rw[nw];split
   ·rename_i c1
    rw[g2.s,<-c1];exact hI.num a i k ha
   ·exact hI.num a i k ha
  ·show _<=((up1 s.n w r a).snd i k).s
   rw[nw];split
   ·rename_i c1
    rw[g2.s,<-c1];exact hI.low a i k ha
   ·exact hI.low a i k ha
  ·show _<=((up1 s.n w r a).rcv i k).dA R
   rw[nw];split
   ·rename_i c1
    refine aUt ?_ (g2.l i k);rw[<-c1];exact hI.lim a i k ha
   ·exact hI.lim a i k ha
  ·show((up1 s.n w r a).snd i k).s<=((up1 s.n w r a).snd i k).l
   rw[nw];split
   ·rename_i c1
    by_cases c2:i=j+1
    ·subst c2
     exact(g2.y k).c
    ·rw[g2.so _ _ c2,<-c1]
     exact hI.le a i k ha
   ·exact hI.le a i k ha
  ·have hsub:b'∈s.l q:=by
    have:b'∈up1 s.l h ((s.l h).eraseIdx i) q:=hb';by_cases c1:q=h
    ·subst c1
     rw[S7] at this;exact List.mem_of_mem_eraseIdx this
    ·rw[S9 _ c1] at this
     exact this
   have:=hI.link q a d hq b' hsub;show GoodB (NumC st (C.c a) (up1 s.n w r a) _) b'
   rw[nw];split
   ·rename_i c1
    subst c1;exact this.Ta λf hf=>hf.Jc hU
   ·exact this
theorem TopI.aEg (hC:TopC C st R)(hst:st<65536)(hB:B<20000)(hR:R<=8){h:Nat}(hh:h<C.hs.length): ∀(q:Nat){s:FS},TopI C st R B s->TopI C st R B (qF C h q s)
 |0,_,hI=>hI
 |q+1,_,hI=>TopI.aEg hC hst hB hR hh q (hI.Jg hC hst hB hR hh 0).2
theorem TopI.aEh (hC:TopC C st R)(hst:st<65536)(hB:B<20000)(hR:R<=8): ∀(l:List Nat){s:FS},(∀h∈l,h<C.hs.length)->TopI C st R B s->TopI C st R B (tY C l s)
 |[],_,_,hI=>hI
 |h::l,_,hl,hI=>TopI.aEh hC hst hB hR l (λh' hh=>hl h' (aUu _ hh)) (TopI.aEg hC hst hB hR (hl h (aUm ..)) _ hI)
theorem aEm {v:Nat}: ∀(os:eQ)(l:Nat->List (List UInt8))(h:Nat)(b:List UInt8),b∈os.foldl (o9 C v) l h->b∈l h∨ ∃o∈os,o.2=b/\Ai C v o.1=h
 |[],l,h,b,hb=> .inl hb
 |o::os,l,h,b,hb=>by
  rw[List.foldl_cons] at hb;rcases aEm os _ h b hb with h1|⟨o',ho,h1,h2⟩
  ·unfold o9 at h1
   by_cases c:h=Ai C v o.1
   ·subst c
    rw[S7] at h1;unfold I0 at h1
    split at h1
    ·exact .inl h1
    ·rcases List.mem_append.mp h1 with h1|h1
     ·exact .inl h1
     ·rw[List.mem_singleton] at h1
      exact .inr ⟨o,aUm ..,h1.symm,rfl⟩
   ·rw[S9 _ c] at h1
    exact .inl h1
  ·exact .inr ⟨o',aUu _ ho,h1,h2⟩
theorem aEn: ∀(n h:Nat)(b:List UInt8),b∈sX C s n h->b∈s.l h∨ ∃v,v<n/\ ∃o∈o8 C s v,o.2=b/\Ai C v o.1=h
 |0,h,b,hb=> .inl hb
 |n+1,h,b,hb=>by
  have e:sX C s (n+1)=(o8 C s n).foldl (o9 C n) (sX C s n):=by
   unfold sX;rw[aUM,List.foldl_append];rfl
  rw[e] at hb;rcases aEm _ _ h b hb with h1|⟨o,ho,h1,h2⟩
  ·rcases aEn n h b h1 with h3|⟨v,hv,h3⟩
   ·exact .inl h3
   ·exact .inr ⟨v,by omega,h3⟩
  ·exact .inr ⟨n,by omega,o,ho,h1,h2⟩
theorem TopI.Ti (hC:TopC C st R)(hI:TopI C st R B s)(hN: ∀v,v<C.N-> ∃t,NInv (C.c v) t (s.n v)):TopI C st R (B+6) (qG C s):=by
 have key: ∀v,v<C.N->Mvd 6 (s.n v) (kJ (C.c v) (s.n v)).1/\SaidOk st (C.c v) (kJ (C.c v) (s.n v)).1 (o8 C s v):=λv hv=>by
  obtain⟨t,ht⟩:=hN v hv;exact aSN (hC.ok v hv) ht (λi k=>hI.low v i k hv) λi k=>by rw[hC.room v hv];exact hI.lim v i k hv
 have nd: ∀v,v<C.N->(qG C s).n v=(kJ (C.c v) (s.n v)).1:=λv hv=>by
  show nO C s C.N v=_
  unfold nO;rw[if_pos hv]
 have up: ∀v,v<C.N->Up1 (C.c v) (s.n v) (kJ (C.c v) (s.n v)).1:=λv hv=>(key v hv).1.up _
 refine⟨λv w hv hw k=> ?_,λv i k hv=> ?_,λv i k hv=> ?_,λv i k hv=> ?_,λv i k hv=> ?_,λh v w hh b hb=> ?_⟩
 ·have hw':=(hC.Jf hv hw).1
  have h0:=hI.pair v w hv hw k;have m1:=(key v hv).1;have m2:=(key w hw').1;have u2:=(up w hw').l (pt' (C.c w) v) k;rw[hC.room w hw'] at u2;rw[nd v hv,nd w hw'];refine⟨?_,?_,m1.le (λi k=>hI.le v i k hv) _ _,?_,aUt (m2.h _ _) h0.e⟩
  ·rw[m2.n];exact h0.a
  ·rw[m2.n];exact aUt h0.b (m1.s _ _)
  ·rw[m1.l];exact aUt h0.d u2
 ·rw[nd v hv]
  have:=(key v hv).1.g i k;have:=hI.num v i k hv;omega
 ·rw[nd v hv]
  exact aUt (hI.low v i k hv) ((key v hv).1.s i k)
 ·rw[nd v hv]
  have:=(up v hv).l i k;rw[hC.room v hv] at this;exact aUt (hI.lim v i k hv) this
 ·rw[nd v hv]
  exact(key v hv).1.le (λi k=>hI.le v i k hv) i k
 ·obtain⟨v',w',e,hv,hw,hvw,hwv⟩:=hC.hop h _ hh
  rw[Prod.mk.injEq] at e
  obtain rfl:v=v':=U
  obtain rfl:w=w':=U
  rw[nd v hv];rcases aEn C.N h b hb with h1|⟨z,hz,o,ho,h1,h2⟩
  ·exact(hI.link h v w hh b h1).Ta λf hf=>hf.Jc (up v hv)
  ·obtain⟨p,f,p1,p2,p3,p4,p5⟩:=(key z hz).2 o ho
   have hlt:p-1<(C.c z).by'.length:=by unfold Cfg.aJ at p2;omega
   have ho1:o.1=(C.c z).by'[p-1]:=by
    rw[p3]
    show(C.c z).by'.getD (p-1) 0=_
    rw[aUh,aUf hlt];rfl
   have hmem:=hC.mem z o.1 hz (by rw[ho1];exact List.getElem_mem _)
   have hix:C.hs[h]? =some ((z:Int),(o.1:Int)):=by
    rw[<-h2];unfold Ai;rw[aUf (List.idxOf_lt_length_of_mem hmem)];exact congrArg some (List.getElem_idxOf _)
   rw[hh] at hix;rw[aUE,Prod.mk.injEq] at hix
   obtain rfl:v=z:=U
   have hwo:w=(C.c v).by'[p-1]:=by rw[<-ho1];omega
   have hpt:pt' (C.c v) w=p:=by
    have:=aSK (hC.ok v hv).byD hlt;unfold pt';rw[hwo,this];show p-1+1=p
    omega
   rw[<-h1,p3,hpt];exact GoodB.enc p4 p5
theorem TopI.aSP (hC:TopC C st R)(hst:st<65536)(hB:B+6<20000)(hR:R<=8)(hI:TopI C st R B s)(hN: ∀v,v<C.N-> ∃t,NInv (C.c v) t (s.n v)):TopI C st R (B+6) (kP C s):=
 TopI.aEh hC hst hB hR _ (λh hh=>aUR.mp hh) (hI.Ti hC hN)
theorem aEk: ∀(m a:Nat)(l:List Nat),l.Nodup->(∀x∈l,a<=x/\x<a+m)->l.length<=m
 |0,a,l,_,h=>by
  cases l with
  |nil=>exact Nat.zero_le _
  |cons x l=>have:=h x (aUm ..);omega
 |m+1,a,l,hd,h=>by
  have h1:=aEk m a (l.erase (a+m)) (hd.erase _) λx hx=>by
   have h2:=h x (List.mem_of_mem_erase hx);have h3:x≠a+m:=λe=>by
    rw[e] at hx
    exact(List.Nodup.not_mem_erase hd) hx
   omega
  have:=List.length_erase_le (a:=a+m) (l:=l);have h4:l.length<=(l.erase (a+m)).length+1:=by
   by_cases hm:a+m∈l
   ·rw[List.length_erase_of_mem hm]
    omega
   ·rw[List.erase_of_not_mem hm]
    omega
  omega
theorem aSQ (lane fr to:Nat)(l:List (List UInt8)):(tZ lane fr to l).Nodup/\ ∀x∈tZ lane fr to l,fr<=x/\x<to:=by
 have: ∀(l:List (List UInt8))(ks:List Nat),(ks.Nodup/\ ∀x∈ks,fr<=x/\x<to)->((l.foldl (λks b=>nQ ks (iM lane fr to b)) ks).Nodup/\ ∀x∈l.foldl (λks b=>nQ ks (iM lane fr to b)) ks,fr<=x/\x<to):=by
  intro l;induction l with
  |nil=>exact λks h=>h
  |cons b l ih=>
   intro ks h;rw[List.foldl_cons];refine ih _ ?_;unfold nQ;split
   ·exact h
   ·rename_i n hn
    split
    ·exact h
    ·rename_i hne
     refine⟨List.nodup_append.mpr ⟨h.1,by simp,λx hx y hy=> ?_⟩,λx hx=> ?_⟩
     ·rw[List.mem_singleton] at hy
      intro e;exact hne (by rw[<-hy,<-e];exact hx)
     ·rcases List.mem_append.mp hx with hx|hx
      ·exact h.2 x hx
      ·rw[List.mem_singleton] at hx
       rw[hx];unfold iM at hn
       split at hn
       ·cases hn
       ·split at hn
        ·rename_i hh
         rw[aUE] at hn;rw[<-hn]
         exact⟨hh.2.2.1,hh.2.2.2⟩
        ·cases hn
 exact this l [] ⟨List.nodup_nil,λx hx=>by cases hx⟩
theorem aEj {n:Int}(h:0<=n)(h2:n<1000000):cI n=n:=by
 have h1:IntKind.u64.wrap n=n:=by simp[IntKind.wrap,IntKind.bits,IntKind.signed];omega
 unfold cI;rw[h1,bJ U U]
structure AccOk (room:Int)(a:Acc):Prop where
 held:0<=a.held/\a.held<=room
 usable:0<=a.usable
 late:0<=a.late
 flying:0<=a.flying
 lost:0<=a.lost
 sum:a.usable+a.late+a.flying+a.held+a.lost=room
theorem PairI.acc {x:Snd}{y:Rcv}(h:PairI st R x y)(hR:R<=8)(hs:x.s<100000)(lane:Nat)(l:List (List UInt8)):AccOk R (Df R lane x y l):=by
 obtain⟨f1,f2⟩:=aSQ lane y.n x.s l;have hb:=h.b;have hc:=h.c;have hd:=h.d;have he:=h.e;have hf:=aEk (x.s-y.n) y.n _ f1 λz hz=>by have:=f2 z hz;omega
 obtain⟨f,hff⟩:=aD ((tZ lane y.n x.s l).length);rw[<-hff] at hf;unfold Rcv.dA at hd;have e1:cI (((y.dA R:Nat):Int)-(x.l:Nat))=((y.dA R:Nat):Int)-(x.l:Nat):=aEj (by unfold Rcv.dA;omega) (by unfold Rcv.dA;omega)
 have e2:IntKind.i64.wrap (cI (((x.s:Nat):Int)-(y.n:Nat))-(f:Nat))=((x.s:Nat):Int)-(y.n:Nat)-(f:Nat):=by
  rw[aEj U U,bJ U U]
 unfold Df;simp only;rw[<-hff,e1,e2];unfold Snd.iR Rcv.dA
 exact⟨by simp only;omega,by simp only;omega,by simp only;omega,by simp only;omega,by simp only;omega,by simp only;omega⟩
end
end Go.Abs
namespace Go.Proofs.YtciiopkbmjppfaaGreatDoor
open Go.Proofs.Tryz
open Go.Abs Go.Abs.M
open Classical
structure OpT where
 kind:Nat
 x:Pkt
 near:Bool
 h:Int
 k:Int
 at':Int
 b:UInt8
structure OpT.ok (o:OpT):Prop where
 kind:o.kind<256
 body:0<=o.x.body/\o.x.body<4294967296
def OpT.lU (o:OpT):List Value:=[.int .u8 o.kind,.I o.x.src,.I o.x.dst,.I o.x.lane,.int .u32 o.x.body,.bool o.near,.I o.h,.I o.k,.I o.at',.int .u8 o.b.toNat]
def OpT.qH (o:OpT):Value:= .agg ⟨o.lU⟩
def opB (o:OpT):Blk:= .cells o.lU 33 .fix
def opZ:OpT:=⟨0,⟨0,0,0,0⟩,false,0,0,0,0⟩
theorem aSR (o:OpT):cA o.lU=true:=rfl
theorem rE (o:OpT)(H:aF):H++[Blk.cells (Value.cells o.qH).toList 33 .fix]=H++[opB o]:=rfl
theorem aEo (H:aF):H++[Blk.cells [Value.int .u8 0,.int .i64 0,.int .i64 0,.int .i64 0,.int .u32 0,.bool false,.int .i64 0,.int .i64 0,.int .i64 0,.int .u8 0] 33 .fix]=H++[opB opZ]:=rfl
section
variable {H H' : aF} {m b : Nat} {o o' : OpT}
theorem An (h:H[b]? =some (opB o)):ldN 10 (.Q b 0) H=some (o.qH,H):=mV h (aUi 10)
theorem s9 (h:H[b]? =some (opB o))(j:Nat)(v:Value)(hv:o.lU[j]? =some v):ld1 (.Q b j) H=some (v,H):=bA h hv
theorem Tj (h:H[b]? =some (opB o))(o':OpT):stN 10 (.Q b 0) o'.qH H=some (undef,H.set b (opB o')):=by
 rw[qV (n:=10) (vs:=o'.lU) h aC rfl rfl (aUi 10) (aSR o')]
 rfl
theorem Tk (h:H[b]? =some (opB o)){j:Nat}{v:Value}(hv:v.cells.toList=[v])(ha:cA [v]=true)(hj:j<10)(ho:o.lU.set j v=o'.lU):stN 1 (.Q b j) v H=some (undef,H.set b (opB o')):=by
 rw[fV 1 _ _ _ (by rw[hv];rfl),h]
 unfold opB;rw[hv,iW _ _ _ _ _ _ aC (by simp[OpT.lU];omega) ha,<-ho]
 rfl
theorem aSS (hm:0<m): ∃H',lvl prog pkN m (.func 33) [o.qH] H=some (({o with at':=0}:OpT).qH,H')/\Ext H H':=by
 obtain⟨H1,hH1⟩:=aD (H++[opB o]);have x1:Ext H H1:=by rw[hH1];exact Fr.app _ _ _
 have b1:H1[H.length]? =some (opB o):=by rw[hH1];exact cV _ _
 obtain⟨H2,hH2⟩:=aD (H1++[opB opZ]);have x2:Ext H1 H2:=by rw[hH2];exact Fr.app _ _ _
 have b2:H2[H.length]? =some (opB o):=cP b1 x2;have c2:H2[H1.length]? =some (opB opZ):=by rw[hH2];exact cV _ _
 have s3:=Tk (o':={o with at':=0}) (j:=8) (v:= .I 0) b2 rfl rfl aC rfl
 obtain⟨H3,hH3⟩: ∃H3,H3=H2.set H.length (opB {o with at':=0}):=⟨_,rfl⟩;rw[<-hH3] at s3;have x3:Ext H H3:=by rw[hH3];exact gM (x1.tr x2) (aUi _)
 have b3:H3[H.length]? =some (opB {o with at':=0}):=by rw[hH3,aUj (bU b2)]
 have l3:=An b3;have hne:H.length≠H1.length:=by rw[hH1,aUp];simp
 have c3:H3[H1.length]? =some (opB opZ):=by rw[hH3,aUe hne];exact c2
 have s4:=Tj c3 {o with at':=0};obtain⟨H4,hH4⟩: ∃H4,H4=H3.set H1.length (opB {o with at':=0}):=⟨_,rfl⟩;rw[<-hH4] at s4;have b4:H4[H1.length]? =some (opB {o with at':=0}):=by rw[hH4,aUj (bU c3)]
 have l4:=An b4;have x4:Ext H H4:=by rw[hH4];exact gM x3 x1.1
 refine⟨H4,aS (aQ rfl) U ?_,x4⟩
 rw[aRE];simp only[gsR,rE,aEo,<-hH1,<-hH2,s3,l3,s4,l4]
def inW (p:PlanD)(n:Nat)(o:OpT):OpT:={o with x:=⟨max o.x.src 0%p.nodes,max o.x.dst 0%p.nodes,max o.x.lane 0%p.lanes,o.x.body⟩,h:=max o.h 0%(n:Int)}
theorem Jh (a b:Int)(hb:0<b):bin prog .rem 3 (.I (max a 0)) (.I b)=some (.I (max a 0%b)):=by
 rw[Bd _ _ _ _ U,Int.tmod_eq_emod_of_nonneg U]
theorem aST {p:PlanD}{ev wv nv:Value}(hn:0<p.nodes)(hl:0<p.lanes){n:Nat}(hh:0<n)(ho:o.near=true)(hm:0<m): ∃H',lvl prog pkN m (.func 34) [o.qH,plV p ev wv nv,.I (n:Nat)] H=some ((inW p n o).qH,H')/\Ext H H':=by
 obtain⟨H1,hH1⟩:=aD (H++[opB o]);have x1:Ext H H1:=by rw[hH1];exact Fr.app _ _ _
 have b1:H1[H.length]? =some (opB o):=by rw[hH1];exact cV _ _
 obtain⟨H2,hH2⟩:=aD (H1++[plB p ev wv nv]);have x2:Ext H1 H2:=by rw[hH2];exact Fr.app _ _ _
 have p2:H2[H1.length]? =some (plB p ev wv nv):=by rw[hH2];exact cV _ _
 have e2:H1++[Blk.cells (Value.cells (plV p ev wv nv)).toList 40 .fix]=H2:=by rw[hH2];rfl
 obtain⟨H3,hH3⟩:=aD (H2++[opB opZ]);have x3:Ext H2 H3:=by rw[hH3];exact Fr.app _ _ _
 have b3:H3[H.length]? =some (opB o):=cP (cP b1 x2) x3;have p3:H3[H1.length]? =some (plB p ev wv nv):=cP p2 x3;have c3:H3[H2.length]? =some (opB opZ):=by rw[hH3];exact cV _ _
 have n1:H.length≠H1.length:=by rw[hH1,aUp];simp
 have n2:H.length≠H2.length:=by rw[hH2,aUp,hH1,aUp];simp;omega
 have n3:H1.length≠H2.length:=by rw[hH2,aUp];simp
 have turn: ∀(G:aF)(q q':OpT)(j:Nat)(v:Value),G[H.length]? =some (opB q)->G[H1.length]? =some (plB p ev wv nv)->G[H2.length]? =some (opB opZ)->Ext H G->v.cells.toList=[v]->cA [v]=true->j<10->q.lU.set j v=q'.lU->
   ∃G',stN 1 (.pointer (some ⟨H.length,j,none⟩)) v G=some (undef,G')/\G'[H.length]? =some (opB q')/\G'[H1.length]? =some (plB p ev wv nv)/\G'[H2.length]? =some (opB opZ)/\Ext H G':=λG q q' j v g1 g2 g3 g4 v1 v2 v3 v4=>
  ⟨_,Tk g1 v1 v2 v3 v4,by rw[aUj (bU g1)],by rw[aUe n1];exact g2,by rw[aUe n2];exact g3,gM g4 (aUi _)⟩
 have q3:=s9 b3 5 (.bool true) (by show some (Value.bool o.near)=_;rw[ho])
 have s1:=s9 b3 1 _ rfl;have r1:=cQ p3 0 _ rfl;obtain⟨G1,t1,a1,d1,f1,y1⟩:=turn H3 o {o with x:={o.x with src:=max o.x.src 0%p.nodes}} 1 (.I (max o.x.src 0%p.nodes)) b3 p3 c3 ((x1.tr x2).tr x3) rfl rfl aC rfl
 have s2:=s9 a1 2 _ rfl;have r2:=cQ d1 0 _ rfl;obtain⟨G2,t2,a2,d2,f2,y2⟩:=turn G1 _ {o with x:={o.x with src:=max o.x.src 0%p.nodes,dst:=max o.x.dst 0%p.nodes}} 2 (.I (max o.x.dst 0%p.nodes)) a1 d1 f1 y1 rfl rfl aC rfl
 have s3:=s9 a2 3 _ rfl;have r3:=cQ d2 2 _ rfl;obtain⟨G3,t3,a3,d3,f3,y3⟩:=turn G2 _ {o with x:=⟨max o.x.src 0%p.nodes,max o.x.dst 0%p.nodes,max o.x.lane 0%p.lanes,o.x.body⟩} 3 (.I (max o.x.lane 0%p.lanes)) a2 d2 f2 y2 rfl rfl aC rfl
 have s4:=s9 a3 6 _ rfl;obtain⟨G4,t4,a4,d4,f4,y4⟩:=turn G3 _ (inW p n o) 6 (.I (max o.h 0%(n:Int))) a3 d3 f3 y3 rfl rfl aC rfl
 have l4:=An a4;have s5:=Tj f4 (inW p n o);obtain⟨G5,hG5⟩:=aD (G4.set H2.length (opB (inW p n o)));rw[<-hG5] at s5;have b5:G5[H2.length]? =some (opB (inW p n o)):=by rw[hG5,aUj (bU f4)]
 have l5:=An b5;have y5:Ext H G5:=by rw[hG5];exact gM y4 (aUt x1.1 x2.1)
 have w1:=Jh o.x.src p.nodes hn;have w2:=Jh o.x.dst p.nodes hn;have w3:=Jh o.x.lane p.lanes hl;have w4:=Jh o.h (n:Int) U
 refine⟨G5,aS (aQ rfl) U ?_,y5⟩
 rw[aRF];simp only[gsR,rE,aEo,<-hH1,e2,<-hH3,q3,s1,Zs,r1,w1,t1,s2,r2,w2,t2,s3,r3,w3,t3,s4,w4,t4,l4,s5,l5]
end
end Go.Proofs.YtciiopkbmjppfaaGreatDoor
noncomputable section
namespace Go.Proofs.YtciiopkbmjppfaaGreatDoor
open Go.Proofs.Tryz
open Go.Abs Go.Abs.M
variable (O:aH)(L:LV)(k:KV)(N P Q R S T U V W X Y Z a b c d e f g i j l m n o p q r s t u v w x y z A B C D E F G H I J zz zy zx zw zv zu zt zs zr zq zp zo zn zm zl zk zj zi zh zg zf ze zd zc zb za yz:Value)(rr:List Value)(h:aF)
def Tz:CC:=cc prog 31760 3 [1,1,1,1,0,1,0,0,1,0,0,1,1,0,1,0,0]
def T1:KV:=(bV 2 (cJ prog O L (cc prog 31760 3 [1,1,1,1,0,1,0,0,1,0,0,1,1,1]) (bV 1 (cJ prog O L (cc prog 31760 3 [1,1,1,1,0,1,0,0,1,1]) (iO 31760 k)))))
def T0 (O:aH)(L:LV) (k:KV) (e m n o p q:Value):MV:=aW 13 n λaa=>bB prog .gtr 3 aa (.I 0) λab=>aN ab (k .ret (aG 4 (e::aG 5 (some (.bool false)::n::o::p::q::aG 103 [])))) (bB prog .add 3 o (.I 1) λac=>k .normal (aG 4 (e::aG 5 (m::n::ac::p::q::aG 103 []))))
theorem aS5:T1 O L k (.exit 2) (aG 4 (e::aG 5 (m::n::o::p::q::aG 103 [])))=T0 O L k e m n o p q:=by kernel_rfl
theorem aEx:aO prog O L Tz k (aG 4 (e::aG 5 (m::n::o::p::q::aG 103 [])))=bN p λaa=>bB prog .lss 3 q aa λab=>aN ab (bI 5 p q λac=>bM (ldN 5 ac) λad=>bM (aZ 46 [(.I 0),(.I 0),(.I 0),(.I 0),(.I 0)] .fix) λae=>bM (stN 5 ae ad) λaf=>bFL 3 ae λag=>bB prog .lss 3 ag (.I 0) λah=>gFL ah false 3 ae λai=>bG ah false (aX n) λaj=>bG ah false (aP (nC aj)) λak=>bG ah false (aP (mJ 0 ak)) λal=>gFL ah false 3 al λam=>bG ah false (aP (bin prog .gtr 3 ai am)) λan=>bP ah (.bool true) an λao=>gFL ao false 0 ae λap=>bG ao false (aP (bin prog .lss 3 ap (.I 0))) λaq=>bP ao (.bool true) aq λar=>gFL ar false 1 ae λau=>bG ar false (aP (bin prog .lss 3 au (.I 0))) λav=>bP ar (.bool true) av λaw=>gFL aw false 2 ae λax=>bG aw false (aP (bin prog .lss 3 ax (.I 0))) λay=>bP aw (.bool true) ay λaz=>gFL az false 4 ae λba=>bG az false (aP (bin prog .lss 3 ba (.I 0))) λbb=>bP az (.bool true) bb λbc=>gFL bc false 0 ae λbd=>gFL bc false 1 ae λbe=>bG bc false (aP (bin prog .add 3 bd be)) λbf=>gFL bc false 2 ae λbg=>bG bc false (aP (bin prog .add 3 bf bg)) λbh=>gFL bc false 3 ae λbi=>bG bc false (aP (bin prog .add 3 bh bi)) λbj=>gFL bc false 4 ae λbk=>bG bc false (aP (bin prog .add 3 bj bk)) λbl=>bG bc false (aX n) λbm=>bG bc false (aP (nC bm)) λbn=>bG bc false (aP (mJ 0 bn)) λbo=>gFL bc false 3 bo λbp=>bG bc false (aP (bin prog .neq 3 bl bp)) λbq=>bP bc (.bool true) bq λbr=>aN br (k .ret (aG 4 (e::aG 5 (some (.bool false)::n::o::p::q::aG 103 [])))) (bB prog .add 3 q (.I 1) λbs=>k .normal (aG 4 (e::aG 5 (m::n::o::p::bs::aG 103 []))))) (k (.exit 2) (aG 4 (e::aG 5 (m::n::o::p::q::aG 103 [])))):=by kernel_rfl
def Ji:CC:=cc prog 31760 3 [1,1,1,1,0,1,0,0]
def Jj:KV:=(bV 0 (cJ prog O L (cc prog 31760 3 [1,1,1,1,1]) (cS prog Tryz.f3)))
theorem aS4:Jj O L (.exit 0) (aG 4 (e::aG 5 (m::n::o::p::q::aG 103 [])))=aM (aK [(.bool true)]):=by kernel_rfl
theorem aEw:aO prog O L Ji k (aG 4 (e::aG 5 (m::n::o::p::q::aG 103 [])))=bN e λaa=>bB prog .lss 3 o aa λab=>aN ab (bI 10 e o λac=>bM (ldN 10 ac) λad=>bC O 11 [n,ad] λae=>aW 11 n λaf=>bC O 12 [af] λag=>L (aO prog O L Tz) (T1 O L k) (aG 4 (e::aG 5 (m::n::o::ag::some (.I 0)::aG 103 [])))) (k (.exit 0) (aG 4 (e::aG 5 (m::n::o::p::q::aG 103 [])))):=by kernel_rfl
theorem aS6:aR prog O L 3 [N,P,Q,R,S]=bN S λaa=>bB prog .gtr 3 aa (.I 100) λab=>gO ab false O 9 [] λac=>bG ab false (aP (un prog .not ac)) λad=>bP ab (.bool true) ad λae=>aN ae (bC O 9 [] λaf=>aM (aK [af])) (bC O 10 [N,P,Q,R] λag=>bB prog .eql 26 ag (.pointer none) λah=>aN ah (aM (aK [(.bool false)])) (L (aO prog O L Ji) (Jj O L) (aG 4 (S::aG 5 (some (.bool false)::ag::some (.I 0)::some aE::some aE::aG 103 []))))):=by kernel_rfl
theorem aTd:aR prog O L 9 []=bM (b9 5 1 1 [(.int .u8 0)] [(0,(.int .u8 0))]) λaa=>bC O 21 [aa,(.int .u8 1),(.int .u8 0),(.int .u16 0)] λab=>bC O 22 [ab] λac=>bX 0 ac λad=>bX 1 ac λae=>bB prog .neq 59 ae (.int .u16 0) λaf=>bG af false (aX ad) λag=>bG af false (aP (bin prog .eql 41 ag (.pointer none))) λah=>bP af (.bool true) ah λai=>bG ai false (aX ad) λaj=>gO ai false O 31 [aj,(.I 0)] λak=>bG ai false (aP (bin prog .eql 72 ak (.pointer none))) λal=>bP ai (.bool true) al λam=>bG am false (aX ad) λan=>gO am false O 14 [an,(.I 0)] λao=>bG am false (aP (bin prog .eql 51 ao (.pointer none))) λap=>bP am (.bool true) ap λaq=>bG aq false (aX ad) λar=>gO aq false O 31 [ar,(.I 1)] λau=>bG aq false (aP (bin prog .eql 72 au (.pointer none))) λav=>bP aq (.bool true) av λaw=>bG aw false (aX ad) λax=>gO aw false O 31 [ax,(.I 1)] λay=>gO aw false O 32 [ay] λaz=>bG aw false (aP (bin prog .eql 74 az (.pointer none))) λba=>bP aw (.bool true) ba λbb=>aN bb (aM (aK [(.bool false)])) (bO (bld prog 31 [(0,(.I 0)),(1,(.I 1)),(3,(.int .u32 7))]) λbc=>bC O 23 [ad,bc] λbd=>bC O 24 [ad] λbe=>bC O 24 [ad] λbf=>bC O 25 [ad,(.I 1)] λbg=>bN bg λbh=>bB prog .eql 3 bh (.I 1) λbi=>bG bi true (aX ad) λbj=>gO bi true O 17 [bj] λbk=>bG bi true (aP (bin prog .eql 3 bk (.I 0))) λbl=>bP bi bl (.bool false) λbm=>bG bm true (aX ad) λbn=>gO bm true O 12 [bn] λbo=>bG bm true (aP (cX bo)) λbp=>bG bm true (aP (bin prog .eql 3 bp (.I 2))) λbq=>bP bm bq (.bool false) λbr=>aM (aK [br])):=by kernel_rfl
theorem aSU:aR prog O L 10 [N,P,Q,R]=bC O 21 [N,P,Q,R] λaa=>bM (aZ 40 [(.I 0),(.N),(.I 0),(.I 0),(.I 0),(.I 0),(.I 0),(.I 0),(.N),(.int .u16 0),(.N)] .fix) λab=>bM (stN 11 ab aa) λac=>bM (ldN 11 ab) λad=>bC O 22 [ad] λae=>bX 0 ae λaf=>bX 1 ae λag=>bB prog .neq 59 ag (.int .u16 0) λah=>bG ah false (aX af) λai=>bG ah false (aP (bin prog .eql 41 ai (.pointer none))) λaj=>bP ah (.bool true) aj λak=>aN ak (aM (aK [(.pointer none)])) (bM (ldN 11 ab) λal=>bO (bld prog 44 [(0,al),(1,af)]) λam=>bM (aZ 44 (Value.cells am).toList .fix) λan=>aM (aK [an])):=by kernel_rfl
theorem uB:aR prog O L 11 [N,P]=bM (aZ 33 (Value.cells P).toList .fix) λaa=>bF 5 aa λab=>bT ab (.bool true) λac=>bM (ldN 10 aa) λad=>bQF 0 N λae=>bM (ldN 11 ae) λaf=>aW 11 N λag=>bC O 13 [ag] λah=>gH λh10=>ifK (chk ((ldN 11 ae) h10) af&&(chk ((ldN 10 aa) h10) ad&&(true))) (bN ah λai=>bC O 34 [ad,af,ai] λaj=>bC O 33 [aj] λak=>bM (stN 10 aa ak) λal=>aW 11 N λam=>bFL 6 aa λan=>bC O 14 [am,an] λao=>bFL 0 aa λap=>bB prog .rem 5 ap (.int .u8 16) λaq=>bB prog .lss 5 aq (.int .u8 4) λar=>aN ar (aW 11 N λau=>bF 1 aa λav=>bM (ldN 4 av) λaw=>bC O 23 [au,aw] λax=>bB prog .eql 59 ax (.int .u16 0) λay=>aN ay (aW 12 N λaz=>bF 1 aa λba=>bM (ldN 4 ba) λbb=>bM (b9 31 4 1 [(.I 0),(.I 0),(.I 0),(.int .u32 0)] [(0,bb)]) λbc=>bM (app 31 4 32 az bc) λbd=>bQF 12 N λbe=>bT be bd λbf=>aM (aK [])) (aM (aK []))) (bB prog .lss 5 aq (.int .u8 8) λbg=>aN bg (aW 11 N λbh=>bFL 6 aa λbi=>bFL 7 aa λbj=>bC O 35 [bh,bi,bj] λbk=>bB prog .eql 59 bk (.int .u16 61) λbl=>aN bl (aW 13 N λbm=>bB prog .add 3 bm (.I 1) λbn=>bQF 13 N λbo=>bT bo bn λbp=>aM (aK [])) (aM (aK []))) (bB prog .eql 5 aq (.int .u8 8) λbq=>aN bq (bFL 7 aa λbr=>bC O 28 [ao,br] λbs=>aM (aK [])) (bB prog .eql 5 aq (.int .u8 9) λbt=>aN bt (bFL 7 aa λbu=>bC O 30 [ao,bu] λbv=>aM (aK [])) (bB prog .eql 5 aq (.int .u8 10) λbw=>aN bw (bFL 7 aa λbx=>bFL 8 aa λbz=>bFL 9 aa λca=>bC O 36 [ao,bx,bz,ca] λcb=>aM (aK [])) (bB prog .lss 5 aq (.int .u8 13) λcd=>aN cd (aW 11 N λce=>bC O 27 [ce] λcf=>aM (aK [])) (bC O 18 [N] λcg=>aM (aK [])))))))):=by kernel_rfl
def Tm:CC:=cc prog 199709 12 [1,1,0,1,0,0,1,1,0,0,1,1,0,0]
def Tp:KV:=(bV 2 (bV 1 (cJ prog O L (cc prog 199709 12 [1,1,0,1,0,0,1,1,1]) (iO 199709 k))))
def Tn (O:aH)(L:LV) (k:KV) (a c d e m n s t:Value):MV:=bB prog .add 3 n (.I 1) λaa=>k .normal (a::aG 1 (c::d::e::aG 5 (m::aa::aG 4 (s::t::aG 16 []))))
theorem aSW:Tp O L k (.exit 2) (a::aG 1 (c::d::e::aG 5 (m::n::aG 4 (s::t::aG 16 []))))=Tn O L k a c d e m n s t:=by kernel_rfl
theorem aEq:aO prog O L Tm k (a::aG 1 (c::d::e::aG 5 (m::n::aG 4 (s::t::aG 16 []))))=bB prog .lss 3 t s λaa=>aN aa (bC O 29 [a,e,t] λab=>bX 0 ab λac=>bX 1 ab λad=>bM (aZ 46 [(.I 0),(.I 0),(.I 0),(.I 0),(.I 0)] .fix) λae=>bM (stN 5 ae ac) λaf=>bM (ldN 5 ae) λag=>bM (b9 46 5 1 [(.I 0),(.I 0),(.I 0),(.I 0),(.I 0)] [(0,ag)]) λah=>bM (app 46 5 40 d ah) λai=>bB prog .add 3 t (.I 1) λaj=>k .normal (a::aG 1 (c::ai::e::aG 5 (m::n::aG 4 (s::aj::aG 16 []))))) (k (.exit 2) (a::aG 1 (c::d::e::aG 5 (m::n::aG 4 (s::t::aG 16 []))))):=by kernel_rfl
def Tl:CC:=cc prog 199709 12 [1,1,0,1,0,0]
def To:KV:=(bV 0 (cJ prog O L (cc prog 199709 12 [1,1,1]) (cS prog Tryz.f12)))
theorem aSV:To O L (.exit 0) (a::aG 1 (c::d::e::aG 5 (m::n::aG 4 (s::t::aG 16 []))))=aM (aK [d]):=by kernel_rfl
theorem aEp:aO prog O L Tl k (a::aG 1 (c::d::e::aG 5 (m::n::aG 4 (s::t::aG 16 []))))=bB prog .lss 3 n m λaa=>aN aa (bC O 37 [a] λab=>bO (pF 2 ab) λac=>L (aO prog O L Tm) (Tp O L k) (a::aG 1 (c::d::n::aG 5 (m::n::aG 4 (ac::some (.I 0)::aG 16 []))))) (k (.exit 0) (a::aG 1 (c::d::e::aG 5 (m::n::aG 4 (s::t::aG 16 []))))):=by kernel_rfl
theorem aSX:aR prog O L 12 [N]=bC O 13 [N] λaa=>bN aa λab=>L (aO prog O L Tl) (To O L) (N::aG 1 (some (.N)::some (.N)::some aE::aG 5 (ab::some (.I 0)::aG 4 (some aE::some aE::aG 16 [])))):=by kernel_rfl
def Tr:CC:=cc prog 7341581 17 [1,1,1,0,1,0,0]
def Tt:KV:=(bV 2 (cJ prog O L (cc prog 7341581 17 [1,1,1,1]) (cS prog Tryz.f17)))
theorem aSZ:Tt O L (.exit 2) (a::aG 1 (c::d::aG 5 (l::m::aG 9 (w::x::y::aG 9 []))))=aM (aK [d]):=by kernel_rfl
theorem aEs:aO prog O L Tr k (a::aG 1 (c::d::aG 5 (l::m::aG 9 (w::x::y::aG 9 []))))=bB prog .lss 3 y x λaa=>aN aa (bI 5 w y λab=>bM (ldN 5 ab) λac=>bM (aZ 46 [(.I 0),(.I 0),(.I 0),(.I 0),(.I 0)] .fix) λad=>bM (stN 5 ad ac) λae=>bFL 2 ad λaf=>bB prog .add 3 d af λag=>bB prog .add 3 y (.I 1) λah=>k .normal (a::aG 1 (c::ag::aG 5 (l::m::aG 9 (w::x::ah::aG 9 []))))) (k (.exit 2) (a::aG 1 (c::d::aG 5 (l::m::aG 9 (w::x::y::aG 9 []))))):=by kernel_rfl
def Tq:CC:=cc prog 7341581 17 [1,1,0,1,0,0]
def Ts:KV:=(bV 0 (cJ prog O L (cc prog 7341581 17 [1,1,1]) (cS prog Tryz.f17)))
theorem aSY:Ts O L (.exit 0) (a::aG 1 (c::d::aG 5 (l::m::aG 9 (w::x::y::aG 9 []))))=bC O 12 [a] λaa=>bN aa λab=>L (aO prog O L Tr) (Tt O L) (a::aG 1 (c::d::aG 5 (l::m::aG 9 (aa::ab::some (.I 0)::aG 9 [])))):=by kernel_rfl
theorem aEr:aO prog O L Tq k (a::aG 1 (c::d::aG 5 (l::m::aG 9 (w::x::y::aG 9 []))))=bB prog .lss 3 m l λaa=>aN aa (bC O 40 [a,m] λab=>bB prog .add 3 d ab λac=>bB prog .add 3 m (.I 1) λad=>k .normal (a::aG 1 (c::ac::aG 5 (l::ad::aG 9 (w::x::y::aG 9 []))))) (k (.exit 0) (a::aG 1 (c::d::aG 5 (l::m::aG 9 (w::x::y::aG 9 []))))):=by kernel_rfl
theorem aS0:aR prog O L 17 [N]=bC O 37 [N] λaa=>bO (pF 0 aa) λab=>L (aO prog O L Tq) (Ts O L) (N::aG 1 (some (.I 0)::some (.I 0)::aG 5 (ab::some (.I 0)::aG 9 (some aE::some aE::some aE::aG 9 [])))):=by kernel_rfl
def Tv:CC:=cc prog 29 18 [1,1,0,0,1,0,0,1,1,0,0]
def Ty:KV:=(bV 2 (bV 1 (cJ prog O L (cc prog 29 18 [1,1,0,0,1,1]) (iO 29 k))))
def Tw (O:aH)(L:LV) (k:KV) (a c d e:Value):MV:=bB prog .add 3 c (.I 1) λaa=>k .normal (a::aG 1 (aa::d::e::aG 42 []))
theorem aS2:Ty O L k (.exit 2) (a::aG 1 (c::d::e::aG 42 []))=Tw O L k a c d e:=by kernel_rfl
theorem aEu:aO prog O L Tv k (a::aG 1 (c::d::e::aG 42 []))=bB prog .lss 3 e d λaa=>aN aa (aW 11 a λab=>bC O 35 [ab,c,(.I 0)] λac=>bB prog .eql 59 ac (.int .u16 61) λad=>aN ad (aW 13 a λae=>bB prog .add 3 ae (.I 1) λaf=>bQF 13 a λag=>bT ag af λah=>bB prog .add 3 e (.I 1) λai=>k .normal (a::aG 1 (c::d::ai::aG 42 []))) (bB prog .add 3 e (.I 1) λaj=>k .normal (a::aG 1 (c::d::aj::aG 42 [])))) (k (.exit 2) (a::aG 1 (c::d::e::aG 42 []))):=by kernel_rfl
def Tu:CC:=cc prog 29 18 [1,1,0,0]
def Tx (O:aH)(L:LV):KV:=(bV 0 (cS prog Tryz.f18))
theorem aS1:Tx O L (.exit 0) (a::aG 1 (c::d::e::aG 42 []))=aM (aK []):=by kernel_rfl
theorem aEt:aO prog O L Tu k (a::aG 1 (c::d::e::aG 42 []))=aW 11 a λaa=>bC O 13 [aa] λab=>bN ab λac=>bB prog .lss 3 c ac λad=>aN ad (aW 11 a λae=>bC O 14 [ae,c] λaf=>bC O 15 [af] λag=>bN ag λah=>L (aO prog O L Tv) (Ty O L k) (a::aG 1 (c::ah::some (.I 0)::aG 42 []))) (k (.exit 0) (a::aG 1 (c::d::e::aG 42 []))):=by kernel_rfl
theorem aS3:aR prog O L 18 [N]=aW 11 N λaa=>bC O 27 [aa] λab=>L (aO prog O L Tu) (Tx O L) (N::aG 1 (some (.I 0)::some aE::some aE::aG 42 [])):=by kernel_rfl
theorem aEv:aR prog O L 29 [N,P,Q]=bM (aZ 46 [(.I 0),(.I 0),(.I 0),(.I 0),(.I 0)] .fix) λaa=>bC O 37 [N] λab=>bM (aZ 40 [(.I 0),(.N),(.I 0),(.I 0),(.I 0),(.I 0),(.I 0),(.I 0),(.N),(.int .u16 0),(.N)] .fix) λac=>bM (stN 11 ac ab) λad=>bC O 14 [N,P] λae=>bB prog .eql 51 ae (.pointer none) λaf=>bG af false (aX Q) λag=>bG af false (aP (bin prog .lss 3 ag (.I 0))) λah=>bP af (.bool true) ah λai=>bG ai false (aX Q) λaj=>gFL ai false 2 ac λak=>bG ai false (aP (bin prog .geq 3 aj ak)) λal=>bP ai (.bool true) al λam=>aN am (bO (bld prog 46 []) λan=>bM (stN 5 aa an) λao=>bR (ldN 5 aa) λw16=>aM (aK [w16,(.bool false)])) (bC O 13 [N] λap=>bI 2 ap P λaq=>bM (ldN 2 aq) λar=>bM (aZ 83 [(.I 0),(.I 0)] .fix) λau=>bM (stN 2 au ar) λav=>bFL 0 au λaw=>gH λh23=>bC O 31 [N,aw] λax=>bM (ldN 11 ac) λay=>ifK (chk ((ldN 11 ac) h23) ay&&(true)) (bF 0 au λaz=>bL az λba=>ifK (chk ((ld1 az) h23) ba&&(true)) (bF 1 au λbb=>bL bb λbc=>ifK (chk ((ld1 bb) h23) bc&&(true)) (bC O 56 [ay,ba,bc] λbd=>bC O 55 [ax,bd,Q] λbe=>bFL 1 au λbf=>gH λh33=>bC O 31 [N,bf] λbg=>bM (ldN 11 ac) λbh=>ifK (chk ((ldN 11 ac) h33) bh&&(true)) (bF 1 au λbi=>bL bi λbj=>ifK (chk ((ld1 bi) h33) bj&&(true)) (bF 0 au λbk=>bL bk λbl=>ifK (chk ((ld1 bk) h33) bl&&(true)) (bC O 56 [bh,bj,bl] λbm=>bC O 57 [bg,bm,Q] λbn=>bC O 58 [be] λbo=>bC O 59 [bn] λbp=>bC O 60 [be] λbq=>bB prog .sub 112 bp bq λbr=>bM (cK prog 112 3 br) λbs=>bC O 61 [bn] λbt=>bO (bld prog 46 [(0,bo),(1,bs),(3,bt)]) λbu=>bM (aZ 46 [(.I 0),(.I 0),(.I 0),(.I 0),(.I 0)] .fix) λbv=>bM (stN 5 bv bu) λbw=>bC O 15 [ae] λbx=>bC O 63 [bn] λbz=>bC O 64 [be] λca=>bC O 62 [bx,Q,bz,ca] λcb=>bF 2 bv λcd=>bT cd cb λce=>gH λh56=>bC O 64 [be] λcf=>gH λh57=>bC O 63 [bn] λcg=>bB prog .sub 112 cf cg λch=>bM (cK prog 112 3 ch) λci=>bF 2 bv λcj=>bL cj λck=>ifK (chk ((ld1 cj) h57) ck&&(chk ((ld1 cj) h56) ck&&(true))) (bB prog .sub 3 ci ck λcl=>bF 4 bv λcm=>bT cm cl λcn=>bM (ldN 5 bv) λco=>bM (stN 5 aa co) λcp=>bR (ldN 5 aa) λw68=>aM (aK [w68,(.bool true)]))))))))):=by kernel_rfl
def T8:CC:=cc prog 219055916016 40 [1,1,1,1,0,1,0,0,1,1,0,0,1,1,1,0,0,1,1,0,0,1,1,0,0]
def Ud:KV:=(bV 4 (bV 3 (cJ prog O L (cc prog 219055916016 40 [1,1,1,1,0,1,0,0,1,1,0,0,1,1,1,0,0,1,1,1]) (iO 219055916016 k))))
def Ua (O:aH)(L:LV) (k:KV) (e f g i j l y z I J zx zw:Value):MV:=bB prog .add 3 J (.I 1) λaa=>k .normal (aG 4 (e::f::g::i::j::l::aG 12 (y::z::aG 8 (I::aa::aG 2 (zx::zw::aG 14 [])))))
theorem aS9:Ud O L k (.exit 4) (aG 4 (e::f::g::i::j::l::aG 12 (y::z::aG 8 (I::J::aG 2 (zx::zw::aG 14 [])))))=Ua O L k e f g i j l y z I J zx zw:=by kernel_rfl
theorem aEA:aO prog O L T8 k (aG 4 (e::f::g::i::j::l::aG 12 (y::z::aG 8 (I::J::aG 2 (zx::zw::aG 14 [])))))=bB prog .lss 3 zw zx λaa=>aN aa (bC O 69 [f] λab=>bC O 70 [ab,l,zw,j] λac=>bB prog .add 3 g ac λad=>bB prog .add 3 zw (.I 1) λae=>k .normal (aG 4 (e::f::ad::i::j::l::aG 12 (y::z::aG 8 (I::J::aG 2 (zx::ae::aG 14 [])))))) (k (.exit 4) (aG 4 (e::f::g::i::j::l::aG 12 (y::z::aG 8 (I::J::aG 2 (zx::zw::aG 14 [])))))):=by kernel_rfl
def T7:CC:=cc prog 219055916016 40 [1,1,1,1,0,1,0,0,1,1,0,0,1,1,1,0,0]
def Uc:KV:=(bV 2 (bV 1 (cJ prog O L (cc prog 219055916016 40 [1,1,1,1,0,1,0,0,1,1,1]) (iO 219055916016 k))))
def T9 (O:aH)(L:LV) (k:KV) (e f g i j l y z I J zx zw:Value):MV:=bB prog .add 3 z (.I 1) λaa=>k .normal (aG 4 (e::f::g::i::j::l::aG 12 (y::aa::aG 8 (I::J::aG 2 (zx::zw::aG 14 [])))))
theorem aS8:Uc O L k (.exit 2) (aG 4 (e::f::g::i::j::l::aG 12 (y::z::aG 8 (I::J::aG 2 (zx::zw::aG 14 [])))))=T9 O L k e f g i j l y z I J zx zw:=by kernel_rfl
theorem aEz:aO prog O L T7 k (aG 4 (e::f::g::i::j::l::aG 12 (y::z::aG 8 (I::J::aG 2 (zx::zw::aG 14 [])))))=bB prog .lss 3 J I λaa=>aN aa (L (aO prog O L T8) (Ud O L k) (aG 4 (e::f::g::i::j::J::aG 12 (y::z::aG 8 (I::J::aG 2 (i::some (.I 0)::aG 14 [])))))) (k (.exit 2) (aG 4 (e::f::g::i::j::l::aG 12 (y::z::aG 8 (I::J::aG 2 (zx::zw::aG 14 [])))))):=by kernel_rfl
def T6:CC:=cc prog 219055916016 40 [1,1,1,1,0,1,0,0]
def Ub:KV:=(bV 0 (cJ prog O L (cc prog 219055916016 40 [1,1,1,1,1]) (cS prog Tryz.f40)))
theorem aS7:Ub O L (.exit 0) (aG 4 (e::f::g::i::j::l::aG 12 (y::z::aG 8 (I::J::aG 2 (zx::zw::aG 14 [])))))=aM (aK [g]):=by kernel_rfl
theorem aEy:aO prog O L T6 k (aG 4 (e::f::g::i::j::l::aG 12 (y::z::aG 8 (I::J::aG 2 (zx::zw::aG 14 [])))))=bB prog .lss 3 z y λaa=>aN aa (bC O 32 [f] λab=>bC O 68 [ab,z] λac=>bB prog .add 3 g ac λad=>L (aO prog O L T7) (Uc O L k) (aG 4 (e::f::ad::i::z::l::aG 12 (y::z::aG 8 (i::some (.I 0)::aG 2 (zx::zw::aG 14 [])))))) (k (.exit 0) (aG 4 (e::f::g::i::j::l::aG 12 (y::z::aG 8 (I::J::aG 2 (zx::zw::aG 14 [])))))):=by kernel_rfl
theorem aTa:aR prog O L 40 [N,P]=bC O 31 [N,P] λaa=>bC O 37 [N] λab=>bC O 67 [ab,P] λac=>bN ac λad=>bB prog .add 3 ad (.I 1) λae=>bC O 37 [N] λaf=>bO (pF 2 af) λag=>L (aO prog O L T6) (Ub O L) (aG 4 (some (.I 0)::aa::some (.I 0)::ae::some aE::some aE::aG 12 (ag::some (.I 0)::aG 8 (some aE::some aE::aG 2 (some aE::some aE::aG 14 []))))):=by kernel_rfl
def Ue:CC:=cc prog 459534 62 [1,1,0,1,0,0]
def Uf:KV:=(bV 0 (cJ prog O L (cc prog 459534 62 [1,1,1]) (cS prog Tryz.f62)))
theorem aTb:Uf O L (.exit 0) (aG 1 (b::c::d::aG 4 (j::l::aG 6 (s::t::u::aG 41 []))))=bM (oM l) λaa=>aM (aK [aa]):=by kernel_rfl
theorem aEB:aO prog O L Ue k (aG 1 (b::c::d::aG 4 (j::l::aG 6 (s::t::u::aG 41 []))))=bB prog .lss 3 u t λaa=>aN aa (bIL 1 s u λab=>bC O 99 [ab] λac=>bX 0 ac λad=>bX 1 ac λae=>bM (aZ 157 [(.int .u8 0),(.int .u8 0),(.int .u16 0),(.int .u8 0),(.int .u8 0),(.int .u32 0)] .fix) λaf=>bM (stN 6 af ad) λag=>bB prog .neq 59 ae (.int .u16 0) λah=>gFL ah false 0 af λai=>bG ah false (aP (bin prog .neq 5 ai (.int .u8 1))) λaj=>bP ah (.bool true) aj λak=>gFL ak false 1 af λal=>bG ak false (cK prog 5 3 al) λam=>bG ak false (aX b) λan=>bG ak false (aP (bin prog .neq 3 am an)) λao=>bP ak (.bool true) ao λap=>aN ap (bB prog .add 3 u (.I 1) λaq=>k .normal (aG 1 (b::c::d::aG 4 (j::l::aG 6 (s::t::aq::aG 41 []))))) (bFL 2 af λar=>bC O 100 [c,ar] λau=>bB prog .geq 112 au c λav=>bG av true (aX au) λaw=>bG av true (aX d) λax=>bG av true (aP (bin prog .lss 112 aw ax)) λay=>bP av ay (.bool false) λaz=>aN az (bM (kS .num l au u) λba=>bB prog .add 3 u (.I 1) λbb=>k .normal (aG 1 (b::c::d::aG 4 (j::l::aG 6 (s::t::bb::aG 41 []))))) (bB prog .add 3 u (.I 1) λbc=>k .normal (aG 1 (b::c::d::aG 4 (j::l::aG 6 (s::t::bc::aG 41 []))))))) (k (.exit 0) (aG 1 (b::c::d::aG 4 (j::l::aG 6 (s::t::u::aG 41 []))))):=by kernel_rfl
theorem aTc:aR prog O L 62 [N,P,Q,R]=bM lV λaa=>bN N λab=>L (aO prog O L Ue) (Uf O L) (aG 1 (P::Q::R::aG 4 (some (.I 0)::aa::aG 6 (N::ab::some (.I 0)::aG 41 [])))):=by kernel_rfl
end Go.Proofs.YtciiopkbmjppfaaGreatDoor
end
namespace Go.Proofs.YtciiopkbmjppfaaGreatDoor
open Go.Proofs.Tryz
open Go.Abs Go.Abs.M
open Classical
section
variable {H0 H H' : aF} {O O' : FP → Nat → Prop} {a : FL} {F F' : Nat → Part → Nat → Prop} {p : PlanD} {ev wv nv e' w' n' : Value} {t t' : Nat} {s s' : FS} {m pb : Nat} {sv : Value} {sent : List Pkt}
def yA (p:PlanD)(ev wv nv:Value)(a:FL)(sv:Value):Blk:= .cells (plC p ev wv nv++[pt a.fb,sv,.int .i64 0]) 44 .fix
structure PlayI (H0 H:aF)(O:FP->Nat->Prop)(a:FL)(F:Nat->Part->Nat->Prop)(p:PlanD)(ev wv nv e' w' n':Value)(t:Nat)(s:FS)(pb:Nat)(sv:Value)(sent:List Pkt):Prop where
 fab:cW H0 H O a F p e' w' n' t s
 blk:H[pb]? =some (yA p ev wv nv a sv)
 own:(∀i,¬O i pb)/\H0.length<=pb
 row:Rw Pkt.kF 31 4 H sv sent
 rowo: ∀b,aT sv b->(∀i,¬O i b)/\H0.length<=b/\b≠pb
theorem PlayI.mv (h:PlayI H0 H O a F p ev wv nv e' w' n' t s pb sv sent)(hf:cW H0 H' O' a F' p e' w' n' t' s')(z:Frz O O' H H'):PlayI H0 H' O' a F' p ev wv nv e' w' n' t' s' pb sv sent:=by
 obtain⟨z1,z2⟩:=z.2 pb (bU h.blk) h.own.1
 exact⟨hf,z1.trans h.blk,⟨z2,h.own.2⟩,h.row.cZ λb hb=>(z.2 b (h.row.dO hb) (h.rowo b hb).1).1,λb hb=>⟨(z.2 b (h.row.dO hb) (h.rowo b hb).1).2,(h.rowo b hb).2⟩⟩
theorem PlayI.rF (h:PlayI H0 H O a F p ev wv nv e' w' n' t s pb sv sent)(he:Ext H H'):PlayI H0 H' O a F p ev wv nv e' w' n' t s pb sv sent:=h.mv (h.fab.dX he) (Frz.ext O he)
theorem PlayI.ld (h:PlayI H0 H O a F p ev wv nv e' w' n' t s pb sv sent)(j:Nat)(v:Value)(hv:(plC p ev wv nv++[pt a.fb,sv,.I 0])[j]? =some v):ld1 (.Q pb j) H=some (v,H):=bA h.blk hv
theorem aTe {Oz:FP->Nat->Prop}{Hz:aF}{st R B:Nat}(hC:TopC (bH p) st R)(hst:st<65536)(hB:B<20000)(hR:R<=8)(k i0:Nat)(hk:k<(aU p).length)(hm:2000<m){K:Ex->K (Value×aF)}{Q:aF->Value->Prop}{n:Nat}{T:Nat}(hT:T<900000)
  {s':FS}(hK: ∀(H':aF)(O':FP->Nat->Prop)(F':Nat->Part->Nat->Prop),PlayI H0 H' O' a F' p ev wv nv e' w' n' (T+n) s' pb sv sent->Frz Oz O' Hz H'->TopI (bH p) st R B s'-> ∀(x3 x4:Value),∃H2 u2,Tw (lvl prog pkN m) (aL m) K (pt pb) (.I (k:Nat)) x3 x4 H'=some (u2,H2)/\Q H2 u2)(hn:n<=64):
  ∀(q i l:Nat)(H:aF)(O:FP->Nat->Prop)(F:Nat->Part->Nat->Prop)(s:FS),n-i=q->i<=n->q<l->PlayI H0 H O a F p ev wv nv e' w' n' (T+i) s pb sv sent->Frz Oz O Hz H->TopI (bH p) st R B s->qF (bH p) k (n-i) s=s'-> ∃H2 u2,aL l (aO prog (lvl prog pkN m) (aL m) Tv) (Ty (lvl prog pkN m) (aL m) K) (some (pt pb)::aG 1 (some (.I (k:Nat))::some (.I (n:Nat))::some (.I (i:Nat))::aG 42 [])) H=some (u2,H2)/\Q H2 u2:=by
 intro q;induction q with
 |zero=>
  intro i l H O F s hq hi hl h hz hI hd;intros;obtain⟨l,rfl⟩:=aB l U
  obtain rfl:i=n:=U
  have e:decide ((i:Int)<(i:Nat))=false:=by simp
  rw[Nat.sub_self] at hd;have hd:s=s':=hd;subst hd;rw[bS,aEu];simp only[gsR,e];rw[aS2];exact hK H O F h hz hI ..
 |succ q ih=>
  intro i l H O F s hq hi hl h hz hI hd;intros;obtain⟨l,rfl⟩:=aB l U
  have e:decide ((i:Int)<(n:Nat))=true:=aUX U
  have e3:=aA (i:=i) U
  have l11:=h.ld 11 (pt a.fb) rfl;obtain⟨H1,O1,F1,g1,h1,z1⟩:=S2 h.fab U (m:=m) U k 0 hk
  obtain⟨d1,d2⟩:=hI.Jg hC hst hB hR hk 0;simp only[show((0:Nat):Int)=0 from rfl] at g1
  have z61:((((oK (bH p) k 0 s).1:Nat):Int)==61)=false:=by rw[beq_eq_false_iff_ne];omega
  have hq1:n-i=(n-(i+1))+1:=U
  rw[hq1] at hd;rw[bS,aEu];simp only[gsR,e,l11,g1,z61,aV,e3];exact ih (i+1) l H1 O1 F1 _ U U U (h.mv h1 z1) (hz.tr z1) d2 hd ..
theorem aTf {Oz:FP->Nat->Prop}{Hz:aF}{st R B:Nat}(hC:TopC (bH p) st R)(hst:st<65536)(hB:B<20000)(hR:R<=8){n:Nat}(hn:(aU p).length=n)(hm:3000<m){T:Nat}(hT:T<800000){s':FS}:
  ∀(q i l:Nat)(H:aF)(O:FP->Nat->Prop)(F:Nat->Part->Nat->Prop)(s:FS),n-i=q->i<=n->q<l->PlayI H0 H O a F p ev wv nv e' w' n' (T+64*i) s pb sv sent->Frz Oz O Hz H->TopI (bH p) st R B s->tY (bH p) (List.range' i q) s=s'-> ∀(x3 x4:Value),
  ∃H2 u2,aL l (aO prog (lvl prog pkN m) (aL m) Tu) (Tx (lvl prog pkN m) (aL m)) (some (pt pb)::aG 1 (some (.I (i:Nat))::x3::x4::aG 42 [])) H=some (u2,H2)/\u2=aK []/\ ∃O' F',PlayI H0 H2 O' a F' p ev wv nv e' w' n' (T+64*n) s' pb sv sent/\Frz Oz O' Hz H2/\TopI (bH p) st R B s':=by
 have h36:=oC p;intro q;induction q with
 |zero=>
  intro i l H O F s hq hi hl h hz hI hd;intros;obtain⟨l,rfl⟩:=aB l U
  obtain rfl:i=n:=U
  have e:decide ((i:Int)<(i:Nat))=false:=by simp
  have hd:s=s':=hd;subst hd;have l11:=h.ld 11 (pt a.fb) rfl;obtain⟨u,H1,g1,x1,r1,_⟩:=Dd h.fab (m:=m) U
  have hlen:=r1.rs.eC;rw[hn] at hlen;refine⟨H1,_,?_,rfl,O,F,h.rF x1,hz.tr (Frz.ext O x1),hI⟩;rw[bS,aEt];simp only[gsR,l11,g1,hlen,e];rw[aS1]
  first|done|rfl
 |succ q ih=>
  intro i l H O F s hq hi hl h hz hI hd;intros;obtain⟨l,rfl⟩:=aB l U
  have e:decide ((i:Int)<(n:Nat))=true:=aUX U
  have e3:=aA (i:=i) U
  have hk:i<(aU p).length:=U
  have l11:=h.ld 11 (pt a.fb) rfl;obtain⟨u,H1,g1,x1,r1,_⟩:=Dd h.fab (m:=m) U
  have hlen:=r1.rs.eC;rw[hn] at hlen;have h1:=h.rF x1;have l11':=h1.ld 11 (pt a.fb) rfl;have g2:=vR h1.fab (m:=m) U (i:Int)
  have hv:mF p a (i:Int)=pt (a.lb i):=by
   unfold mF;rw[if_pos U,aUF]
  rw[hv] at g2;have hl':=h1.fab.link i hk;have hfew:=hl'.few;obtain⟨v,H2,g3,x2,r2⟩:=Lk.Sw (pr:=pkN) (aQ rfl) (aQ rfl) hl' (m:=m) U
  have hlen2:=r2.uS;have h2:=h1.rF x2;rw[aD5] at hd;have hd:tY (bH p) (List.range' (i+1) q) (qF (bH p) i (s.l i).length s)=s':=hd;rw[bS,aEt];simp only[gsR,l11,g1,hlen,e,l11',g2,g3,hlen2];refine aTe (m:=m) (n:=(s.l i).length) (s':=qF (bH p) i (s.l i).length s) (T:=T+64*i) (Oz:=Oz) (Hz:=Hz) (Q:=λH2 u2=>u2=aK []/\ ∃O' F',PlayI H0 H2 O' a F' p ev wv nv e' w' n' (T+64*n) s' pb sv sent/\Frz Oz O' Hz H2/\TopI (bH p) st R B s') hC hst hB hR i 0 hk U U ?_ U (s.l i).length 0 m H2 O F s U U U h2 ((hz.tr (Frz.ext O x1)).tr (Frz.ext O x2)) hI rfl ..
  intro H3 O3 F3 h3 z3 I3;intros;unfold Tw;simp only[gsR,aV,e3];exact ih (i+1) l H3 O3 F3 _ U U U (h3.mv (h3.fab.Ak U) (Frz.I7 O3 H3)) z3 I3 hd ..
theorem aTg {st R B:Nat}(hC:TopC (bH p) st R)(hst:st<65536)(hB:B+6<20000)(hR:R<=8)(h:PlayI H0 H O a F p ev wv nv e' w' n' t s pb sv sent)(hI:TopI (bH p) st R B s)(ht:t<700000)(hk:s.k<1000000)(hm:6000<m):
  ∃H' O' F',lvl prog pkN m (.func 18) [pt pb] H=some (aK [],H')/\PlayI H0 H' O' a F' p ev wv nv e' w' n' (t+2400) (kP (bH p) s) pb sv sent/\Frz O O' H H'/\TopI (bH p) st R (B+6) (kP (bH p) s):=by
 have l11:=h.ld 11 (pt a.fb) rfl;obtain⟨H1,O1,F1,g1,h1,z1⟩:=S3 h.fab U hk (m:=m-1) U
 have hN: ∀v,v<(bH p).N-> ∃t,NInv ((bH p).c v) t (s.n v):=λv hv=>⟨_,(h.fab.node v hv).inv⟩
 have I1:=hI.Ti hC hN;have h36:=oC p;have p1:=h.mv h1 z1;have main: ∃H' u,lvl prog pkN m (.func 18) [pt pb] H=some (u,H')/\u=aK []/\ ∃O' F',PlayI H0 H' O' a F' p ev wv nv e' w' n' (t+42+64*(aU p).length) (kP (bH p) s) pb sv sent/\Frz O O' H H'/\TopI (bH p) st R (B+6) (kP (bH p) s):=by
  refine dL (aQ rfl) U ?_
  rw[aS3];simp only[gsR,l11,g1];exact aTf (m:=m-1) (n:=(aU p).length) hC hst hB hR rfl U (T:=t+42) U (aU p).length 0 (m-1) H1 O1 F1 (qG (bH p) s) U U U p1 z1 I1 (by
   unfold kP;rw[List.range_eq_range']
   rfl) ..
 obtain⟨H',u,g2,rfl,O',F',h2,z2,I2⟩:=main
 exact⟨H',O',F',g2,h2.mv (h2.fab.Ak U) (Frz.I7 O' H'),z2,I2⟩
end
def nB (v:Value):Prop:= ∃a n c,v= .slice a n c
theorem Ui {α:Type}{el:α->List Value}{e:TypeId}{H:aF}{v:Value}{xs:List α}(h:Rs el e H v xs):nB v:=by
 rcases h with⟨rfl,_⟩|⟨b,o,c,rfl,_⟩
 ·exact⟨_,_,_,rfl⟩
 ·exact⟨_,_,_,rfl⟩
theorem aTn {H:aF}{p:PlanD}{ev wv nv:Value}(h:PV H p ev wv nv):nB ev/\nB wv/\nB nv:=by
 obtain⟨us,h1,_⟩:=h.n
 exact⟨Ui h.e,Ui h.w,Ui h1⟩
theorem aTi {p:PlanD}{ev wv nv:Value}(h:nB ev/\nB wv/\nB nv)(G:aF):chk (some (plV p ev wv nv,G)) (plV p ev wv nv)=true:=by
 obtain⟨⟨a1,a2,a3,rfl⟩,⟨b1,b2,b3,rfl⟩,⟨c1,c2,c3,rfl⟩⟩:=h;simp[chk,veq,pJ,plV,plC]
theorem aTh (o:OpT)(G:aF):chk (some (o.qH,G)) o.qH=true:=by simp[chk,veq,pJ,OpT.qH,OpT.lU]
def ixI (k:Int)(n:Nat):Nat:=if 0<=k then k.toNat else n
def Ao (l:List (List UInt8))(k:Int):List (List UInt8):=l.eraseIdx (ixI k l.length)
def yE (bag:Nat)(l:List (List UInt8))(k:Int):List (List UInt8):=match l[ixI k l.length]? with
 |some b=>I0 bag l b
 |none=>l
def yB (l:List (List UInt8))(k:Int)(x:UInt8):List (List UInt8):=match l[ixI k l.length]? with
 |some b=>if x=0∨b=[] then l else l.set (ixI k l.length) (Lk.I6 b 0 x)
 |none=>l
def jC (p:PlanD)(o:OpT)(q:FS×List Pkt):FS×List Pkt:=
 if o.kind%16<4 then((nA p o.x q.1).2,if(nA p o.x q.1).1=0 then q.2++[o.x] else q.2)
 else if o.kind%16<8 then(if 0<=o.k then(oK (bH p) o.h.toNat o.k.toNat q.1).2 else q.1,q.2)
 else if o.kind%16=8 then({q.1 with l:=up1 q.1.l o.h.toNat (Ao (q.1.l o.h.toNat) o.k)},q.2)
 else if o.kind%16=9 then({q.1 with l:=up1 q.1.l o.h.toNat (yE p.bag.toNat (q.1.l o.h.toNat) o.k)},q.2)
 else if o.kind%16=10 then({q.1 with l:=up1 q.1.l o.h.toNat (yB (q.1.l o.h.toNat) o.k o.b)},q.2)
 else if o.kind%16<13 then(qG (bH p) q.1,q.2)
 else(kP (bH p) q.1,q.2)
def yD (p:PlanD)(o:OpT):OpT:={inW p (aU p).length {o with near:=true} with at':=0}
section
variable {H0 H H' : aF} {O O' : FP → Nat → Prop} {a : FL} {F F' : Nat → Part → Nat → Prop} {p : PlanD} {ev wv nv e' w' n' : Value} {t t' : Nat} {s s' : FS} {m pb : Nat} {sv : Value} {sent : List Pkt}
theorem yC {k:Int}(h:0<=k)(n:Nat):ixI k n=k.toNat:=if_pos h
theorem Ug {k:Int}(h:k<0)(n:Nat):ixI k n=n:=if_neg U
theorem Uh (h:PlayI H0 H O a F p ev wv nv e' w' n' t s pb sv sent){k:Nat}(hk:k<(aU p).length){G':Nat->Prop}{l':List (List UInt8)}(hl:Lk.IsLink H' (a.lb k) l' p.bag.toNat G')(hm:Mv (O (.lk k)) G' H H'):
  PlayI H0 H' (updI O (.lk k) G') a F p ev wv nv e' w' n' t {s with l:=up1 s.l k l'} pb sv sent:=h.mv (h.fab.lk hk hl hm) (Frz.I8 (λ_ hb=>hb) hm)
theorem aTl (h:PlayI H0 H O a F p ev wv nv e' w' n' t s pb sv sent){k:Nat}(hk:k<(aU p).length)(i:Int)(hm:1000<m):
  ∃u H' O',lvl prog pkN m (.func 28) [pt (a.lb k),.I i] H=some (u,H')/\PlayI H0 H' O' a F p ev wv nv e' w' n' t {s with l:=up1 s.l k (Ao (s.l k) i)} pb sv sent:=by
 have hl:=h.fab.link k hk;by_cases c:0<=i/\i<(s.l k).length
 ·obtain⟨j,rfl⟩: ∃j:Nat,i=j:=⟨i.toNat,by omega⟩
  obtain⟨u,H1,g1,f1,l1,_⟩:=Lk.aD0 (pr:=pkN) (aQ rfl) (aQ rfl) (aQ rfl) hl (m:=m) U j (aUf U)
  refine⟨_,H1,updI O (.lk k) (O (.lk k)),g1,?_⟩;have:=Uh h hk l1 (Jb f1);unfold Ao;rw[yC c.1];exact this
 ·have g1:=Lk.Sx (pr:=pkN) (aQ rfl) (aQ rfl) hl (m:=m) U i U
  refine⟨_,H,O,g1,?_⟩;have e:Ao (s.l k) i=s.l k:=by
   unfold Ao;refine List.eraseIdx_of_length_le ?_;by_cases c1:0<=i
   ·rw[yC c1];omega
   ·rw[Ug U];exact aUi _
  rw[e,S8];exact h
theorem aTm (h:PlayI H0 H O a F p ev wv nv e' w' n' t s pb sv sent){k:Nat}(hk:k<(aU p).length)(i:Int)(hm:1000<m):
  ∃u H' O',lvl prog pkN m (.func 30) [pt (a.lb k),.I i] H=some (u,H')/\PlayI H0 H' O' a F p ev wv nv e' w' n' t {s with l:=up1 s.l k (yE p.bag.toNat (s.l k) i)} pb sv sent:=by
 have hl:=h.fab.link k hk;by_cases c:0<=i/\i<(s.l k).length
 ·obtain⟨j,rfl⟩: ∃j:Nat,i=j:=⟨i.toNat,by omega⟩
  obtain⟨bs,hbs⟩: ∃bs,(s.l k)[j]? =some bs:=⟨_,aUf U⟩
  obtain⟨H1,g1,f1,l1⟩:=Lk.aSh (pr:=pkN) (aQ rfl) (aQ rfl) (aQ rfl) (aQ rfl) hl (m:=m) U j hbs
  refine⟨_,H1,updI O (.lk k) (Up (O (.lk k)) H H1),g1,?_⟩;have:=Uh h hk l1 (De f1);unfold yE;rw[yC c.1,aUF,hbs];exact this
 ·have g1:=Lk.aSg (pr:=pkN) (aQ rfl) (aQ rfl) hl (m:=m) U i U
  refine⟨_,H,O,g1,?_⟩;have e:yE p.bag.toNat (s.l k) i=s.l k:=by
   unfold yE;have:(s.l k)[ixI i (s.l k).length]? =none:=aUo (by
    by_cases c1:0<=i
    ·rw[yC c1];omega
    ·rw[Ug U];exact aUi _)
   rw[this]
  rw[e,S8];exact h
theorem aTj (h:PlayI H0 H O a F p ev wv nv e' w' n' t s pb sv sent){k:Nat}(hk:k<(aU p).length)(i:Int)(x:UInt8)(hm:1000<m):
  ∃u H' O',lvl prog pkN m (.func 36) [pt (a.lb k),.I i,.I 0,.int .u8 x.toNat] H=some (u,H')/\PlayI H0 H' O' a F p ev wv nv e' w' n' t {s with l:=up1 s.l k (yB (s.l k) i x)} pb sv sent:=by
 have hl:=h.fab.link k hk;by_cases c:(0<=i/\i<(s.l k).length)/\x≠0/\(s.l k)[i.toNat]? ≠some []
 ·obtain⟨c1,c2,c3⟩:=c
  obtain⟨j,rfl⟩: ∃j:Nat,i=j:=⟨i.toNat,by omega⟩
  obtain⟨bs,hbs⟩: ∃bs,(s.l k)[j]? =some bs:=⟨_,aUf U⟩
  have hne:bs≠[]:=λe=>c3 (by rw[aUF,hbs,e])
  obtain⟨H1,g1,f1,l1,_⟩:=Lk.aSf (pr:=pkN) (aQ rfl) (aQ rfl) hl (m:=m) U j 0 x hbs c2 hne
  refine⟨_,H1,updI O (.lk k) (O (.lk k)),g1,?_⟩;have:=Uh h hk l1 (Jb f1);unfold yB;rw[yC c1.1,aUF,hbs];simp only;rw[if_neg (by rintro (h|h);exact c2 h;exact hne h)]
  exact this
 ·have g1:=Lk.aSe (pr:=pkN) (aQ rfl) (aQ rfl) hl (m:=m) U i 0 x (by
   by_cases c1:0<=i/\i<(s.l k).length
   ·by_cases c2:x=0
    ·exact .inr (.inr (.inr (.inl c2)))
    ·refine .inr (.inr (.inr (.inr ?_)))
     by_cases c3:(s.l k)[i.toNat]? =some []
     ·exact c3
     ·exact absurd ⟨c1,c2,c3⟩ c
   ·omega)
  refine⟨_,H,O,g1,?_⟩;have e:yB (s.l k) i x=s.l k:=by
   unfold yB;cases hb:(s.l k)[ixI i (s.l k).length]? with
   |none=>rfl
   |some b=>
    have hi:0<=i/\i<(s.l k).length:=by
     have:=(aUd.mp hb).1;by_cases c1:0<=i
     ·rw[yC c1] at this;omega
     ·rw[Ug U] at this;omega
    rw[yC hi.1] at hb;simp only;rw[if_pos];by_cases c2:x=0
    ·exact .inl c2
    ·by_cases c3:b=[]
     ·exact .inr c3
     ·exact absurd ⟨hi,c2,by rw[hb];exact λhh=>c3 (aUP hh)⟩ c
  rw[e,S8];exact h
theorem aTk (h:PlayI H0 H O a F p ev wv nv e' w' n' t s pb sv sent)(x:Pkt)(hs:sent.length<=1000):
  ∃sv' H1 H2,app 31 4 32 sv (.slice (some ⟨H.length,0,none⟩) 1 1) (H++[.cells x.kF 31 .row])=some (sv',H1)/\H1[pb]? =some (yA p ev wv nv a sv)/\stN 1 (.Q pb 12) sv' H1=some (undef,H2)/\PlayI H0 H2 O a F p ev wv nv e' w' n' t s pb sv' (sent++[x]):=by
 have hn0:New H0 sv:=λb hb=>(h.rowo b hb).2.1
 obtain⟨sv',H1,g1,r1,n1,x1,f1,u1⟩:=h.row.E6 (by':=32) zX Ho aC x hn0 h.fab.own.ext (eD (n:=2000) aC U)
 have hpb: ¬aT sv pb:=λhh=>(h.rowo pb hh).2.2 rfl
 have bp1:H1[pb]? =some (yA p ev wv nv a sv):=by rw[f1.2 pb (bU h.blk) hpb];exact h.blk
 have k1:cW H0 H1 O a F p e' w' n' t s:=h.fab.Db f1.1 (λi b hb=>f1.2 b (h.fab.own.lt i b hb) λhh=>(h.rowo b hh).1 i hb) x1
 obtain⟨w1,w2⟩:=xV r1;have st:stN 1 (.Q pb 12) sv' H1=some (undef,H1.set pb (yA p ev wv nv a sv')):=by
  rw[fV 1 _ _ _ (by rw[w1];rfl),bp1]
  unfold yA;rw[w1,iW _ _ _ _ _ _ aC (by simp[plC]) w2]
  rfl
 have hkp: ∀b,b≠pb->(H1.set pb (yA p ev wv nv a sv'))[b]? =H1[b]? :=λb hb=>aUe (λhh=>hb hh.symm)
 have ho: ∀b,aT sv' b->(∀i,¬O i b)/\H0.length<=b/\b≠pb:=λb hb=>by
  rcases u1 b hb with hh|⟨hh,_⟩
  ·exact h.rowo b hh
  ·exact⟨λi hi=>by have:=h.fab.own.lt i b hi;omega,n1 b hb,by have:=bU h.blk;omega⟩
 refine⟨sv',H1,_,g1,bp1,st,⟨k1.Db (by rw[List.length_set];exact aUi _) (λi b hb=>hkp b λhh=>h.own.1 i (by rw[<-hh];exact hb)) (gM x1 h.own.2),by rw[aUj (bU bp1)],h.own,r1.cZ λb hb=>hkp b (ho b hb).2.2,ho⟩⟩
end
def yF (n:Nat):Value:= .int .u64 n
def IsKeys (H:aF)(mb:Nat)(ks:List Nat):Prop:= ∃(es:List (Nat×Value×Nat))(c:Nat),H[mb]? =some (.map (es.map (fX yF)) c)/\es.map (·.1)=ks/\ks.Nodup
theorem IsKeys.aTo {H H':aF}{mb:Nat}{ks:List Nat}(h:IsKeys H mb ks)(hk:H'[mb]? =H[mb]?):IsKeys H' mb ks:=by
 obtain⟨es,c,h1,h2⟩:=h
 exact⟨es,c,by rw[hk,h1],h2⟩
theorem IsKeys.aTq (H:aF):IsKeys (H++[.map [] 0]) H.length []:=⟨[],0,by simp,rfl,List.nodup_nil⟩
theorem IsKeys.aTp {H:aF}{mb:Nat}{ks:List Nat}(h:IsKeys H mb ks):oM (.map (some mb)) H=some (.I (ks.length:Nat),H):=by
 obtain⟨es,c,h1,h2,_⟩:=h;unfold oM;simp only;rw[h1];simp only;rw[<-h2,aUr,aUr]
theorem IsKeys.aTr {kt:KeyT}(hk:KeyC kt yF){H:aF}{mb:Nat}{ks:List Nat}(h:IsKeys H mb ks)(n:Nat)(v:Value): ∃X,kS kt (.map (some mb)) (yF n) v H=some (undef,H.set mb X)/\IsKeys (H.set mb X) mb (nQ ks (some n)):=by
 obtain⟨es,c,h1,h2,h3⟩:=h;have hlt:=(aUd.mp h1).1;have e:nQ ks (some n)=if n∈ks then ks else ks++[n]:=rfl
 rw[e];by_cases hn:n∈ks
 ·rw[if_pos hn]
  rw[<-h2] at hn;obtain⟨e,he,hen⟩:=aUQ.mp hn;obtain⟨i,hi⟩:=List.getElem?_of_mem he;have hf:=zZ hk es i 0 e (by rw[h2];exact h3) hi
  rw[hen] at hf;refine⟨.map ((es.set i (n,v,e.2.2)).map (fX yF)) c,?_,es.set i (n,v,e.2.2),c,by rw[aUj hlt],?_,h3⟩
  ·unfold kS
   rw[if_pos (vI hk n)];simp only;rw[h1];simp only;rw[hf];simp only[aUy];rw[<-Cu];rfl
  ·rw[List.map_set,h2]
   refine aUO λj=> ?_
   rw[List.getElem?_set];split
   ·rename_i hij
    subst hij;split
    ·rw[<-h2,aUq,hi,Option.map_some,hen]
    ·rename_i hh
     have:=(aUd.mp hi).1;rw[<-h2,aUr] at hh;omega
   ·rfl
 ·rw[if_neg hn]
  have hf:=Ct hk n es 0 λe he hen=>hn (by rw[<-h2,<-hen];exact List.mem_map_of_mem he)
  refine⟨.map ((es++[(n,v,c)]).map (fX yF)) (c+1),?_,es++[(n,v,c)],c+1,by rw[aUj hlt],by rw[List.map_append,h2];rfl,?_⟩
  ·unfold kS
   rw[if_pos (vI hk n)];simp only;rw[h1];simp only;rw[hf,List.map_append];rfl
  ·rw[List.nodup_append]
   exact⟨h3,by simp,λa ha b hb hab=>hn (by rw[List.mem_singleton] at hb;rw[<-hb,<-hab];exact ha)⟩
theorem Uj (a:Acc):a.mH.length=5:=rfl
theorem aTs (a:Acc):cA a.mH=true:=rfl
def qI (p:PlanD)(v w:Nat):Nat:=(zL p.edges v w).toNat
def gR (p:PlanD)(s:FS)(k lane:Nat):Acc:=
 let v:=((aU p).getD k (0,0)).1.toNat
 let w:=((aU p).getD k (0,0)).2.toNat
 Df p.room.toNat lane ((s.n v).snd (qI p v w) lane) ((s.n w).rcv (qI p w v) lane) (s.l k)
def gB (p:PlanD)(s:FS):List Acc:=(List.range (aU p).length).flatMap λk=>(List.range p.lanes.toNat).map (gR p s k)
def vS (p:PlanD)(s:FS):Nat:=((List.range p.nodes.toNat).map λv=>sZ (cT p v) (s.n v)).sum
theorem Uk {p:PlanD}{N:Nat}(hN:OkP p N){v w:Nat}(h:((v:Int),(w:Int))∈aU p):zL p.edges v w=(qI p v w:Int)/\1<=qI p v w/\qI p v w<(cT p v).aJ/\((w:Int),(v:Int))∈aU p:=by
 rw[(qU hN).2,u7 hN.ve hN.h6] at h;simp only at h;obtain⟨i,hi⟩:=List.getElem?_of_mem h;have hp:=Z4 hi;have hl:=(aUd.mp hi).1;have hpo:(cT p v).aJ=(bes p.edges v).length+1:=by
  show((bes p.edges v).map Int.toNat).length+1=_
  rw[aUr]
 unfold qI;refine⟨by omega,by omega,by rw[hpo];omega,?_⟩
 rw[(qU hN).2,u7 hN.ve hN.h6];exact aKJ h
theorem aTt (c:Cfg)(x:Pkt)(s:NS):(oE c x s=((oE c x s).1,s)/\(oE c x s).1≠0)∨oE c x s=(0,{s with hL:=s.hL++[x]}):=by
 unfold oE p7;split
 ·exact .inl ⟨rfl,by simp⟩
 ·split
  ·exact .inl ⟨rfl,by simp⟩
  ·split
   ·exact .inl ⟨rfl,by simp⟩
   ·exact .inr rfl
end Go.Proofs.YtciiopkbmjppfaaGreatDoor
